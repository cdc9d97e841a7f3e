import Derived.Test.YtophgamjhngppaaDoorZ5C84B770
import Derived.Laws.OwnMore
import Derived.Deep.RegionHeld3
import Derived.Deep.RegionLaw
/- The document's cabinet: Used. -/
namespace Chart
open Go Go.RowKit Go.Proofs
attribute [local go_sem ↓] Go.wp_at_zero Go.wp_at_succ

/-- Which numbers below n stand on a list. -/
def marks (n : Nat) (t : List Nat) : List Value := (List.range n).map fun i => .bool (t.contains i)
theorem marks_length (n : Nat) (t : List Nat) : (marks n t).length = n := by simp [marks]
theorem marks_get {n : Nat} (t : List Nat) {i : Nat} (h : i < n) : (marks n t)[i]? = some (.bool (t.contains i)) := by simp [marks, h]
theorem marks_set {n : Nat} (t : List Nat) {x : Nat} : (marks n t).set x (.bool true) = marks n (t ++ [x]) := by
  apply List.ext_getElem?
  intro i
  rw [List.getElem?_set]
  by_cases hi : i < n
  · rw [marks_get _ hi, marks_get _ hi, marks_length]
    by_cases e : x = i
    · subst e
      simp [hi]
    · have : (t ++ [x]).contains i = t.contains i := by
        rw [Bool.eq_iff_iff, List.contains_iff_mem, List.contains_iff_mem, List.mem_append, List.mem_singleton]
        constructor
        · rintro (h | h)
          · exact h
          · exact absurd h.symm e
        · exact .inl
      rw [if_neg e, this]
  · rw [List.getElem?_eq_none (by rw [marks_length]; omega), List.getElem?_eq_none (l := marks n (t ++ [x])) (by rw [marks_length]; omega), marks_length]
    split
    · rw [if_neg (by omega)]
    · rfl
theorem marks_nil (n : Nat) : marks n [] = List.replicate n (.bool false) := by
  apply List.ext_getElem?
  intro i
  by_cases hi : i < n
  · rw [marks_get _ hi, List.getElem?_replicate, if_pos hi]
    rfl
  · rw [List.getElem?_eq_none (by rw [marks_length]; omega), List.getElem?_eq_none (by simp; omega)]
theorem usedFrom_append (t : List Nat) : ∀ (a b : List FileS) (i : Nat), RCab.usedFrom t i (a ++ b) = RCab.usedFrom t i a + RCab.usedFrom t (i + a.length) b
  | [], b, i => by simp [RCab.usedFrom]
  | f :: r, b, i => by
    simp only [List.cons_append, RCab.usedFrom, List.length_cons]
    rw [usedFrom_append t r b (i + 1), Nat.add_assoc, Nat.add_assoc, Nat.add_comm 1]
theorem usedFrom_snoc (t : List Nat) (fs : List FileS) (j : Nat) (f : FileS) (h : fs[j]? = some f) : RCab.usedFrom t 0 (fs.take (j + 1)) = RCab.usedFrom t 0 (fs.take j) + (if t.contains j then f.all.length else 0) := by
  have hl : (fs.take j).length = j := by
    have := (List.getElem?_eq_some_iff.1 h).1
    rw [List.length_take]
    omega
  rw [take_snoc' _ _ _ h, usedFrom_append, hl, Nat.zero_add]
  simp [RCab.usedFrom]
theorem usedFrom_le (t : List Nat) (M : Nat) : ∀ (fs : List FileS) (i : Nat), (∀ f ∈ fs, f.all.length ≤ M) → RCab.usedFrom t i fs ≤ fs.length * M
  | [], _, _ => by simp [RCab.usedFrom]
  | f :: r, i, h => by
    have h1 := usedFrom_le t M r (i + 1) fun x hx => h x (List.mem_cons.2 (.inr hx))
    have h2 := h f (List.mem_cons.2 (.inl rfl))
    simp only [RCab.usedFrom, List.length_cons, Nat.succ_mul]
    split <;> omega
theorem vals_get (l : Folder) (j : Nat) (y : Txt × Nat) (h : l[j]? = some y) : l.vals[j]? = some y.2 := by
  unfold Folder.vals
  rw [List.getElem?_map, h]
  rfl

theorem bool_info : (Tryd.prog.info? 4).map (fun i => (i.zero, i.size, i.bytes)) = some (some (.bool false), 1, 1) := by kernel_rfl
theorem made_bools (n : Nat) : (madeCells (Value.cells (.bool false)) (n * 1)).toList = marks n [] := by
  rw [marks_nil, Nat.mul_one]
  apply List.ext_getElem?
  intro i
  by_cases hi : i < n
  · rw [List.getElem?_replicate, if_pos hi]
    simp [madeCells, Value.cells, hi, Nat.mod_one]
  · rw [List.getElem?_eq_none (by simp [madeCells]; omega), List.getElem?_eq_none (by simp; omega)]

section
variable {w w1 : World} {p : Nat} {c : RCab} {fv nv sv wv : Value} {D : Nat → Prop}
set_option maxRecDepth 100000 in
set_option maxHeartbeats 2000000 in
theorem RefIn.used (h : RefIn w p c fv nv sv wv) (hn : c.files.length ≤ 1000000) (hs : c.sure.length ≤ 10000000) (hw : c.waiting.length ≤ 10000000) (hs2 : ∀ x ∈ c.sure, x.2 < c.files.length) (hw2 : ∀ x ∈ c.waiting, x.file < c.files.length) (hall : ∀ f ∈ c.files, f.all.length ≤ 1048576) :
    Calls Tryd.prog 41 #[.pointer (some ⟨p, 0, none⟩)] w fun e w' => e = .returned (.int .i64 (c.used : Nat)) ∧ Fr (fun _ => False) w w' := by
  have h1 : w.cell? ⟨p, 1, none⟩ = some fv := h.blk.cell 1
  have H := Lib.hid h
  have hlt := h.blk.lt
  obtain ⟨A, cp, rfl, hcp1, hcp2⟩ := h.sure.shape
  obtain ⟨A2, cp2, rfl, hcp21, hcp22⟩ := h.files.shape
  obtain ⟨A3, cp3, rfl, hcp31, hcp32⟩ := h.waiting.shape
  have HS2 := Lib.hid hs2
  have HW2 := Lib.hid hw2
  have HALL := Lib.hid hall
  clear h hs2 hw2 hall
  obtain ⟨i0, hi0, hz0, hz1, hz2⟩ := info_parts bool_info
  obtain ⟨wm, hmk, hom, hgr⟩ := run_makeSlice_full (P := Tryd.prog) w w.heap.size 130 4 i0 _ 1 Tryd.underlying130 hi0 hz0 hz1 .i64 .i64 c.files.length (by omega) (by rw [hz2]; omega) (by simp only [maxLen]; omega) (Nat.le_refl _)
  have hfm : Fr (fun _ => False) w wm := (Fr.of_grown hgr).mono fun _ _ h => by cases h
  have hrm := Row.of_own hom
  rw [made_bools] at hrm
  have HRM := Lib.hid hrm
  have HFM := Lib.hid hfm
  have HIN := Lib.hid (H.out.fr hfm fun _ _ => id)
  obtain ⟨g0, hg0⟩ : ∃ g0, g0 = w.heap.size := ⟨_, rfl⟩
  rw [← hg0] at hmk HRM
  have hne : ∀ k, RefOwn p (.slice A2 c.files.length cp2) nv (.slice A c.sure.length cp) (.slice A3 c.waiting.length cp3) k → ¬ k = g0 := fun k hk e => by
    have := H.out.lt k hk
    omega
  have HNE := Lib.hid hne
  clear hne
  have HG := Lib.hid hg0
  clear hrm hom hgr hg0 H hfm
  go_enter Tryd.func41, Tryd.ntmps41
  go_wp2
  clear hmk h1
  -- the names that last
  go_loopw [4] (fun i wr => ∃ j : Nat, j ≤ c.sure.length ∧ i = .int .i64 j ∧ Row wr 4 1 (.slice (some ⟨g0, 0, none⟩) c.files.length c.files.length) c.files.length (marks c.files.length (c.sure.vals.take j)) ∧ Fr (· = g0) wm wr) (fun i _ => c.sure.length - (RowKit.intOf i).toNat)
  case atStart => exact ⟨0, Nat.zero_le _, rfl, HRM.out, Fr.refl _ _⟩
  case round =>
    obtain ⟨j, hj, rfl, hrow, hfr⟩ := hrel
    have hin := HIN.out.fr hfr HNE.out
    have b3 : wr.cell? ⟨p, 3, none⟩ = some (.slice A c.sure.length cp) := hin.blk.cell 3
    by_cases hlt2 : j < c.sure.length
    · obtain ⟨⟨name, m⟩, hmem⟩ : ∃ y, c.sure[j]? = some y := ⟨_, List.getElem?_eq_getElem hlt2⟩
      obtain ⟨g, cp', hv, _, _, hcell, _, _⟩ := hin.sure.form (by omega)
      obtain ⟨rfl, rfl⟩ : A = some ⟨g, 0, none⟩ ∧ cp = cp' := by simpa using hv
      obtain ⟨d0, d1⟩ := entCells_get c.sure j _ hmem
      have c1 := hcell _ _ d1
      simp only at c1
      have hm : m < c.files.length := HS2.out _ (List.mem_of_getElem? hmem)
      obtain ⟨g', cq, hv2, _, _, hcell2, hfz2, _⟩ := hrow.form (by omega)
      obtain rfl : g0 = g' := by simp at hv2; omega
      have c2 := hcell2 m _ (marks_get (c.sure.vals.take j) hm)
      have f2 := hfz2 m
      have i1 : (0 : Int) ≤ (m : Int) := by omega
      have i2 : (m : Int) < (c.files.length : Int) := by omega
      have HM := Lib.hid hmem
      have HR := Lib.hid hrow
      clear hv d0 d1 hcell hmem hrow hin hv2 hcell2 hfz2
      go_wp2
      refine ⟨⟨j + 1, by omega, by go_num, ?_, hfr.setCell (p := ⟨g0, m, none⟩) (.inl rfl) _⟩, by simp [RowKit.intOf]; omega⟩
      rw [take_snoc' _ _ _ (vals_get _ _ _ HM.out), ← marks_set]
      exact HR.out.set m _
    · obtain rfl : j = c.sure.length := by omega
      have HR := Lib.hid hrow
      clear hrow hin
      go_wp2
      clear b3
      have ev : c.sure.vals.take c.sure.length = c.sure.vals := by
        have e : c.sure.vals.length = c.sure.length := by simp [Folder.vals]
        rw [← e, List.take_length]
      rw [ev] at HR
      have HF1 := Lib.hid hfr
      clear ev hj hlt2 hfr
      -- those of all changes since
      go_loopw [5] (fun i wr2 => ∃ j : Nat, j ≤ c.waiting.length ∧ i = .int .i64 j ∧ Row wr2 4 1 (.slice (some ⟨g0, 0, none⟩) c.files.length c.files.length) c.files.length (marks c.files.length (c.sure.vals ++ (c.waiting.map (·.file)).take j)) ∧ Fr (· = g0) wm wr2) (fun i _ => c.waiting.length - (RowKit.intOf i).toNat)
      case atStart => exact ⟨0, Nat.zero_le _, rfl, by rw [List.take_zero, List.append_nil]; exact HR.out, HF1.out⟩
      case round =>
        clear HR HF1
        obtain ⟨j, hj, rfl, hrow, hfr⟩ := hrel
        have hin := HIN.out.fr hfr HNE.out
        have b4 : wr.cell? ⟨p, 4, none⟩ = some (.slice A3 c.waiting.length cp3) := hin.blk.cell 4
        by_cases hlt2 : j < c.waiting.length
        · obtain ⟨⟨old, name, m⟩, hmem⟩ : ∃ y, c.waiting[j]? = some y := ⟨_, List.getElem?_eq_getElem hlt2⟩
          obtain ⟨g, cp', hv, _, _, hcell, _, _⟩ := hin.waiting.form (by omega)
          obtain ⟨rfl, rfl⟩ : A3 = some ⟨g, 0, none⟩ ∧ cp3 = cp' := by simpa using hv
          obtain ⟨d0, d1, d2⟩ := rchgCells_get c.waiting j _ hmem
          have c1 := hcell _ _ d2
          simp only at c1
          have hm : m < c.files.length := HW2.out _ (List.mem_of_getElem? hmem)
          obtain ⟨g', cq, hv2, _, _, hcell2, hfz2, _⟩ := hrow.form (by omega)
          obtain rfl : g0 = g' := by simp at hv2; omega
          have c2 := hcell2 m _ (marks_get _ hm)
          have f2 := hfz2 m
          have i1 : (0 : Int) ≤ (m : Int) := by omega
          have i2 : (m : Int) < (c.files.length : Int) := by omega
          have HM := Lib.hid hmem
          have HR := Lib.hid hrow
          clear hv d0 d1 d2 hcell hmem hrow hin hv2 hcell2 hfz2
          go_wp2
          refine ⟨⟨j + 1, by omega, by go_num, ?_, hfr.setCell (p := ⟨g0, m, none⟩) (.inl rfl) _⟩, by simp [RowKit.intOf]; omega⟩
          have ev : (c.waiting.map (·.file))[j]? = some m := by rw [List.getElem?_map, HM.out]; rfl
          rw [take_snoc' _ _ _ ev, ← List.append_assoc, ← marks_set]
          exact HR.out.set m _
        · obtain rfl : j = c.waiting.length := by omega
          have HR := Lib.hid hrow
          clear hrow hin
          go_wp2
          clear b4
          have ev : (c.waiting.map (·.file)).take c.waiting.length = c.waiting.map (·.file) := by
            rw [List.take_of_length_le (by simp)]
          rw [ev] at HR
          have HF1 := Lib.hid hfr
          clear ev hj hlt2 hfr
          -- the bytes
          go_loopw [6, 7] (fun n i wr3 => ∃ j : Nat, j ≤ c.files.length ∧ i = .int .i64 j ∧ n = .int .i64 (RCab.usedFrom c.taken 0 (c.files.take j) : Nat) ∧ wr3 = wr) (fun n i _ => c.files.length - (RowKit.intOf i).toNat)
          case atStart => exact ⟨0, Nat.zero_le _, rfl, rfl, rfl⟩
          case round =>
            obtain ⟨j, hj, rfl, rfl, rfl⟩ := hrel
            have hin := HIN.out.fr HF1.out HNE.out
            by_cases hlt3 : j < c.files.length
            · obtain ⟨f, hmem⟩ : ∃ f, c.files[j]? = some f := ⟨_, List.getElem?_eq_getElem hlt3⟩
              have b1 : wr.cell? ⟨p, 1, none⟩ = some (.slice A2 c.files.length cp2) := hin.blk.cell 1
              obtain ⟨g, cp', hv, _, _, hcell, _, _⟩ := hin.files.form (by omega)
              obtain ⟨rfl, rfl⟩ : A2 = some ⟨g, 0, none⟩ ∧ cp2 = cp' := by simpa using hv
              obtain ⟨d0, d1⟩ := rfileCells_get c.files j _ hmem
              have c1 := hcell _ _ d0
              obtain ⟨g', cq, hv2, _, _, hcell2, _, _⟩ := HR.out.form (by omega)
              obtain rfl : g0 = g' := by simp at hv2; omega
              have c2 := hcell2 j _ (marks_get _ hlt3)
              have hun := usedFrom_snoc c.taken c.files j f hmem
              have hle := usedFrom_le c.taken 1048576 (c.files.take j) 0 fun x hx => HALL.out x (List.mem_of_mem_take hx)
              have hfl := HALL.out f (List.mem_of_getElem? hmem)
              rw [List.length_take] at hle
              have hsz : ((str f.all).size : Int) = (f.all.length : Int) := by rw [str_size]
              have hle2 : RCab.usedFrom c.taken 0 (c.files.take j) ≤ 1048576000000 := by
                have : min j c.files.length * 1048576 ≤ 1000000 * 1048576 := Nat.mul_le_mul_right _ (by omega)
                omega
              have HU := Lib.hid hun
              clear hv hv2 d0 d1 hcell hcell2 hmem hin hun hle
              cases ht : (c.sure.vals ++ c.waiting.map (·.file)).contains j
              · rw [ht] at c2
                have HT := Lib.hid ht
                clear ht
                go_wp2
                refine ⟨⟨j + 1, by omega, by go_num, ?_, by trivial⟩, by simp [RowKit.intOf]; omega⟩
                have e := HU.out
                rw [show c.taken.contains j = false from HT.out, if_neg (by decide)] at e
                rw [e, Nat.add_zero]
              · rw [ht] at c2
                have HT := Lib.hid ht
                clear ht
                go_wp2
                refine ⟨⟨j + 1, by omega, by go_num, ?_, by trivial⟩, by simp [RowKit.intOf]; omega⟩
                have e := HU.out
                rw [show c.taken.contains j = true from HT.out, if_pos rfl] at e
                rw [e]
                rfl
            · obtain rfl : j = c.files.length := by omega
              clear hin
              go_wp2
              go_ret
              rw [List.take_length]
              exact ⟨rfl, HFM.out.trans HF1.out fun k hk => .inr (by rw [show k = g0 from hk, HG.out]; exact Nat.le_refl _)⟩
end
end Chart

/- The document's cabinet: a change of names. -/
namespace Chart
open Go Go.RowKit Go.Proofs
attribute [local go_sem ↓] Go.wp_at_zero Go.wp_at_succ

theorem rchg_info : (Tryd.prog.info? 124).map (fun i => (i.zero, i.size, i.bytes)) = some (some (.agg #[.string ⟨#[]⟩, .string ⟨#[]⟩, .int .i64 0]), 3, 40) := by kernel_rfl
theorem rchg_one (a b : ByteArray) (d : Int) : ∀ u ∈ (#[.string a, .string b, .int .i64 d] : Array Value).toList, u.oneCell' = true := by
  intro u hu
  simp at hu
  rcases hu with rfl | rfl | rfl <;> rfl

section
variable {w w1 : World} {p : Nat} {c : RCab} {fv nv sv wv : Value} {D : Nat → Prop}
theorem RefIn.turnWaiting (h : RefIn w p c fv nv sv wv) (F : Fr (fun k => wv.ownBlock = some k) w w1) {v : Value} {l : List RChg} (hv : Row w1 124 3 v l.length (rchgCells l)) : RefIn (w1.setCell ⟨p, 4, none⟩ v) p { c with waiting := l } fv nv sv v := by
  have hb := h.blk.fr F (h.waiting.ne_blk h.blk (by decide))
  have hf := h.files.fr F fun k hk e => h.files.ne_row h.waiting (by decide) hk e
  have h1 := h.now.fr F fun k hk e => h.now.ne_row h.waiting (by decide) hk e
  have h2 := h.sure.fr F fun k hk e => h.sure.ne_row h.waiting (by decide) hk e
  exact {
    blk := hb.set 4 _
    files := hf.far (hf.ne_blk hb (by decide)) _
    now := h1.far (h1.ne_blk hb (by decide)) _
    sure := h2.far (h2.ne_blk hb (by decide)) _
    waiting := hv.far (hv.ne_blk hb (by decide)) _ }
theorem RefIn.turnFiles (h : RefIn w p c fv nv sv wv) (F : Fr (fun k => fv.ownBlock = some k) w w1) {v : Value} {l : List FileS} (hv : Row w1 126 2 v l.length (rfileCells l)) : RefIn (w1.setCell ⟨p, 1, none⟩ v) p { c with files := l } v nv sv wv := by
  have hb := h.blk.fr F (h.files.ne_blk h.blk (by decide))
  have hf := h.waiting.fr F fun k hk e => h.waiting.ne_row h.files (by decide) hk e
  have h1 := h.now.fr F fun k hk e => h.now.ne_row h.files (by decide) hk e
  have h2 := h.sure.fr F fun k hk e => h.sure.ne_row h.files (by decide) hk e
  exact {
    blk := hb.set 1 _
    files := hv.far (hv.ne_blk hb (by decide)) _
    now := h1.far (h1.ne_blk hb (by decide)) _
    sure := h2.far (h2.ne_blk hb (by decide)) _
    waiting := hf.far (hf.ne_blk hb (by decide)) _ }
/-- A file is turned where it lies. -/
theorem RefIn.turnFile (h : RefIn w p c fv nv sv wv) (F : Fr (fun k => fv.ownBlock = some k) w w1) {l : List FileS} (hv : Row w1 126 2 fv l.length (rfileCells l)) : RefIn w1 p { c with files := l } fv nv sv wv where
  blk := h.blk.fr F (h.files.ne_blk h.blk (by decide))
  files := hv
  now := h.now.fr F fun k hk e => h.now.ne_row h.files (by decide) hk e
  sure := h.sure.fr F fun k hk e => h.sure.ne_row h.files (by decide) hk e
  waiting := h.waiting.fr F fun k hk e => h.waiting.ne_row h.files (by decide) hk e
theorem rchgCells_snoc (l : List RChg) (x : RChg) : rchgCells (l ++ [x]) = rchgCells l ++ [.string (str x.old), .string (str x.name), .int .i64 x.file] := rchgCells_append l [x]

set_option maxRecDepth 100000 in
set_option maxHeartbeats 2000000 in
theorem RefIn.change (h : RefIn w p c fv nv sv wv) (x : RChg) (hn : c.now.length ≤ 1000000) (hw : c.waiting.length ≤ 1000000) :
    Calls Tryd.prog 90 #[.pointer (some ⟨p, 0, none⟩), rchgV x] w fun e w' => e = .returned (.tuple #[]) ∧ ∃ nv' wv', RefIn w' p (c.names x) fv nv' sv wv' ∧ (∀ q, nv'.ownBlock = some q → nv.ownBlock = some q ∨ w.heap.size ≤ q) ∧ (∀ q, wv'.ownBlock = some q → wv.ownBlock = some q ∨ w.heap.size ≤ q) ∧ Fr (fun k => k = p ∨ wv.ownBlock = some k) w w' := by
  obtain ⟨i0, hi0, hz0, hz1, hz2⟩ := info_parts rchg_info
  obtain ⟨old, name, file⟩ := x
  have hp := h.blk.lt
  unfold rchgV
  simp only
  go_enter Tryd.func90, Tryd.ntmps90
  go_wp2_with fail
  have hiW := h.fr ((Fr.refl (fun _ => False) w).alloc (.cells #[.string (str old), .string (str name), .int .i64 file] 124)) (fun _ _ => id)
  have hbox := Blk.new w 124 #[.string (str old), .string (str name), .int .i64 file]
  have hfr0 : Fr (fun _ => False) w (w.alloc (.cells #[.string (str old), .string (str name), .int .i64 file] 124)) := (Fr.refl (fun _ => False) w).alloc _
  generalize w.alloc (.cells #[.string (str old), .string (str name), .int .i64 file] 124) = W at *
  obtain ⟨B, hB⟩ : ∃ B, B = w.heap.size := ⟨_, rfl⟩
  rw [← hB] at hbox ⊢
  have hBp : ¬ B = p := by omega
  have hBw : ¬ wv.ownBlock = some B := fun e => by have := h.waiting.lt e; omega
  have HB := Lib.hid hB
  clear hB
  have hb0 : W.cell? ⟨B, 0, none⟩ = some (.string (str old)) := hbox.cell 0
  have hb1 : W.cell? ⟨B, 1, none⟩ = some (.string (str name)) := hbox.cell 1
  have hb2 : W.cell? ⟨B, 2, none⟩ = some (.int .i64 file) := hbox.cell 2
  have k2 : W.cell? ⟨p, 2, none⟩ = some nv := hiW.blk.cell 2
  have hpf := hiW.blk.frozen 2
  obtain ⟨A, cp, rfl, _, _⟩ := hiW.now.shape
  go_region_with ((go_at_call 74; refine (rwith_calls c.now _ ⟨old, name, file⟩ _ (hiW.now.drewN 1) (by omega)).mono ?_; rintro e w1 ⟨v1, rfl, h1, o1, f1⟩; obtain ⟨A1, c1, rfl, _, _⟩ := h1.shape; have q2 : w1.cell? ⟨p, 2, none⟩ = some (.slice A c.now.length cp) := ((hiW.fr f1.undrew fun _ _ => id)).blk.cell 2; have q3 := ((hiW.fr f1.undrew fun _ _ => id)).blk.frozen 2))
  all_goals
    have hin1 := (hiW.fr f1.undrew fun _ _ => id).setNow h1
    have hbox1 := (hbox.fr f1.undrew id).far (p := ⟨p, 2, none⟩) hBp (.slice A1 (c.now.wth ⟨old, name, file⟩).length c1)
    have hfr1 : Fr (· = p) w (w1.setCell ⟨p, 2, none⟩ (.slice A1 (c.now.wth ⟨old, name, file⟩).length c1)) := ((hfr0.trans f1.undrew fun _ h => .inl h).mono (D' := fun k => k = p) fun _ _ h => h.elim).setCell (p := ⟨p, 2, none⟩) (.inl rfl) _
    generalize w1.setCell ⟨p, 2, none⟩ (.slice A1 (c.now.wth ⟨old, name, file⟩).length c1) = V at *
    have HI1 := Lib.hid hin1
    have HO1 := Lib.hid o1
    have hiw := hin1.waiting
    simp only at hiw
    have j4 : V.cell? ⟨p, 4, none⟩ = some wv := hin1.blk.cell 4
    have jb0 : V.cell? ⟨B, 0, none⟩ = some (.string (str old)) := hbox1.cell 0
    have jb1 : V.cell? ⟨B, 1, none⟩ = some (.string (str name)) := hbox1.cell 1
    have jb2 : V.cell? ⟨B, 2, none⟩ = some (.int .i64 file) := hbox1.cell 2
    have hb1k := hin1.blk
    have hpf4 : V.frozen? ⟨p, 4, none⟩ = false := hb1k.frozen 4
    have hpl := hb1k.lt
    have hpw : ¬ wv.ownBlock = some p := hiw.ne_blk hb1k (by decide)
    clear h1 o1 f1 q2 q3 hin1 hiW k2 hpf hb0 hb1 hb2 hbox h
    go_wp2_with fail
    go_region_law ((refine step_append_row _ (by rfl) (.tmp 17) (.tmp 19) 84 (by rfl) 124 i0 _ 3 40 Tryd.underlying84 hi0 hz0 hz1 hz2 (by rfl) (by decide) wv c.waiting.length (rchgCells c.waiting) (by rfl) (hiw.alloc _).drew _ 1 _ (by rfl) (Row.made V 124 3 1 #[.string (str old), .string (str name), .int .i64 file] (by rfl) (by decide)).src.drew (rchg_one _ _ _) (by simp only [maxLen]; omega) (by omega) ?_; intro v' w2 hrow2 hfr2 hwhere; obtain ⟨A', c', rfl, _, _⟩ := hrow2.shape; have hb2k := ((hb1k.alloc _).drew).fr hfr2 hpw; have q4 : w2.cell? ⟨p, 4, none⟩ = some wv := hb2k.cell 4; have qf := hb2k.frozen 4; have hbox2 := ((hbox1.alloc _).drew).fr hfr2 hBw; have r0 : w2.cell? ⟨B, 0, none⟩ = some (.string (str old)) := hbox2.cell 0; have r1 : w2.cell? ⟨B, 1, none⟩ = some (.string (str name)) := hbox2.cell 1; have r2 : w2.cell? ⟨B, 2, none⟩ = some (.int .i64 file) := hbox2.cell 2))
  all_goals
    go_wp2_with fail
    go_end0
    have hrow3 : Row w2 124 3 (.slice A' (c.waiting.length + 1) c') (c.waiting ++ [(⟨old, name, file⟩ : RChg)]).length (rchgCells (c.waiting ++ [(⟨old, name, file⟩ : RChg)])) := by
      rw [rchgCells_snoc, List.length_append]
      exact hrow2
    have hend := HI1.out.turnWaiting (w1 := w2) ((((Fr.refl (fun k => wv.ownBlock = some k) V).alloc _).drew).trans hfr2 fun _ h => .inl h) hrow3
    have hs1 := hfr1.size
    have hsh := hfr0.size
    have FE : Fr (fun k => k = p ∨ wv.ownBlock = some k) w w2 := ((hfr1.alloc _).drew.mono (D' := fun k => k = p ∨ wv.ownBlock = some k) fun _ _ h => .inl h).trans hfr2 fun _ h => .inl (.inr h)
    refine ⟨rfl, _, _, hend, ?_, ?_, FE.setCell (p := ⟨p, 4, none⟩) (.inl (.inl rfl)) _⟩
    · intro q hq
      rcases HO1.out q hq with h | h
      · exact .inl h
      · exact .inr (by simp at h; omega)
    · intro q hq
      rcases hwhere with h | h
      · exact .inl (by rw [← h]; exact hq)
      · rw [h] at hq
        injection hq with hq
        simp at hq
        exact .inr (by omega)
end
end Chart

/- The document's cabinet: Turn, Remove, Rename, Create. -/
namespace Chart
open Go Go.RowKit Go.Proofs
attribute [local go_sem ↓] Go.wp_at_zero Go.wp_at_succ

/-- What a call of the document's cabinet asks. -/
structure RCab.Num (c : RCab) : Prop where
  after0 : c.timed = true → 0 ≤ c.after
  after1 : c.after ≤ 9223372036854775807
  files : c.files.length ≤ 100000
  now : c.now.length ≤ 100000
  sure : c.sure.length ≤ 100000
  waiting : c.waiting.length ≤ 100000
  nows : ∀ x ∈ c.now, x.2 < c.files.length
  sures : ∀ x ∈ c.sure, x.2 < c.files.length
  chg : ∀ x ∈ c.waiting, x.file < c.files.length
  all : ∀ f ∈ c.files, f.all.length ≤ 1048576
  quota0 : 1 ≤ c.quota
  quota1 : c.quota ≤ 1073741824

section
variable {w w1 : World} {p : Nat} {c : RCab} {fv nv sv wv : Value} {D : Nat → Prop}
theorem RefAt.power (h : RefAt w p c D) (hn : c.Num) :
    Calls Tryd.prog 89 #[.pointer (some ⟨p, 0, none⟩)] w fun e w' => e = .returned (.int .i64 c.power.2) ∧ RAfter w D p c.power.1 D w' := by
  obtain ⟨fv, nv, sv, wv, hi, hD, hlt⟩ := h
  refine (hi.power (fun h => by have := hn.after0 h; omega) hn.after1).mono fun e w' ⟨h1, h2, h3⟩ => ⟨h1, ⟨fv, nv, sv, wv, h2, hD, fun k hk => Nat.lt_of_lt_of_le (hlt k hk) h3.size⟩, h3.mono fun k _ e => ?_, fun k hk => .inl hk⟩
  subst e
  exact hD _ (.inl rfl)
theorem RefAt.find (h : RefAt w p c D) (k : Txt) : ∃ nv, w.cell? ⟨p, 2, none⟩ = some nv ∧ (∃ A cp, nv = .slice A c.now.length cp) ∧ Calls Tryd.prog 75 #[nv, .string (str k)] w fun e w' => e = .returned (.int .i64 (c.now.at_ k)) ∧ w = w' := by
  obtain ⟨fv, nv, sv, wv, hi, hD, hlt⟩ := h
  obtain ⟨A, cp, hA, _, _⟩ := hi.now.shape
  exact ⟨nv, hi.blk.cell 2, ⟨A, cp, hA⟩, rfind_calls c.now nv k w hi.now⟩
theorem RefAt.off (h : RefAt w p c D) : w.cell? ⟨p, 7, none⟩ = some (.bool c.off) := by
  obtain ⟨fv, nv, sv, wv, hi, hD, hlt⟩ := h
  exact hi.blk.cell 7
theorem RefAt.change (h : RefAt w p c D) (x : RChg) (hn : c.now.length ≤ 1000000) (hw : c.waiting.length ≤ 1000000) :
    Calls Tryd.prog 90 #[.pointer (some ⟨p, 0, none⟩), rchgV x] w fun e w' => e = .returned (.tuple #[]) ∧ ∃ D', RAfter w D p (c.names x) D' w' := by
  obtain ⟨fv, nv, sv, wv, hi, hD, hlt⟩ := h
  refine (hi.change x hn hw).mono fun e w' ⟨h1, nv', wv', h2, h3, h4, h5⟩ => ⟨h1, RefOwn p fv nv' sv wv', ⟨fv, nv', sv, wv', h2, fun _ h => h, h2.lt⟩, h5.mono fun k _ hk => ?_, ?_⟩
  · rcases hk with rfl | hk
    · exact hD _ (.inl rfl)
    · exact hD _ (.inr (.inr (.inr (.inr hk))))
  · rintro k (rfl | hk | hk | hk | hk)
    · exact .inl (hD _ (.inl rfl))
    · exact .inl (hD _ (.inr (.inl hk)))
    · rcases h3 k hk with h | h
      · exact .inl (hD _ (.inr (.inr (.inl h))))
      · exact .inr h
    · exact .inl (hD _ (.inr (.inr (.inr (.inl hk)))))
    · rcases h4 k hk with h | h
      · exact .inl (hD _ (.inr (.inr (.inr (.inr h)))))
      · exact .inr h
theorem power_cases (c : RCab) : (c.power.2 = 11 ∧ c.power.1 = { c with off := true }) ∨ (c.power.2 = 0 ∧ ∃ a, c.power.1 = { c with after := a }) := by
  unfold RCab.power
  split
  · exact .inl ⟨rfl, rfl⟩
  · split
    · exact .inr ⟨rfl, _, rfl⟩
    · exact .inr ⟨rfl, c.after, rfl⟩

set_option maxHeartbeats 1000000 in
theorem rturn_calls (h : RefAt w p c D) (hn : c.Num) :
    Calls Tryd.prog 72 #[.pointer (some ⟨p, 0, none⟩)] w fun e w' => e = .returned (.int .i64 c.turn.2) ∧ ∃ D', RAfter w D p c.turn.1 D' w' := by
  have h7 := h.off
  have hpw := h.power hn
  have HA := Lib.hid (RAfter.same h)
  unfold RCab.turn
  cases ho : c.off
  · rw [ho] at h7
    simp only [Bool.false_eq_true, if_false]
    rcases power_cases c with ⟨e2, e1⟩ | ⟨e2, a, e1⟩
    · rw [e2] at hpw ⊢
      have HP := Lib.hid hpw
      simp only [show ¬ ((11 : Int) = 0) by decide, if_false]
      have HE2 := Lib.hid e2
      clear hpw e1 e2 ho h
      go_enter Tryd.func72, Tryd.ntmps72
      go_wp2_with (go_at_call 89; refine HP.out.mono ?_; rintro e w1 ⟨rfl, hA1⟩)
      go_ret
      exact ⟨by rw [HE2.out]; rfl, _, hA1⟩
    · rw [e2] at hpw ⊢
      have HP := Lib.hid hpw
      simp only [if_true]
      clear hpw e1 e2 ho h
      go_enter Tryd.func72, Tryd.ntmps72
      go_wp2_with (go_at_call 89; refine HP.out.mono ?_; rintro e w1 ⟨rfl, hA1⟩; obtain ⟨fv, nv, sv, wv, hi, hD, hlt⟩ := id hA1.at_; obtain ⟨A, cp, rfl, _, _⟩ := hi.now.shape; have q2 : w1.cell? ⟨p, 2, none⟩ = some (.slice A c.power.1.now.length cp) := hi.blk.cell 2; have q3 : w1.cell? ⟨p, 3, none⟩ = some sv := hi.blk.cell 3; have q4 : w1.cell? ⟨p, 4, none⟩ = some wv := hi.blk.cell 4; have q5 := hi.blk.frozen 3; have q6 := hi.blk.frozen 4)
      go_ret
      have h1 := (hi.setSure hi.now)
      have hnil : Row (w1.setCell ⟨p, 3, none⟩ (.slice A c.power.1.now.length cp)) 124 3 (.slice none 0 0) ([] : List RChg).length (rchgCells []) := Row.nil _ _ _
      have h2 := h1.setWaiting hnil
      refine ⟨rfl, D, hA1.trans ⟨⟨_, _, _, _, h2, ?_, ?_⟩, ((Fr.refl D w1).setCell (p := ⟨p, 3, none⟩) (.inl (hD _ (.inl rfl))) _).setCell (p := ⟨p, 4, none⟩) (.inl (hD _ (.inl rfl))) _, fun k hk => .inl hk⟩⟩
      · rintro k (rfl | hk | hk | hk | hk)
        · exact hD _ (.inl rfl)
        · exact hD _ (.inr (.inl hk))
        · exact hD _ (.inr (.inr (.inl hk)))
        · exact hD _ (.inr (.inr (.inl hk)))
        · simp [Value.ownBlock] at hk
      · intro k hk
        simpa using hlt k hk
  · rw [ho] at h7
    simp only [if_true]
    clear hpw ho h
    go_enter Tryd.func72, Tryd.ntmps72
    go_wp2
    go_ret
    exact ⟨rfl, _, HA.out⟩

set_option maxHeartbeats 1000000 in
theorem rremove_calls (h : RefAt w p c D) (hn : c.Num) (k : Txt) :
    Calls Tryd.prog 71 #[.pointer (some ⟨p, 0, none⟩), .string (str k)] w fun e w' => e = .returned (.int .i64 (c.remove k).2) ∧ ∃ D', RAfter w D p (c.remove k).1 D' w' := by
  have h7 := h.off
  have hpw := h.power hn
  obtain ⟨nv, h2, ⟨A, cp, rfl⟩, hf⟩ := h.find k
  have HA := Lib.hid (RAfter.same h)
  unfold RCab.remove
  cases ho : c.off
  · rw [ho] at h7
    simp only [Bool.false_eq_true, if_false]
    rcases at_cases c.now k with ⟨e1, e2⟩ | ⟨n, e1, e2⟩
    · rw [e2] at hf
      have HF := Lib.hid hf
      simp only [e1]
      clear ho hf e1 e2 h hpw
      go_enter Tryd.func71, Tryd.ntmps71
      go_wp2_with (go_at_call 75; refine HF.out.mono ?_; rintro e w' ⟨rfl, rfl⟩)
      go_ret
      exact ⟨rfl, _, HA.out⟩
    · rw [e2] at hf
      have HF := Lib.hid hf
      simp only [e1]
      have i1 : ¬ (n : Int) < 0 := by omega
      rcases power_cases c with ⟨p2, p1⟩ | ⟨p2, a, p1⟩
      · rw [p2] at hpw ⊢
        have HP := Lib.hid hpw
        have HE2 := Lib.hid p2
        simp only [show ¬ ((11 : Int) = 0) by decide, if_false]
        clear ho hf e1 e2 h hpw p1 p2
        go_enter Tryd.func71, Tryd.ntmps71
        go_wp2_with (first
          | (go_at_call 75; refine HF.out.mono ?_; rintro e w' ⟨rfl, rfl⟩)
          | (go_at_call 89; refine HP.out.mono ?_; rintro e w1 ⟨rfl, hA1⟩))
        go_ret
        exact ⟨by rw [HE2.out]; rfl, _, hA1⟩
      · rw [p2] at hpw ⊢
        have HP := Lib.hid hpw
        have HN := Lib.hid (show c.power.1.now.length ≤ 1000000 ∧ c.power.1.waiting.length ≤ 1000000 by rw [p1]; exact ⟨Nat.le_trans hn.now (by decide), Nat.le_trans hn.waiting (by decide)⟩)
        simp only [if_true]
        clear ho hf e1 e2 h hpw p1 p2
        go_enter Tryd.func71, Tryd.ntmps71
        go_wp2_with (first
          | (go_at_call 75; refine HF.out.mono ?_; rintro e w' ⟨rfl, rfl⟩)
          | (go_at_call 89; refine HP.out.mono ?_; rintro e w1 ⟨rfl, hA1⟩)
          | (go_at_call 90; refine (hA1.at_.change ⟨k, [], n⟩ HN.out.1 HN.out.2).mono ?_; rintro e w2 ⟨rfl, D2, hA2⟩))
        go_ret
        exact ⟨rfl, _, hA1.trans hA2⟩
  · rw [ho] at h7
    have HF := Lib.hid hf
    simp only [if_true]
    clear hpw ho h hf
    go_enter Tryd.func71, Tryd.ntmps71
    go_wp2_with (go_at_call 75; refine HF.out.mono ?_; rintro e w' ⟨rfl, rfl⟩)
    go_ret
    exact ⟨rfl, _, HA.out⟩
end
end Chart

/- The document's cabinet: Rename, Create, Sync. -/
namespace Chart
open Go Go.RowKit Go.Proofs
attribute [local go_sem ↓] Go.wp_at_zero Go.wp_at_succ

theorem rfile_info : (Tryd.prog.info? 126).map (fun i => (i.zero, i.size, i.bytes)) = some (some (.agg #[.string ⟨#[]⟩, .int .i64 0]), 2, 24) := by kernel_rfl
theorem rfile_one (a : ByteArray) (b : Int) : ∀ u ∈ (#[.string a, .int .i64 b] : Array Value).toList, u.oneCell' = true := ent_one a b
theorem rfileCells_set : ∀ (l : List FileS) (i : Nat) (f : FileS), i < l.length → ((rfileCells l).set (i * 2) (.string (str f.all))).set (i * 2 + 1) (.int .i64 f.sure) = rfileCells (l.set i f)
  | [], _, _, h => by simp at h
  | _ :: _, 0, _, _ => rfl
  | y :: r, i + 1, f, h => by
    have e : (i + 1) * 2 = i * 2 + 1 + 1 := by omega
    have ih := rfileCells_set r i f (by simpa using h)
    simp only [rfileCells, e, List.set_cons_succ]
    rw [ih]
theorem rfileCells_sure : ∀ (l : List FileS) (i : Nat) (f : FileS) (s : Nat), l[i]? = some f → (rfileCells l).set (i * 2 + 1) (.int .i64 s) = rfileCells (l.set i { f with sure := s })
  | [], _, _, _, h => by simp at h
  | y :: r, 0, f, s, h => by simp at h; subst h; rfl
  | y :: r, i + 1, f, s, h => by
    have e : (i + 1) * 2 = i * 2 + 1 + 1 := by omega
    have ih := rfileCells_sure r i f s (by simpa using h)
    simp only [rfileCells, e, List.set_cons_succ]
    rw [ih]
theorem rfileCells_all : ∀ (l : List FileS) (i : Nat) (f : FileS) (s : Txt), l[i]? = some f → (rfileCells l).set (i * 2) (.string (str s)) = rfileCells (l.set i { f with all := s })
  | [], _, _, _, h => by simp at h
  | y :: r, 0, f, s, h => by simp at h; subst h; rfl
  | y :: r, i + 1, f, s, h => by
    have e : (i + 1) * 2 = i * 2 + 1 + 1 := by omega
    have ih := rfileCells_all r i f s (by simpa using h)
    simp only [rfileCells, e, List.set_cons_succ]
    rw [ih]

section
variable {w w1 : World} {p : Nat} {c : RCab} {fv nv sv wv : Value} {D : Nat → Prop}
set_option maxHeartbeats 1000000 in
theorem rrename_calls (h : RefAt w p c D) (hn : c.Num) (k name : Txt) (hnl : name.length ≤ maxLen) :
    Calls Tryd.prog 70 #[.pointer (some ⟨p, 0, none⟩), .string (str k), .string (str name)] w fun e w' => e = .returned (.int .i64 (c.renameTo k name).2) ∧ ∃ D', RAfter w D p (c.renameTo k name).1 D' w' := by
  have h7 := h.off
  have hpw := h.power hn
  obtain ⟨nv, h2, ⟨A, cp, rfl⟩, hf⟩ := h.find k
  have hg := rgood_calls name w hnl
  have HA := Lib.hid (RAfter.same h)
  unfold RCab.renameTo
  cases ho : c.off
  · rw [ho] at h7
    simp only [Bool.false_eq_true, if_false]
    rcases at_cases c.now k with ⟨e1, e2⟩ | ⟨n, e1, e2⟩
    · rw [e2] at hf
      have HF := Lib.hid hf
      simp only [e1]
      clear ho hf e1 e2 h hpw hg
      go_enter Tryd.func70, Tryd.ntmps70
      go_wp2_with (go_at_call 75; refine HF.out.mono ?_; rintro e w' ⟨rfl, rfl⟩)
      go_ret
      exact ⟨rfl, _, HA.out⟩
    · rw [e2] at hf
      have HF := Lib.hid hf
      simp only [e1]
      have i1 : ¬ (n : Int) < 0 := by omega
      cases hok : Cab.nameOk name
      · rw [hok] at hg
        have HG := Lib.hid hg
        simp only [if_true]
        clear ho hf e1 e2 h hpw hg hok
        go_enter Tryd.func70, Tryd.ntmps70
        go_wp2_with (first
          | (go_at_call 75; refine HF.out.mono ?_; rintro e w' ⟨rfl, rfl⟩)
          | (go_at_call 88; refine HG.out.mono ?_; rintro e w' ⟨rfl, rfl⟩))
        go_ret
        exact ⟨rfl, _, HA.out⟩
      · rw [hok] at hg
        have HG := Lib.hid hg
        simp only [Bool.true_eq_false, if_false]
        rcases power_cases c with ⟨p2, p1⟩ | ⟨p2, a, p1⟩
        · rw [p2] at hpw ⊢
          have HP := Lib.hid hpw
          have HE2 := Lib.hid p2
          simp only [show ¬ ((11 : Int) = 0) by decide, if_false]
          clear ho hf e1 e2 h hpw p1 p2 hg hok
          go_enter Tryd.func70, Tryd.ntmps70
          go_wp2_with (first
            | (go_at_call 75; refine HF.out.mono ?_; rintro e w' ⟨rfl, rfl⟩)
            | (go_at_call 88; refine HG.out.mono ?_; rintro e w' ⟨rfl, rfl⟩)
            | (go_at_call 89; refine HP.out.mono ?_; rintro e w1 ⟨rfl, hA1⟩))
          go_ret
          exact ⟨by rw [HE2.out]; rfl, _, hA1⟩
        · rw [p2] at hpw ⊢
          have HP := Lib.hid hpw
          have HN := Lib.hid (show c.power.1.now.length ≤ 1000000 ∧ c.power.1.waiting.length ≤ 1000000 by rw [p1]; exact ⟨Nat.le_trans hn.now (by decide), Nat.le_trans hn.waiting (by decide)⟩)
          simp only [if_true]
          clear ho hf e1 e2 h hpw p1 p2 hg hok
          go_enter Tryd.func70, Tryd.ntmps70
          go_wp2_with (first
            | (go_at_call 75; refine HF.out.mono ?_; rintro e w' ⟨rfl, rfl⟩)
            | (go_at_call 88; refine HG.out.mono ?_; rintro e w' ⟨rfl, rfl⟩)
            | (go_at_call 89; refine HP.out.mono ?_; rintro e w1 ⟨rfl, hA1⟩)
            | (go_at_call 90; refine (hA1.at_.change ⟨k, name, n⟩ HN.out.1 HN.out.2).mono ?_; rintro e w2 ⟨rfl, D2, hA2⟩))
          go_ret
          exact ⟨rfl, _, hA1.trans hA2⟩
  · rw [ho] at h7
    have HF := Lib.hid hf
    simp only [if_true]
    clear hpw ho h hf hg
    go_enter Tryd.func70, Tryd.ntmps70
    go_wp2_with (go_at_call 75; refine HF.out.mono ?_; rintro e w' ⟨rfl, rfl⟩)
    go_ret
    exact ⟨rfl, _, HA.out⟩

theorem RefAt.addFile (h : RefAt w p c D) {fv : Value} (hfv : w.cell? ⟨p, 1, none⟩ = some fv) {w2 : World} {v' : Value} (F : Fr (fun k => fv.ownBlock = some k) w w2) (hrow : Row w2 126 2 v' (c.files.length + 1) (rfileCells c.files ++ [.string (str []), .int .i64 0])) (hv' : ∀ k, v'.ownBlock = some k → fv.ownBlock = some k ∨ w.heap.size ≤ k) :
    ∃ D', RAfter w D p { c with files := c.files ++ [FileS.mk [] 0] } D' (w2.setCell ⟨p, 1, none⟩ v') := by
  obtain ⟨fv0, nv, sv, wv, hi, hD, hlt⟩ := h
  have e : fv = fv0 := by
    have : w.cell? ⟨p, 1, none⟩ = some fv0 := hi.blk.cell 1
    rw [hfv] at this
    exact Option.some.inj this
  subst e
  have hrow2 : Row w2 126 2 v' (c.files ++ [FileS.mk [] 0]).length (rfileCells (c.files ++ [FileS.mk [] 0])) := by
    rw [rfileCells_append, List.length_append]
    exact hrow
  have h2 := hi.turnFiles F hrow2
  refine ⟨RefOwn p v' nv sv wv, ⟨_, _, _, _, h2, fun _ h => h, h2.lt⟩, (F.mono (D' := D) fun k _ hk => hD _ (.inr (.inl hk))).setCell (p := ⟨p, 1, none⟩) (.inl (hD _ (.inl rfl))) _, ?_⟩
  rintro k (rfl | hk | hk | hk | hk)
  · exact .inl (hD _ (.inl rfl))
  · rcases hv' k hk with h | h
    · exact .inl (hD _ (.inr (.inl h)))
    · exact .inr h
  · exact .inl (hD _ (.inr (.inr (.inl hk))))
  · exact .inl (hD _ (.inr (.inr (.inr (.inl hk)))))
  · exact .inl (hD _ (.inr (.inr (.inr (.inr hk)))))
end
end Chart

/- The document's cabinet: Create, Sync. -/
namespace Chart
open Go Go.RowKit Go.Proofs
attribute [local go_sem ↓] Go.wp_at_zero Go.wp_at_succ

section
variable {w w1 : World} {p : Nat} {c : RCab} {fv nv sv wv : Value} {D : Nat → Prop}
theorem RefAt.filesRow (h : RefAt w p c D) : ∃ A cp cs, w.cell? ⟨p, 1, none⟩ = some (.slice A c.files.length cp) ∧ Row w 126 2 (.slice A c.files.length cp) c.files.length (rfileCells c.files) ∧ ¬ (Value.slice A c.files.length cp).ownBlock = some p ∧ Blk w p 86 cs := by
  obtain ⟨fv, nv, sv, wv, hi, hD, hlt⟩ := h
  obtain ⟨A, cp, rfl, _, _⟩ := hi.files.shape
  exact ⟨A, cp, _, hi.blk.cell 1, hi.files, hi.files.ne_blk hi.blk (by decide), hi.blk⟩
theorem RefAt.nowLen (h : RefAt w p c D) : ∃ A cp, w.cell? ⟨p, 2, none⟩ = some (.slice A c.now.length cp) := by
  obtain ⟨fv, nv, sv, wv, hi, hD, hlt⟩ := h
  obtain ⟨A, cp, rfl, _, _⟩ := hi.now.shape
  exact ⟨A, cp, hi.blk.cell 2⟩

set_option maxRecDepth 100000 in
set_option maxHeartbeats 1000000 in
theorem rcreate_calls (h : RefAt w p c D) (hn : c.Num) (k : Txt) (hkl : k.length ≤ maxLen) :
    Calls Tryd.prog 67 #[.pointer (some ⟨p, 0, none⟩), .string (str k)] w fun e w' => e = .returned (.int .i64 (c.create k).2) ∧ ∃ D', RAfter w D p (c.create k).1 D' w' := by
  obtain ⟨i0, hi0, hz0, hz1, hz2⟩ := info_parts rfile_info
  have h7 := h.off
  have hpw := h.power hn
  obtain ⟨nv, h2, ⟨A, cp, rfl⟩, hf⟩ := h.find k
  have hg := rgood_calls k w hkl
  have HA := Lib.hid (RAfter.same h)
  unfold RCab.create
  cases ho : c.off
  · rw [ho] at h7
    simp only [Bool.false_eq_true, if_false]
    cases hok : Cab.nameOk k
    · rw [hok] at hg
      have HG := Lib.hid hg
      simp only [if_true]
      clear ho hf h hpw hg hok
      go_enter Tryd.func67, Tryd.ntmps67
      go_wp2_with (go_at_call 88; refine HG.out.mono ?_; rintro e w' ⟨rfl, rfl⟩)
      go_ret
      exact ⟨rfl, _, HA.out⟩
    · rw [hok] at hg
      have HG := Lib.hid hg
      simp only [Bool.true_eq_false, if_false]
      have HF := Lib.hid hf
      by_cases hat : 0 ≤ c.now.at_ k
      · simp only [hat, if_true]
        clear ho hf h hpw hg hok
        go_enter Tryd.func67, Tryd.ntmps67
        go_wp2_with (first
          | (go_at_call 88; refine HG.out.mono ?_; rintro e w' ⟨rfl, rfl⟩)
          | (go_at_call 75; refine HF.out.mono ?_; rintro e w' ⟨rfl, rfl⟩))
        go_ret
        exact ⟨rfl, _, HA.out⟩
      · simp only [hat, if_false]
        by_cases h4 : 4096 ≤ c.now.length
        · have h4' : (4096 : Int) ≤ (c.now.length : Int) := by omega
          simp only [h4, if_true]
          clear ho hf h hpw hg hok h4
          go_enter Tryd.func67, Tryd.ntmps67
          go_wp2_with (first
            | (go_at_call 88; refine HG.out.mono ?_; rintro e w' ⟨rfl, rfl⟩)
            | (go_at_call 75; refine HF.out.mono ?_; rintro e w' ⟨rfl, rfl⟩))
          go_ret
          exact ⟨rfl, _, HA.out⟩
        · have h4' : ¬ (4096 : Int) ≤ (c.now.length : Int) := by omega
          simp only [h4, if_false]
          rcases power_cases c with ⟨p2, p1⟩ | ⟨p2, a, p1⟩
          · rw [p2] at hpw ⊢
            have HP := Lib.hid hpw
            have HE2 := Lib.hid p2
            simp only [show ¬ ((11 : Int) = 0) by decide, if_false]
            clear ho hf h hpw hg hok h4 p1 p2
            go_enter Tryd.func67, Tryd.ntmps67
            go_wp2_with (first
              | (go_at_call 88; refine HG.out.mono ?_; rintro e w' ⟨rfl, rfl⟩)
              | (go_at_call 75; refine HF.out.mono ?_; rintro e w' ⟨rfl, rfl⟩)
              | (go_at_call 89; refine HP.out.mono ?_; rintro e w1 ⟨rfl, hA1⟩))
            go_ret
            exact ⟨by rw [HE2.out]; rfl, _, hA1⟩
          · rw [p2] at hpw ⊢
            have HP := Lib.hid hpw
            have HN := Lib.hid (show c.power.1.now.length ≤ 1000000 ∧ c.power.1.waiting.length ≤ 1000000 by rw [p1]; exact ⟨Nat.le_trans hn.now (by decide), Nat.le_trans hn.waiting (by decide)⟩)
            have hfl : c.power.1.files.length ≤ 100000 := by rw [p1]; exact hn.files
            simp only [if_true]
            clear ho hf h hpw hg hok h4 p1 p2
            go_enter Tryd.func67, Tryd.ntmps67
            go_wp2_with (first
              | (go_at_call 88; refine HG.out.mono ?_; rintro e w' ⟨rfl, rfl⟩)
              | (go_at_call 75; refine HF.out.mono ?_; rintro e w' ⟨rfl, rfl⟩)
              | (go_at_call 89; refine HP.out.mono ?_; rintro e w1 ⟨rfl, hA1⟩; obtain ⟨A1, c1, cs1, q1, hrow1, hown1, hblk1⟩ := hA1.at_.filesRow)
              | (at_builtin; refine wpList_append_row _ rfl (.tmp 38) (.tmp 40) 82 rfl 126 i0 _ 2 24 Tryd.underlying82 hi0 hz0 hz1 hz2 rfl (by decide) (.slice A1 c.power.1.files.length c1) _ _ rfl (hrow1.alloc _) _ 1 _ rfl (Row.made w1 126 2 1 #[.string ⟨#[]⟩, .int .i64 0] rfl (by decide)).src (rfile_one _ _) (by simp only [maxLen]; omega) (by omega) ?_; intro v5 w5 hrow5 hfr5 hwh5; obtain ⟨A5, c5, rfl, _, _⟩ := hrow5.shape; have hblk5 := (hblk1.alloc _).fr hfr5 hown1; have q5 := hfr5.size; have hpl := hblk5.lt; have q6 := hblk5.frozen 1; have hF5 : Fr (fun k => (Value.slice A1 c.power.1.files.length c1).ownBlock = some k) w1 w5 := ((Fr.refl _ w1).alloc _).trans hfr5 fun _ h => .inl h; have q7 : (w5.cell? ⟨p, 1, none⟩).isSome = true := (by rw [hF5.cell q1 hown1]; rfl); have q8 := hF5.cell q1 hown1))
            obtain ⟨D5, hA5⟩ := hA1.at_.addFile q1 hF5 hrow5 fun q hq => by
              rcases hwh5 with h | h
              · exact .inl (by rw [← h]; exact hq)
              · rw [h] at hq
                injection hq with hq
                simp at hq
                exact .inr (by omega)
            refine (hA5.at_.change ⟨[], k, c.power.1.files.length⟩ HN.out.1 HN.out.2).mono ?_
            rintro e w6 ⟨rfl, D6, hA6⟩
            go_wp2_with fail
            go_ret
            exact ⟨rfl, _, (hA1.trans hA5).trans hA6⟩
  · rw [ho] at h7
    simp only [if_true]
    clear hpw ho h hf hg
    go_enter Tryd.func67, Tryd.ntmps67
    go_wp2
    go_ret
    exact ⟨rfl, _, HA.out⟩

theorem RefAt.fileCell (h : RefAt w p c D) {n : Nat} {f : FileS} (hf : c.files[n]? = some f) : ∃ g cp, w.cell? ⟨p, 1, none⟩ = some (.slice (some ⟨g, 0, none⟩) c.files.length cp) ∧ w.cell? ⟨g, n * 2, none⟩ = some (.string (str f.all)) ∧ w.cell? ⟨g, n * 2 + 1, none⟩ = some (.int .i64 f.sure) ∧ (∀ j, w.frozen? ⟨g, j, none⟩ = false) ∧ ¬ g = p ∧
    (∀ s : Nat, RAfter w D p (c.setFile n { f with sure := s }) D (w.setCell ⟨g, n * 2 + 1, none⟩ (.int .i64 s))) ∧ (∀ s : Txt, RAfter w D p (c.setFile n { f with all := s }) D (w.setCell ⟨g, n * 2, none⟩ (.string (str s)))) := by
  obtain ⟨fv, nv, sv, wv, hi, hD, hlt⟩ := h
  have hn := (List.getElem?_eq_some_iff.1 hf).1
  obtain ⟨g, cp, rfl, _, _, hcell, hfz, _⟩ := hi.files.form (by omega)
  obtain ⟨d0, d1⟩ := rfileCells_get c.files n _ hf
  have hgp : ¬ g = p := fun e => hi.files.ne_blk hi.blk (by decide) (by rw [e]; rfl)
  refine ⟨g, cp, hi.blk.cell 1, hcell _ _ d0, hcell _ _ d1, hfz, hgp, fun s => ?_, fun s => ?_⟩
  · have F : Fr (fun k => (Value.slice (some ⟨g, 0, none⟩) c.files.length cp).ownBlock = some k) w (w.setCell ⟨g, n * 2 + 1, none⟩ (.int .i64 s)) := (Fr.refl (fun k => (Value.slice (some ⟨g, 0, none⟩) c.files.length cp).ownBlock = some k) w).setCell (p := ⟨g, n * 2 + 1, none⟩) (.inl rfl) _
    have hr := hi.files.set (n * 2 + 1) (.int .i64 s)
    rw [rfileCells_sure _ _ _ _ hf] at hr
    have := hi.turnFile F (l := c.files.set n { f with sure := s }) (by rw [List.length_set]; exact hr)
    exact ⟨⟨_, nv, sv, wv, this, hD, fun k hk => Nat.lt_of_lt_of_le (hlt k hk) F.size⟩, F.mono fun k _ hk => hD _ (.inr (.inl hk)), fun k hk => .inl hk⟩
  · have F : Fr (fun k => (Value.slice (some ⟨g, 0, none⟩) c.files.length cp).ownBlock = some k) w (w.setCell ⟨g, n * 2, none⟩ (.string (str s))) := (Fr.refl (fun k => (Value.slice (some ⟨g, 0, none⟩) c.files.length cp).ownBlock = some k) w).setCell (p := ⟨g, n * 2, none⟩) (.inl rfl) _
    have hr := hi.files.set (n * 2) (.string (str s))
    rw [rfileCells_all _ _ _ _ hf] at hr
    have := hi.turnFile F (l := c.files.set n { f with all := s }) (by rw [List.length_set]; exact hr)
    exact ⟨⟨_, nv, sv, wv, this, hD, fun k hk => Nat.lt_of_lt_of_le (hlt k hk) F.size⟩, F.mono fun k _ hk => hD _ (.inr (.inl hk)), fun k hk => .inl hk⟩
end
end Chart

/- The document's cabinet: Sync, Append. -/
namespace Chart
open Go Go.RowKit Go.Proofs
attribute [local go_sem ↓] Go.wp_at_zero Go.wp_at_succ

section
variable {w w1 : World} {p : Nat} {c : RCab} {fv nv sv wv : Value} {D : Nat → Prop}
theorem get_lt {c : RCab} (hn : c.Num) {k : Txt} {n : Nat} (h : c.now.get? k = some n) : ∃ f, c.files[n]? = some f := ⟨_, List.getElem?_eq_getElem (hn.nows _ (get_mem h))⟩
theorem rfile_eq {c : RCab} {n : Nat} {f : FileS} (h : c.files[n]? = some f) : c.file n = f := by unfold RCab.file; rw [List.getD_eq_getElem?_getD, h]; rfl

set_option maxRecDepth 100000 in
set_option maxHeartbeats 1000000 in
theorem rsync_calls (h : RefAt w p c D) (hn : c.Num) (k : Txt) :
    Calls Tryd.prog 69 #[.pointer (some ⟨p, 0, none⟩), .string (str k)] w fun e w' => e = .returned (.int .i64 (c.sync k).2) ∧ ∃ D', RAfter w D p (c.sync k).1 D' w' := by
  have h7 := h.off
  have hpw := h.power hn
  obtain ⟨nv, h2, ⟨A, cp, rfl⟩, hf⟩ := h.find k
  have HA := Lib.hid (RAfter.same h)
  unfold RCab.sync
  cases ho : c.off
  · rw [ho] at h7
    simp only [Bool.false_eq_true, if_false]
    rcases at_cases c.now k with ⟨e1, e2⟩ | ⟨n, e1, e2⟩
    · rw [e2] at hf
      have HF := Lib.hid hf
      simp only [e1]
      clear ho hf e1 e2 h hpw
      go_enter Tryd.func69, Tryd.ntmps69
      go_wp2_with (go_at_call 75; refine HF.out.mono ?_; rintro e w' ⟨rfl, rfl⟩)
      go_ret
      exact ⟨rfl, _, HA.out⟩
    · rw [e2] at hf
      have HF := Lib.hid hf
      obtain ⟨f, hfn⟩ := get_lt hn e1
      simp only [e1]
      have i1 : ¬ (n : Int) < 0 := by omega
      rcases power_cases c with ⟨p2, p1⟩ | ⟨p2, a, p1⟩
      · rw [p2] at hpw ⊢
        have HP := Lib.hid hpw
        have HE2 := Lib.hid p2
        simp only [show ¬ ((11 : Int) = 0) by decide, if_false]
        clear ho hf e1 e2 h hpw p1 p2 hfn
        go_enter Tryd.func69, Tryd.ntmps69
        go_wp2_with (first
          | (go_at_call 75; refine HF.out.mono ?_; rintro e w' ⟨rfl, rfl⟩)
          | (go_at_call 89; refine HP.out.mono ?_; rintro e w1 ⟨rfl, hA1⟩))
        go_ret
        exact ⟨by rw [HE2.out]; rfl, _, hA1⟩
      · rw [p2] at hpw ⊢
        have HP := Lib.hid hpw
        have hfn1 : c.power.1.files[n]? = some f := by rw [p1]; exact hfn
        have hcf := rfile_eq hfn1
        have i2 : (n : Int) < (c.power.1.files.length : Int) := by have := (List.getElem?_eq_some_iff.1 hfn1).1; omega
        have i3 : (0 : Int) ≤ (n : Int) := by omega
        simp only [if_true, hcf]
        have HFN := Lib.hid hfn1
        have hsz : ((str f.all).size : Int) = (f.all.length : Int) := by rw [str_size]
        clear ho hf e1 e2 h hpw p1 p2 hfn hfn1 hcf
        go_enter Tryd.func69, Tryd.ntmps69
        go_wp2_with (first
          | (go_at_call 75; refine HF.out.mono ?_; rintro e w' ⟨rfl, rfl⟩)
          | (go_at_call 89; refine HP.out.mono ?_; rintro e w1 ⟨rfl, hA1⟩; obtain ⟨g, c1, q1, q2, q3, hfz, hgp, hend, _⟩ := hA1.at_.fileCell HFN.out; have q4 := hfz (n * 2 + 1)))
        have k1 : ∀ v : Value, (w1.setCell ⟨g, n * 2 + 1, none⟩ v).cell? ⟨p, 1, none⟩ = some (.slice (some ⟨g, 0, none⟩) c.power.1.files.length c1) := fun v => by rw [World.cell?_setCell_other w1 _ _ _ (fun e => by injection e with e; exact hgp e)]; exact q1
        have k2 : ∀ v : Value, (w1.setCell ⟨g, n * 2 + 1, none⟩ v).cell? ⟨g, n * 2, none⟩ = some (.string (str f.all)) := fun v => by rw [World.cell?_setCell_other w1 _ _ _ (fun e => by injection e with _ e; omega)]; exact q2
        go_region_held3 (fun w' => w'.cell? ⟨p, 1, none⟩ = some (.slice (some ⟨g, 0, none⟩) c.power.1.files.length c1) ∧ w'.cell? ⟨g, n * 2, none⟩ = some (.string (str f.all))) (first | go_keep | exact ⟨k1 _, k2 _⟩) (fail)
        go_wp2_with fail
        go_ret
        exact ⟨rfl, D, hA1.trans ((hend f.all.length).drew)⟩
  · rw [ho] at h7
    have HF := Lib.hid hf
    simp only [if_true]
    clear hpw ho h hf
    go_enter Tryd.func69, Tryd.ntmps69
    go_wp2_with (go_at_call 75; refine HF.out.mono ?_; rintro e w' ⟨rfl, rfl⟩)
    go_ret
    exact ⟨rfl, _, HA.out⟩
end
end Chart

/- The document's cabinet: Append. -/
namespace Chart
open Go Go.RowKit Go.Proofs
attribute [local go_sem ↓] Go.wp_at_zero Go.wp_at_succ

section
variable {w w1 : World} {p : Nat} {c : RCab} {fv nv sv wv : Value} {D : Nat → Prop}
theorem RefAt.used (h : RefAt w p c D) (hn : c.Num) :
    Calls Tryd.prog 41 #[.pointer (some ⟨p, 0, none⟩)] w fun e w' => e = .returned (.int .i64 (c.used : Nat)) ∧ Fr (fun _ => False) w w' := by
  obtain ⟨fv, nv, sv, wv, hi, hD, hlt⟩ := h
  exact hi.used (Nat.le_trans hn.files (by decide)) (Nat.le_trans hn.sure (by decide)) (Nat.le_trans hn.waiting (by decide)) hn.sures hn.chg hn.all
theorem RefAt.quota (h : RefAt w p c D) : w.cell? ⟨p, 0, none⟩ = some (.int .i64 c.quota) := by
  obtain ⟨fv, nv, sv, wv, hi, hD, hlt⟩ := h
  exact hi.blk.cell 0
theorem used_max (c : RCab) (hn : c.Num) : c.used ≤ 104857600000 := by
  have h1 := usedFrom_le c.taken 1048576 c.files 0 hn.all
  have h2 : c.files.length * 1048576 ≤ 100000 * 1048576 := Nat.mul_le_mul_right _ hn.files
  unfold RCab.used
  omega
theorem str_append (a b : Txt) : str a ++ str b = str (a ++ b) := by
  apply ByteArray.ext
  simp [str]

set_option maxRecDepth 100000 in
set_option maxHeartbeats 2000000 in
theorem rappend_calls (h : RefAt w p c D) (hn : c.Num) (k : Txt) (l : Txt) (B : Value) (hB : BytesSrc w B l) (hBD : ∀ k, B.ownBlock = some k → 0 < l.length → ¬ D k) :
    Calls Tryd.prog 68 #[.pointer (some ⟨p, 0, none⟩), .string (str k), B] w fun e w' => e = .returned (.int .i64 (c.append k l).2) ∧ ∃ D', RAfter w D p (c.append k l).1 D' w' := by
  have h7 := h.off
  have h0 := h.quota
  have hpw := fun (w' : World) (hf : Fr (fun _ => False) w w') => (h.fr hf fun _ _ => id).power hn
  have hus := h.used hn
  have hum := used_max c hn
  have hq0 := hn.quota0
  have hq1 := hn.quota1
  have hbl := hB.le
  obtain ⟨nv, h2, ⟨A, cp, rfl⟩, hf⟩ := h.find k
  have HA := Lib.hid (RAfter.same h)
  have HB := Lib.hid hB
  obtain ⟨_, BA, Bc, rfl, hBl, hBm, _, _⟩ := id hB
  unfold RCab.append
  cases ho : c.off
  · rw [ho] at h7
    simp only [Bool.false_eq_true, if_false]
    rcases at_cases c.now k with ⟨e1, e2⟩ | ⟨n, e1, e2⟩
    · rw [e2] at hf
      have HF := Lib.hid hf
      simp only [e1]
      clear ho hf e1 e2 h hpw hus hB hum
      go_enter Tryd.func68, Tryd.ntmps68
      go_wp2_with (go_at_call 75; refine HF.out.mono ?_; rintro e w' ⟨rfl, rfl⟩)
      go_ret
      exact ⟨rfl, _, HA.out⟩
    · rw [e2] at hf
      have HF := Lib.hid hf
      obtain ⟨f, hfn⟩ := get_lt hn e1
      have hcf := rfile_eq hfn
      simp only [e1, hcf]
      have i1 : ¬ (n : Int) < 0 := by omega
      have i2 : (n : Int) < (c.files.length : Int) := by have := (List.getElem?_eq_some_iff.1 hfn).1; omega
      have i3 : (0 : Int) ≤ (n : Int) := by omega
      have hfa := hn.all f (List.mem_of_getElem? hfn)
      have hsz : ((str f.all).size : Int) = (f.all.length : Int) := by rw [str_size]
      obtain ⟨g, cq, q1, q2, _, _, _, _, _⟩ := h.fileCell hfn
      by_cases h17 : (l.length : Int) > 1048576 - (f.all.length : Int)
      · simp only [h17, if_true]
        clear ho hf e1 e2 h hpw hus hB hum hfn hcf
        go_enter Tryd.func68, Tryd.ntmps68
        go_wp2_with (go_at_call 75; refine HF.out.mono ?_; rintro e w' ⟨rfl, rfl⟩)
        go_ret
        exact ⟨rfl, _, HA.out⟩
      · simp only [h17, if_false]
        have hwr : IntKind.i64.wrap (c.quota - (c.used : Int)) = c.quota - (c.used : Int) := by rw [IntKind.wrap_i64]; omega
        have HUS := Lib.hid (fun (w' : World) (hf : Fr (fun _ => False) w w') => (h.fr hf fun _ _ => id).used hn)
        by_cases h10 : (l.length : Int) > c.quota - (c.used : Int)
        · simp only [h10, if_true]
          have HH := Lib.hid h
          clear ho hf e1 e2 h hpw hus hB hfn hcf
          go_enter Tryd.func68, Tryd.ntmps68
          go_wp2_with (go_at_call 75; refine HF.out.mono ?_; rintro e w' ⟨rfl, rfl⟩)
          go_region_held3 (fun w' => w'.cell? ⟨p, 0, none⟩ = some (.int .i64 c.quota)) (first | go_keep | exact fU.undrew.cell (a := ⟨p, 0, none⟩) h0 id) ((go_at_call 41; refine (HUS.out _ ((Fr.refl (fun _ => False) w).drew)).mono ?_; rintro e wU ⟨rfl, fU⟩))
          go_wp2_with fail
          go_ret
          exact ⟨rfl, D, ⟨HH.out.fr fU.undrew fun _ _ => id, fU.undrew.mono fun _ _ h => h.elim, fun _ h => .inl h⟩⟩
        · simp only [h10, if_false]
          have HH := Lib.hid h
          rcases power_cases c with ⟨p2, p1⟩ | ⟨p2, a, p1⟩
          · rw [p2] at hpw ⊢
            have HP := Lib.hid hpw
            have HE2 := Lib.hid p2
            simp only [show ¬ ((11 : Int) = 0) by decide, if_false]
            clear ho hf e1 e2 h hpw hus hB hfn hcf p1 p2
            go_enter Tryd.func68, Tryd.ntmps68
            go_wp2_with (go_at_call 75; refine HF.out.mono ?_; rintro e w' ⟨rfl, rfl⟩)
            go_region_held3 (fun w' => w'.cell? ⟨p, 0, none⟩ = some (.int .i64 c.quota)) (first | go_keep | exact fU.undrew.cell (a := ⟨p, 0, none⟩) h0 id) ((go_at_call 41; refine (HUS.out _ ((Fr.refl (fun _ => False) w).drew)).mono ?_; rintro e wU ⟨rfl, fU⟩))
            go_wp2_with (go_at_call 89; refine (HP.out _ fU.undrew).mono ?_; rintro e w1 ⟨rfl, hA1⟩)
            go_ret
            exact ⟨by rw [HE2.out]; rfl, _, RAfter.trans ⟨HH.out.fr fU.undrew fun _ _ => id, fU.undrew.mono fun _ _ h => h.elim, fun _ h => .inl h⟩ hA1⟩
          · rw [p2] at hpw ⊢
            have HP := Lib.hid hpw
            have hfn1 : c.power.1.files[n]? = some f := by rw [p1]; exact hfn
            have hcf1 := rfile_eq hfn1
            have i4 : (n : Int) < (c.power.1.files.length : Int) := by have := (List.getElem?_eq_some_iff.1 hfn1).1; omega
            simp only [if_true, hcf1]
            have HFN := Lib.hid hfn1
            clear ho hf e1 e2 h hpw hus hB hfn hcf p1 p2 hfn1 hcf1
            go_enter Tryd.func68, Tryd.ntmps68
            go_wp2_with (go_at_call 75; refine HF.out.mono ?_; rintro e w' ⟨rfl, rfl⟩)
            go_region_held3 (fun w' => w'.cell? ⟨p, 0, none⟩ = some (.int .i64 c.quota)) (first | go_keep | exact fU.undrew.cell (a := ⟨p, 0, none⟩) h0 id) ((go_at_call 41; refine (HUS.out _ ((Fr.refl (fun _ => False) w).drew)).mono ?_; rintro e wU ⟨rfl, fU⟩))
            clear q1 q2 h0 h2 h7
            go_wp2_with (go_at_call 89; refine (HP.out _ fU.undrew).mono ?_; rintro e w1 ⟨rfl, hA1⟩; obtain ⟨g, c1, q1, q2, q3, hfz, hgp, _, hend⟩ := hA1.at_.fileCell HFN.out; have q4 := hfz (n * 2))
            have hF1 : Fr D w w1 := (fU.undrew.mono (D' := D) fun _ _ h => h.elim).trans hA1.fr fun _ h => .inl h
            have hB1 : BytesSrc w1 (.slice BA l.length Bc) l := HB.out.frl hF1 hBD
            have kt := text_of hB1.drew
            have kadd : ∀ w' : World, (Op.stringOp .add (str f.all) (str l)).run Tryd.prog w' = .ok (.string (str (f.all ++ l))) w' := fun w' => by
              rw [run_string_add_sum w' _ _ (by rw [str_size, str_size]; omega), str_append]
            go_region_law (fail)
            all_goals
              go_wp2_with fail
              go_ret
              exact ⟨rfl, D, RAfter.trans ⟨HH.out.fr fU.undrew fun _ _ => id, fU.undrew.mono fun _ _ h => h.elim, fun _ h => .inl h⟩ (hA1.trans ((hend (f.all ++ l)).drew))⟩
  · rw [ho] at h7
    have HF := Lib.hid hf
    simp only [if_true]
    clear hpw ho h hf hus hum hB
    go_enter Tryd.func68, Tryd.ntmps68
    go_wp2_with (go_at_call 75; refine HF.out.mono ?_; rintro e w' ⟨rfl, rfl⟩)
    go_ret
    exact ⟨rfl, _, HA.out⟩
end
end Chart
