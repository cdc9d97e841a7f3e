/- rename. -/
import Derived.Test.YtophgamjhngppaaDoorCabC
import Derived.Deep.RegionHeld3
import Derived.Deep.RegionLaw
import Derived.Deep.DeepCutAuto
import Derived.Deep.DrawnRows
namespace Chart
open Go Go.RowKit Go.Proofs
attribute [local go_sem ↓] Go.wp_at_zero Go.wp_at_succ

theorem chg_info : (Tryd.prog.info? 94).map (fun i => (i.zero, i.size, i.bytes)) = some (some (.agg #[.int .i64 0, .string ⟨#[]⟩, .string ⟨#[]⟩, .int .i64 0]), 4, 48) := by kernel_rfl

theorem chgCells_length : ∀ l : List Chg, (chgCells l).length = l.length * 4
  | [] => rfl
  | x :: r => by simp [chgCells, chgCells_length r]; omega
theorem chgCells_snoc (x : Chg) : ∀ l : List Chg, chgCells (l ++ [x]) = chgCells l ++ [.int .i64 x.kind, .string (str x.old), .string (str x.name), .int .i64 x.file]
  | [] => rfl
  | y :: r => by simp [chgCells, chgCells_snoc x r]

theorem chg_one (a d : Int) (b c : ByteArray) : ∀ u ∈ (#[.int .i64 a, .string b, .string c, .int .i64 d] : Array Value).toList, u.oneCell' = true := by
  intro u hu
  simp at hu
  rcases hu with rfl | rfl | rfl | rfl <;> rfl

section
variable {w w' : World} {p : Nat} {c : Cab} {fv : Value} {avs : List Value} {nb sb : Nat} {wv : Value} {D : Nat → Prop}
set_option maxHeartbeats 1000000 in
theorem rename_end (hi : CabIn w p c fv avs nb sb wv) (hD : ∀ k, CabOwn p fv avs nb sb wv k → D k) (x : Chg) {w2 : World} {v' : Value} {cs : List Value} (F : Fr (fun k => k = nb ∨ wv.ownBlock = some k) w w2)
    (hF2 : FolderIn w2 nb (c.now.apply x)) (hrow2 : Row w2 94 4 v' (c.waiting.length + 1) cs) (hcs : cs = chgCells (c.waiting ++ [x])) (hv' : ∀ k, v'.ownBlock = some k → wv.ownBlock = some k ∨ w.heap.size ≤ k) :
    ∃ D', After w D p (c.rename x) D' (w2.setCell ⟨p, 4, none⟩ v') := by
  subst hcs
  have e1 : ¬ (p = nb ∨ wv.ownBlock = some p) := fun e => by
    rcases e with e | e
    · exact hi.blk.ne_map hi.now e
    · exact hi.waiting.ne_blk hi.blk (by decide) e
  have hb2 := hi.blk.fr F e1
  have hin : CabIn (w2.setCell ⟨p, 4, none⟩ v') p (c.rename x) fv avs nb sb v' := {
    blk := hb2.set 4 v'
    files := (hi.files.fr F fun k hk e => by
      rcases e with rfl | e
      · exact hi.files.ne_map hi.now hk
      · exact hi.files.ne_row hi.waiting (by decide) hk e).far (fun e => hi.files.ne_blk hi.blk (by decide) e) _
    len := hi.len
    bytes := fun i f hf => by
      obtain ⟨v, hv, hr⟩ := hi.bytes i f hf
      exact ⟨v, hv, (hr.fr F fun k hk e => by
        rcases e with rfl | e
        · exact hr.ne_map hi.now hk
        · exact hr.ne_row hi.waiting (by decide) hk e).far (fun e => hr.ne_blk hi.blk (by decide) e) _⟩
    apart := hi.apart
    now := hF2.far (Ne.symm (hb2.ne_map hF2)) _
    sure := (hi.sure.fr F fun e => by
      rcases e with e | e
      · exact hi.two e.symm
      · exact hi.waiting.ne_map hi.sure e).far (Ne.symm (hi.blk.ne_map hi.sure)) _
    two := hi.two
    waiting := by
      have := hrow2.far (fun e => hrow2.ne_blk hb2 (by decide) e) (p := ⟨p, 4, none⟩) v'
      simpa [Cab.rename] using this }
  refine ⟨CabOwn p fv avs nb sb v', ⟨fv, avs, nb, sb, v', hin, fun _ h => h, hin.lt⟩, ?_, ?_⟩
  · have F' : Fr D w w2 := F.mono fun k _ h => by
      rcases h with rfl | h
      · exact hD _ (.inr (.inr (.inr (.inl rfl))))
      · exact hD _ (.inr (.inr (.inr (.inr (.inr h)))))
    exact F'.setCell (p := ⟨p, 4, none⟩) (.inl (hD _ (.inl rfl))) _
  · rintro k (rfl | hk | ⟨v, hv, hk⟩ | rfl | rfl | hk)
    · exact .inl (hD _ (.inl rfl))
    · exact .inl (hD _ (.inr (.inl hk)))
    · exact .inl (hD _ (.inr (.inr (.inl ⟨v, hv, hk⟩))))
    · exact .inl (hD _ (.inr (.inr (.inr (.inl rfl)))))
    · exact .inl (hD _ (.inr (.inr (.inr (.inr (.inl rfl))))))
    · rcases hv' k hk with h | h
      · exact .inl (hD _ (.inr (.inr (.inr (.inr (.inr h))))))
      · exact .inr h

set_option maxRecDepth 100000 in
theorem rename_calls (h : CabAt w p c D) (x : Chg) (hn : c.now.length < 1000000000) (hw : c.waiting.length ≤ 1000000) (hx : x.kind ≤ 2) (h1 : x.old.length ≤ maxLen) (h2 : x.name.length ≤ maxLen) (h3 : x.file ≤ 9223372036854775807) (h4 : (c.now.get? x.old).getD 0 ≤ 9223372036854775807) :
    Calls Tryd.prog 54 #[.pointer (some ⟨p, 0, none⟩), chgV x] w fun e w' => e = .returned (.tuple #[]) ∧ ∃ D', After w D p (c.rename x) D' w' := by
  obtain ⟨fv, avs, nb, sb, wv, hi, hD, hlt⟩ := h
  obtain ⟨_, _, k2, _, k4, _, _⟩ := hi.cells
  obtain ⟨i0, hi0, hz0, hz1, hz2⟩ := info_parts chg_info
  have hp := hi.blk.lt
  obtain ⟨kd, old, name, file⟩ := x
  unfold chgV
  simp only at hx h1 h2 h3 h4 ⊢
  go_enter Tryd.func54, Tryd.ntmps54
  go_wp2_with fail
  have hiW := hi.fr ((Fr.refl (fun _ => False) w).alloc (.cells #[.int .i64 kd, .string (str old), .string (str name), .int .i64 file] 94)) (fun _ _ => id)
  have hbox := Blk.new w 94 #[.int .i64 kd, .string (str old), .string (str name), .int .i64 file]
  have hfr0 : Fr (fun _ => False) w (w.alloc (.cells #[.int .i64 kd, .string (str old), .string (str name), .int .i64 file] 94)) := (Fr.refl (fun _ => False) w).alloc _
  generalize w.alloc (.cells #[.int .i64 kd, .string (str old), .string (str name), .int .i64 file] 94) = W at *
  obtain ⟨B, hB⟩ : ∃ B, B = w.heap.size := ⟨_, rfl⟩
  rw [← hB] at hbox ⊢
  have hBw : ¬ wv.ownBlock = some B := fun e => by have := hi.waiting.lt e; omega
  have HB := Lib.hid hB
  clear hB
  have hb0 : W.cell? ⟨B, 0, none⟩ = some (.int .i64 kd) := hbox.cell 0
  have hb1 : W.cell? ⟨B, 1, none⟩ = some (.string (str old)) := hbox.cell 1
  have hb2 : W.cell? ⟨B, 2, none⟩ = some (.string (str name)) := hbox.cell 2
  have hb3 : W.cell? ⟨B, 3, none⟩ = some (.int .i64 file) := hbox.cell 3
  obtain ⟨_, _, k2, _, k4, _, _⟩ := hiW.cells
  have hnow := hiW.now
  have hpn : ¬ p = nb := hiW.blk.ne_map hnow
  have hBn : ¬ B = nb := hbox.ne_map hnow
  go_region_held3 (fun w' => w'.cell? ⟨p, 2, none⟩ = some (.map (some nb)) ∧ w'.cell? ⟨B, 0, none⟩ = some (.int .i64 kd) ∧ w'.cell? ⟨B, 1, none⟩ = some (.string (str old)) ∧ w'.cell? ⟨B, 2, none⟩ = some (.string (str name)) ∧ w'.cell? ⟨B, 3, none⟩ = some (.int .i64 file)) (first | go_keep | exact ⟨hfr1.cell (a := ⟨p, 2, none⟩) k2 hpn, hfr1.cell (a := ⟨B, 0, none⟩) hb0 hBn, hfr1.cell (a := ⟨B, 1, none⟩) hb1 hBn, hfr1.cell (a := ⟨B, 2, none⟩) hb2 hBn, hfr1.cell (a := ⟨B, 3, none⟩) hb3 hBn⟩) ((go_at_call 44; refine (with_calls nb c.now ⟨kd, old, name, file⟩ _ hnow.drew hn hx h1 h2 h3 h4).mono ?_; rintro e w1 ⟨rfl, hF1, hfr1⟩))
  replace hfr1 := hfr1.undrew
  have hi1 : Row w1 94 4 wv c.waiting.length (chgCells c.waiting) := hiW.waiting.fr hfr1 fun k hk e => hiW.waiting.ne_map hnow (by rw [hk, show k = nb from e])
  have j4 := hfr1.cell (a := ⟨p, 4, none⟩) k4 hpn
  have jb0 := hfr1.cell (a := ⟨B, 0, none⟩) hb0 hBn
  have jb1 := hfr1.cell (a := ⟨B, 1, none⟩) hb1 hBn
  have jb2 := hfr1.cell (a := ⟨B, 2, none⟩) hb2 hBn
  have jb3 := hfr1.cell (a := ⟨B, 3, none⟩) hb3 hBn
  have hbox1 := hbox.fr hfr1 hBn
  have hb1k := hiW.blk.fr hfr1 hpn
  have hpw : ¬ wv.ownBlock = some p := hi1.ne_blk hb1k (by decide)
  have hpf : w1.frozen? ⟨p, 4, none⟩ = false := (hiW.blk.fr hfr1 hpn).frozen 4
  have hpl : p < w1.heap.size := (hiW.blk.fr hfr1 hpn).lt
  clear k2 k4 hb0 hb1 hb2 hb3 hiW hbox
  go_wp2_with fail
  go_region_law ((refine step_append_row _ (by rfl) (.tmp 14) (.tmp 16) 79 (by rfl) 94 i0 _ 4 48 Tryd.underlying79 hi0 hz0 hz1 hz2 (by rfl) (by decide) wv c.waiting.length (chgCells c.waiting) (by rfl) (hi1.alloc _).drew _ 1 _ (by rfl) (Row.made w1 94 4 1 #[.int .i64 kd, .string (str old), .string (str name), .int .i64 file] (by rfl) (by decide)).src.drew (chg_one _ _ _ _) (by simp only [maxLen]; omega) (by omega) ?_; intro v' w2 hrow2 hfr2 hwhere; obtain ⟨A', c', rfl, _, _⟩ := hrow2.shape; have hb2k := ((hb1k.alloc _).drew).fr hfr2 hpw; have q4 : w2.cell? ⟨p, 4, none⟩ = some wv := hb2k.cell 4; have qf := hb2k.frozen 4; have hbox2 := ((hbox1.alloc _).drew).fr hfr2 hBw; have r0 : w2.cell? ⟨B, 0, none⟩ = some (.int .i64 kd) := hbox2.cell 0; have r1 : w2.cell? ⟨B, 1, none⟩ = some (.string (str old)) := hbox2.cell 1; have r2 : w2.cell? ⟨B, 2, none⟩ = some (.string (str name)) := hbox2.cell 2; have r3 : w2.cell? ⟨B, 3, none⟩ = some (.int .i64 file) := hbox2.cell 3))
  all_goals
    go_wp2_with fail
    go_end0
    refine ⟨rfl, ?_⟩
    have F01 : Fr (· = nb) w w1 := (hfr0.mono fun _ _ h => h.elim).trans hfr1 fun i h => .inl h
    have F02 : Fr (fun k => k = nb ∨ wv.ownBlock = some k) w w2 := (((F01.mono fun _ _ h => .inl h).alloc _).drew).trans hfr2 fun i h => .inl (.inr h)
    have hF2 := ((hF1.alloc _).drew).fr hfr2 fun e => hi.waiting.ne_map hi.now e
    refine rename_end hi hD _ F02 hF2 hrow2 (chgCells_snoc ⟨kd, old, name, file⟩ c.waiting).symm fun k hk => ?_
    rcases hwhere with h | h
    · rw [h] at hk
      exact .inl hk
    · rw [h] at hk
      injection hk with hk
      have hs := F01.size
      simp at hk
      exact .inr (by omega)
end
end Chart
