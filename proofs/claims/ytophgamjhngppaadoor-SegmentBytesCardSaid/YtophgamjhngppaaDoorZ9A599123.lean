import Derived.Test.YtophgamjhngppaaDoorZ0CA8B396
import Derived.WalkKit
import Derived.WalkLawsBesides
import Derived.Outline
import Derived.Deep.QuietTactic
import Derived.BigQuiet
import Derived.Deep.RegionHeld3
import Derived.Deep.RegionLaw
import Derived.Deep.DeepCutAuto
import Derived.Deep.DrawnRows
import Derived.Maps.RangeWalk
/- The cabinet's small methods: ready, spend, find, Fail. -/
namespace Chart
open Go Go.RowKit Go.Proofs

theorem zero_int (w : World) : (zeroValue 3).run Tryd.prog w = .ok (.int .i64 0) w := by kernel_rfl

set_option maxHeartbeats 400000 in
theorem ready_nil (w : World) : Calls Tryd.prog 51 #[.pointer none] w fun e w' => e = .returned (.int .i64 1) ∧ w = w' := by
  go_enter Tryd.func51, Tryd.ntmps51
  go_wp2
  go_ret
  exact ⟨rfl, rfl⟩

def readyE (off : Bool) : Int := if off then 11 else 0
set_option maxHeartbeats 400000 in
theorem ready_cell (p : Nat) (b : Bool) (w : World) (h : w.cell? ⟨p, 6, none⟩ = some (.bool b)) :
    Calls Tryd.prog 51 #[.pointer (some ⟨p, 0, none⟩)] w fun e w' => e = .returned (.int .i64 (readyE b)) ∧ w = w' := by
  cases b
  · go_enter Tryd.func51, Tryd.ntmps51
    go_wp2
    go_ret
    exact ⟨rfl, rfl⟩
  · go_enter Tryd.func51, Tryd.ntmps51
    go_wp2
    go_ret
    exact ⟨rfl, rfl⟩

section
variable {w w' : World} {p : Nat} {c : Cab} {fv : Value} {avs : List Value} {nb sb : Nat} {wv : Value} {D : Nat → Prop}
theorem CabIn.ready (h : CabIn w p c fv avs nb sb wv) : Calls Tryd.prog 51 #[.pointer (some ⟨p, 0, none⟩)] w fun e w' => e = .returned (.int .i64 (readyE c.off)) ∧ w = w' :=
  ready_cell p c.off w h.cells.2.2.2.2.2.2

/-- Behind a store into the struct's own cells. -/
theorem CabIn.after (h : CabIn w p c fv avs nb sb wv) (a : Int) : CabIn (w.setCell ⟨p, 5, none⟩ (.int .i64 a)) p { c with after := a } fv avs nb sb wv where
  blk := h.blk.set 5 _
  files := h.files.far (h.files.ne_blk h.blk (by decide)) _
  len := h.len
  bytes := fun i f hi => by
    obtain ⟨v, hv, hr⟩ := h.bytes i f hi
    exact ⟨v, hv, hr.far (hr.ne_blk h.blk (by decide)) _⟩
  apart := h.apart
  now := h.now.far (Ne.symm (h.blk.ne_map h.now)) _
  sure := h.sure.far (Ne.symm (h.blk.ne_map h.sure)) _
  two := h.two
  waiting := h.waiting.far (h.waiting.ne_blk h.blk (by decide)) _
theorem CabIn.setOff (h : CabIn w p c fv avs nb sb wv) (b : Bool) : CabIn (w.setCell ⟨p, 6, none⟩ (.bool b)) p { c with off := b } fv avs nb sb wv where
  blk := h.blk.set 6 _
  files := h.files.far (h.files.ne_blk h.blk (by decide)) _
  len := h.len
  bytes := fun i f hi => by
    obtain ⟨v, hv, hr⟩ := h.bytes i f hi
    exact ⟨v, hv, hr.far (hr.ne_blk h.blk (by decide)) _⟩
  apart := h.apart
  now := h.now.far (Ne.symm (h.blk.ne_map h.now)) _
  sure := h.sure.far (Ne.symm (h.blk.ne_map h.sure)) _
  two := h.two
  waiting := h.waiting.far (h.waiting.ne_blk h.blk (by decide)) _

set_option maxHeartbeats 400000 in
theorem CabIn.spend (h : CabIn w p c fv avs nb sb wv) (a0 : -1 ≤ c.after) (a1 : c.after ≤ 9223372036854775807) :
    Calls Tryd.prog 53 #[.pointer (some ⟨p, 0, none⟩)] w fun e w' => e = .returned (.int .i64 c.spend.2) ∧ CabIn w' p c.spend.1 fv avs nb sb wv ∧ Fr (· = p) w w' := by
  obtain ⟨_, _, _, _, _, h5, h6⟩ := h.cells
  have f5 := h.blk.frozen 5
  have f6 := h.blk.frozen 6
  rcases (by omega : c.after = 0 ∨ 0 < c.after ∨ c.after < 0) with h0 | h0 | h0
  · have hA := h.setOff true
    have hs : c.spend = ({ c with off := true }, 11) := by unfold Cab.spend; rw [if_pos h0]
    rw [hs]
    rw [h0] at h5
    have HA := Lib.hid hA
    clear hA h0 hs a0 a1 h
    go_enter Tryd.func53, Tryd.ntmps53
    go_wp2
    go_ret
    exact ⟨rfl, HA.out, (Fr.refl (· = p) w).setCell (p := ⟨p, 6, none⟩) (.inl rfl) _⟩
  · have hA := h.after (c.after - 1)
    have hs : c.spend = ({ c with after := c.after - 1 }, 0) := by unfold Cab.spend; rw [if_neg (by omega), if_pos h0]
    rw [hs]
    have HA := Lib.hid hA
    clear hA hs h
    go_enter Tryd.func53, Tryd.ntmps53
    go_wp2
    go_ret
    exact ⟨rfl, HA.out, (Fr.refl (· = p) w).setCell (p := ⟨p, 5, none⟩) (.inl rfl) _⟩
  · have hs : c.spend = (c, 0) := by unfold Cab.spend; rw [if_neg (by omega), if_neg (by omega)]
    rw [hs]
    have HA := Lib.hid h
    clear hs h
    go_enter Tryd.func53, Tryd.ntmps53
    go_wp2
    go_ret
    exact ⟨rfl, HA.out, Fr.refl _ _⟩

theorem find_nil (s : ByteArray) (w : World) : Calls Tryd.prog 49 #[.pointer none, .string s] w fun e w' => e = .returned (.tuple #[.int .i64 0, .int .i64 1]) ∧ w = w' := by
  go_enter Tryd.func49, Tryd.ntmps49
  go_wp2_with (go_at_call 51; refine (ready_nil _).mono ?_; rintro e w' ⟨rfl, rfl⟩)
  go_ret2
  exact ⟨rfl, rfl⟩

set_option maxHeartbeats 400000 in
theorem CabIn.find (h : CabIn w p c fv avs nb sb wv) (k : Txt) (hk : k.length ≤ maxLen) :
    Calls Tryd.prog 49 #[.pointer (some ⟨p, 0, none⟩), .string (str k)] w fun e w' => e = .returned (.tuple #[.int .i64 ((c.find k).1 : Nat), .int .i64 (c.find k).2]) ∧ w = w' := by
  obtain ⟨_, _, h2, _, _, _, _⟩ := h.cells
  have hr := h.ready
  have hn := h.now
  cases ho : c.off
  · rw [ho] at hr
    cases hg : c.now.get? k with
    | none =>
      have hf : c.find k = (0, 7) := by simp [Cab.find, ho, hg]
      rw [hf]
      have HR := Lib.hid hr; have HG := Lib.hid hg
      clear hr hg ho hf
      go_enter Tryd.func49, Tryd.ntmps49
      go_wp2_with (first | (go_at_call 51; refine HR.out.mono ?_; rintro e w' ⟨rfl, rfl⟩) | (at_lookup; refine wpList_look_ok _ rfl _ _ 77 rfl 9 3 Tryd.underlying9 Tryd.underlying77 Tryd.underlying3 (zero_int _) nb c.now rfl hn k rfl hk ?_; rw [HG.out]))
      go_ret2
      exact ⟨rfl, rfl⟩
    | some n =>
      have hf : c.find k = (n, 0) := by simp [Cab.find, ho, hg]
      rw [hf]
      have HR := Lib.hid hr; have HG := Lib.hid hg
      clear hr hg ho hf
      go_enter Tryd.func49, Tryd.ntmps49
      go_wp2_with (first | (go_at_call 51; refine HR.out.mono ?_; rintro e w' ⟨rfl, rfl⟩) | (at_lookup; refine wpList_look_ok _ rfl _ _ 77 rfl 9 3 Tryd.underlying9 Tryd.underlying77 Tryd.underlying3 (zero_int _) nb c.now rfl hn k rfl hk ?_; rw [HG.out]))
      go_ret2
      exact ⟨rfl, rfl⟩
  · rw [ho] at hr
    have hf : c.find k = (0, 11) := by simp [Cab.find, ho]
    rw [hf]
    have HR := Lib.hid hr
    clear hr ho hf
    go_enter Tryd.func49, Tryd.ntmps49
    go_wp2_with (go_at_call 51; refine HR.out.mono ?_; rintro e w' ⟨rfl, rfl⟩)
    go_ret2
    exact ⟨rfl, rfl⟩

set_option maxHeartbeats 400000 in
theorem CabIn.fail (h : CabIn w p c fv avs nb sb wv) (n : Int) :
    Calls Tryd.prog 14 #[.pointer (some ⟨p, 0, none⟩), .int .i64 n] w fun e w' => e = .returned (.tuple #[]) ∧ CabIn w' p (c.fail n) fv avs nb sb wv ∧ Fr (· = p) w w' := by
  obtain ⟨_, _, _, _, _, h5, _⟩ := h.cells
  have f5 := h.blk.frozen 5
  by_cases hn : -1 ≤ n
  · have e : c.fail n = { c with after := n } := by unfold Cab.fail; rw [Int.max_eq_left hn]
    rw [e]
    have HA := Lib.hid (h.after n)
    clear h e
    go_enter Tryd.func14, Tryd.ntmps14
    go_wp2
    go_end0
    exact ⟨rfl, HA.out, (Fr.refl (· = p) w).setCell (p := ⟨p, 5, none⟩) (.inl rfl) _⟩
  · have e : c.fail n = { c with after := -1 } := by unfold Cab.fail; rw [Int.max_eq_right (by omega)]
    rw [e]
    have HA := Lib.hid (h.after (-1))
    clear h e
    go_enter Tryd.func14, Tryd.ntmps14
    go_wp2
    go_end0
    exact ⟨rfl, HA.out, (Fr.refl (· = p) w).setCell (p := ⟨p, 5, none⟩) (.inl rfl) _⟩
theorem fail_nil (n : Int) (w : World) : Calls Tryd.prog 14 #[.pointer none, .int .i64 n] w fun e w' => e = .returned (.tuple #[]) ∧ w = w' := by
  go_enter Tryd.func14, Tryd.ntmps14
  go_wp2
  go_end0
  exact ⟨rfl, rfl⟩
end
end Chart

/- Used. -/
namespace Chart
open Go Go.RowKit Go.Proofs

theorem fileCells_get : ∀ (avs : List Value) (fs : List FileS) (k : Nat) (v : Value) (f : FileS), avs[k]? = some v → fs[k]? = some f →
    (fileCells avs fs)[k * 2]? = some v ∧ (fileCells avs fs)[k * 2 + 1]? = some (.int .i64 f.sure)
  | [], _, _, _, _, h, _ => by simp at h
  | _ :: _, [], _, _, _, _, h => by simp at h
  | v :: vs, f :: fs, 0, v', f', h, h' => by
    simp at h h'
    subst h h'
    exact ⟨rfl, rfl⟩
  | v :: vs, f :: fs, k + 1, v', f', h, h' => by
    simp only [List.getElem?_cons_succ] at h h'
    have ih := fileCells_get vs fs k v' f' h h'
    have e : (k + 1) * 2 = k * 2 + 1 + 1 := by omega
    simp only [fileCells, e, List.getElem?_cons_succ]
    exact ih

theorem Fr.below_ {w w' : World} (h : Fr (fun _ => False) w w') : Below w.heap.size w w' := h.below (Nat.le_refl _) fun _ _ => id

def usedTo (fs : List FileS) : Nat := (fs.map fun f => f.all.length).foldl (· + ·) 0
theorem usedTo_snoc (fs : List FileS) (f : FileS) : usedTo (fs ++ [f]) = usedTo fs + f.all.length := by simp [usedTo, List.foldl_append]
theorem take_snoc' {α : Type} (l : List α) (k : Nat) (a : α) (h : l[k]? = some a) : l.take (k + 1) = l.take k ++ [a] := by
  rw [List.take_add_one, h]
  rfl

theorem usedTo_le (M : Nat) (fs : List FileS) (h : ∀ f ∈ fs, f.all.length ≤ M) (k : Nat) : usedTo (fs.take k) ≤ k * M := by
  induction k with
  | zero => simp [usedTo]
  | succ k ih =>
    rw [Nat.succ_mul]
    rcases hf : fs[k]? with _ | f
    · have hl : fs.length ≤ k := by
        rcases Nat.lt_or_ge k fs.length with h1 | h1
        · rw [List.getElem?_eq_getElem h1] at hf; cases hf
        · exact h1
      rw [List.take_of_length_le (by omega)]
      rw [List.take_of_length_le (by omega)] at ih
      exact Nat.le_trans ih (Nat.le_add_right _ _)
    · rw [take_snoc' fs k f hf, usedTo_snoc]
      exact Nat.add_le_add ih (h f (List.mem_of_getElem? hf))

section
variable {w w' : World} {p : Nat} {c : Cab} {fv : Value} {avs : List Value} {nb sb : Nat} {wv : Value} {D : Nat → Prop}
theorem CabIn.file (h : CabIn w p c fv avs nb sb wv) {k : Nat} (hk : k < c.files.length) : ∃ g cp v f, fv = .slice (some ⟨g, 0, none⟩) c.files.length cp ∧ c.files.length ≤ cp ∧ avs[k]? = some v ∧ c.files[k]? = some f ∧ g < w.heap.size ∧
    w.cell? ⟨g, k * 2, none⟩ = some v ∧ w.cell? ⟨g, k * 2 + 1, none⟩ = some (.int .i64 f.sure) ∧ Bytes w v f.all := by
  obtain ⟨g, cp, hv, h1, _, hc, _, hg⟩ := h.files.form (by omega)
  have hf := List.getElem?_eq_getElem hk
  obtain ⟨v, ha, hb⟩ := h.bytes k _ hf
  obtain ⟨e1, e2⟩ := fileCells_get avs c.files k v _ ha hf
  exact ⟨g, cp, v, _, hv, h1, ha, hf, hg, hc _ _ e1, hc _ _ e2, hb⟩

set_option maxHeartbeats 400000 in
theorem used_nil (w : World) : Calls Tryd.prog 18 #[.pointer none] w fun e w' => e = .returned (.tuple #[.int .i64 0, .int .i64 0]) ∧ w = w' := by
  go_enter Tryd.func18, Tryd.ntmps18
  go_wp2
  go_ret2
  exact ⟨rfl, rfl⟩

set_option maxHeartbeats 1000000 in
theorem CabIn.used (h : CabIn w p c fv avs nb sb wv) (hall : ∀ f ∈ c.files, f.all.length ≤ 1048576) (hn : c.files.length ≤ 1000000) :
    Calls Tryd.prog 18 #[.pointer (some ⟨p, 0, none⟩)] w fun e w' => e = .returned (.tuple #[.int .i64 (c.used : Nat), .int .i64 c.quota]) ∧ Fr (fun _ => False) w w' := by
  obtain ⟨h0, h1, _, _, _, _, _⟩ := h.cells
  obtain ⟨A, cp, rfl, hcp, hcp2⟩ := h.files.shape
  have hp := h.blk.lt
  go_enter Tryd.func18, Tryd.ntmps18
  go_wp2
  go_loopw [2, 13] (fun u i wr => ∃ k : Nat, k ≤ c.files.length ∧ i = .int .i64 k ∧ u = .int .i64 (usedTo (c.files.take k) : Nat) ∧ Fr (fun _ => False) w wr) (fun _ i _ => c.files.length - (intOf i).toNat)
  case atStart => exact ⟨0, Nat.zero_le _, rfl, rfl, Fr.refl _ _⟩
  case round =>
    obtain ⟨k, hk, rfl, rfl, hfr⟩ := hrel
    by_cases hlt : k < c.files.length
    · obtain ⟨g, cp', v, f, hv, _, ha, hf, hg, c0, c1, hb⟩ := h.file hlt
      cases hv
      have k0 := hfr.cell c0 id
      have k1 := hfr.cell c1 id
      obtain ⟨A', cp2, rfl, _, _⟩ := hb.shape
      have hle := usedTo_le 1048576 c.files hall k
      have hfl := hall f (List.mem_of_getElem? hf)
      have HS := Lib.hid (take_snoc' c.files k f hf)
      have HU := Lib.hid (usedTo_snoc (c.files.take k) f)
      clear hf hall hb
      generalize usedTo (c.files.take k) = U at hle HU ⊢
      go_wp2
      go_roundw
      case rel =>
        refine ⟨k + 1, by omega, by go_num, ?_, hfr.alloc _⟩
        rw [HS.out, HU.out]; go_num
      case measure => simp [intOf]; omega
    · obtain rfl : k = c.files.length := by omega
      rw [List.take_length]
      have h0' := hfr.cell h0 id
      have HF := Lib.hid hfr
      clear hfr
      generalize hU : usedTo c.files = U
      have HU := Lib.hid hU
      clear hU
      go_wp2
      go_quiet (fail)
      go_wp2
      go_ret2
      exact ⟨by rw [← HU.out]; rfl, HF.out.drewN _⟩
end
end Chart

/- A folder behind a change; the range over a folder. -/
namespace Chart
open Go Go.RowKit Go.Proofs

def chgV (x : Chg) : Value := .agg #[.int .i64 x.kind, .string (str x.old), .string (str x.name), .int .i64 x.file]

theorem ins_length (k : Txt) (v : Nat) (F : Folder) : (F.ins k v).length = F.length + 1 := by
  induction F with
  | nil => rfl
  | cons y r ih => unfold Folder.ins; split <;> simp_all
theorem del_length (k : Txt) (F : Folder) : (F.del k).length ≤ F.length := List.length_filter_le _ _
theorem put_length (k : Txt) (v : Nat) (F : Folder) : (F.put k v).length ≤ F.length + 1 := by
  unfold Folder.put
  rw [ins_length]
  have := del_length k F
  omega
theorem apply_length (x : Chg) (F : Folder) : (F.apply x).length ≤ F.length + 1 := by
  unfold Folder.apply
  have h1 := put_length x.name x.file F
  have h2 := put_length x.name ((F.get? x.old).getD 0) (F.del x.old)
  have h3 := del_length x.old F
  have h4 := del_length x.name F
  repeat' split
  all_goals omega

set_option maxHeartbeats 1000000 in
theorem with_calls (b : Nat) (F : Folder) (x : Chg) (w : World) (h : FolderIn w b F) (hn : F.length < 1000000000) (hx : x.kind ≤ 2) (h1 : x.old.length ≤ maxLen) (h2 : x.name.length ≤ maxLen) (h3 : x.file ≤ 9223372036854775807) (h4 : (F.get? x.old).getD 0 ≤ 9223372036854775807) :
    Calls Tryd.prog 44 #[.map (some b), chgV x] w fun e w' => e = .returned (.tuple #[]) ∧ FolderIn w' b (F.apply x) ∧ Fr (· = b) w w' := by
  obtain ⟨kind, old, name, file⟩ := x
  simp only at hx h1 h2 h3 h4
  unfold chgV
  simp only
  have hb := h.lt
  have hn' : F.length < maxLen := by simp only [maxLen]; omega
  rcases (by omega : kind = 0 ∨ kind = 1 ∨ kind = 2) with hk | hk | hk
  · have e : F.apply ⟨kind, old, name, file⟩ = F.put name file := by unfold Folder.apply; rw [if_pos hk]
    rw [e]
    subst hk
    clear e
    go_enter Tryd.func44, Tryd.ntmps44
    go_wp2_with (at_mapUpdate; refine wpList_put _ rfl _ _ _ 77 rfl 9 3 Tryd.underlying9 Tryd.underlying77 Tryd.underlying3 b F rfl (h.alloc _) hn' name rfl h2 file rfl (by omega) ?_; intro w1 hF1 hfr1)
    go_end0
    refine ⟨rfl, hF1, ((Fr.refl _ w).alloc _).trans hfr1 fun i hi => .inl hi⟩
  · have e : F.apply ⟨kind, old, name, file⟩ = (F.del old).put name ((F.get? old).getD 0) := by unfold Folder.apply; rw [if_neg (by simp; omega), if_pos hk]
    rw [e]
    subst hk
    clear e
    have hd := del_length old F
    have hd' : (F.del old).length < maxLen := by simp only [maxLen]; omega
    go_enter Tryd.func44, Tryd.ntmps44
    go_wp2_with (first
      | (at_lookup; refine wpList_look _ rfl _ _ 77 rfl 9 3 Tryd.underlying9 Tryd.underlying77 Tryd.underlying3 (zero_int _) b F rfl (h.alloc _) old rfl h1 ?_)
      | (at_delete; refine wpList_del _ rfl _ _ 77 9 rfl 3 Tryd.underlying9 Tryd.underlying77 b F rfl (h.alloc _) old rfl h1 ?_; intro w1 hF1 hfr1; have c2 := hfr1.cell (a := ⟨w.heap.size, 2, none⟩) (v := .string (str name)) (by simp) (by simp; omega))
      | (at_mapUpdate; refine wpList_put _ rfl _ _ _ 77 rfl 9 3 Tryd.underlying9 Tryd.underlying77 Tryd.underlying3 b (F.del old) rfl hF1 hd' name rfl h2 ((F.get? old).getD 0) rfl (by omega) ?_; intro w2 hF2 hfr2))
    go_end0
    refine ⟨rfl, hF2, (((Fr.refl _ w).alloc _).trans hfr1 fun i hi => .inl hi).trans hfr2 fun i hi => .inl hi⟩
  · have e : F.apply ⟨kind, old, name, file⟩ = F.del name := by unfold Folder.apply; rw [if_neg (by simp; omega), if_neg (by simp; omega), if_pos hk]
    rw [e]
    subst hk
    clear e
    go_enter Tryd.func44, Tryd.ntmps44
    go_wp2_with (at_delete; refine wpList_del _ rfl _ _ 77 9 rfl 3 Tryd.underlying9 Tryd.underlying77 b F rfl (h.alloc _) name rfl h2 ?_; intro w1 hF1 hfr1)
    go_end0
    refine ⟨rfl, hF1, ((Fr.refl _ w).alloc _).trans hfr1 fun i hi => .inl hi⟩
end Chart

/- rename. -/
namespace Chart
open Go Go.RowKit Go.Proofs
attribute [local go_sem ↓] Go.wp_at_zero Go.wp_at_succ

theorem chg_info : (Tryd.prog.info? 94).map (fun i => (i.zero, i.size, i.bytes)) = some (some (.agg #[.int .i64 0, .string ⟨#[]⟩, .string ⟨#[]⟩, .int .i64 0]), 4, 48) := by kernel_rfl

theorem chgCells_length : ∀ l : List Chg, (chgCells l).length = l.length * 4
  | [] => rfl
  | x :: r => by simp [chgCells, chgCells_length r]; omega
theorem chgCells_snoc (x : Chg) : ∀ l : List Chg, chgCells (l ++ [x]) = chgCells l ++ [.int .i64 x.kind, .string (str x.old), .string (str x.name), .int .i64 x.file]
  | [] => rfl
  | y :: r => by simp [chgCells, chgCells_snoc x r]

theorem chg_one (a d : Int) (b c : ByteArray) : ∀ u ∈ (#[.int .i64 a, .string b, .string c, .int .i64 d] : Array Value).toList, u.oneCell' = true := by
  intro u hu
  simp at hu
  rcases hu with rfl | rfl | rfl | rfl <;> rfl

section
variable {w w' : World} {p : Nat} {c : Cab} {fv : Value} {avs : List Value} {nb sb : Nat} {wv : Value} {D : Nat → Prop}
set_option maxHeartbeats 1000000 in
theorem rename_end (hi : CabIn w p c fv avs nb sb wv) (hD : ∀ k, CabOwn p fv avs nb sb wv k → D k) (x : Chg) {w2 : World} {v' : Value} {cs : List Value} (F : Fr (fun k => k = nb ∨ wv.ownBlock = some k) w w2)
    (hF2 : FolderIn w2 nb (c.now.apply x)) (hrow2 : Row w2 94 4 v' (c.waiting.length + 1) cs) (hcs : cs = chgCells (c.waiting ++ [x])) (hv' : ∀ k, v'.ownBlock = some k → wv.ownBlock = some k ∨ w.heap.size ≤ k) :
    ∃ D', After w D p (c.rename x) D' (w2.setCell ⟨p, 4, none⟩ v') := by
  subst hcs
  have e1 : ¬ (p = nb ∨ wv.ownBlock = some p) := fun e => by
    rcases e with e | e
    · exact hi.blk.ne_map hi.now e
    · exact hi.waiting.ne_blk hi.blk (by decide) e
  have hb2 := hi.blk.fr F e1
  have hin : CabIn (w2.setCell ⟨p, 4, none⟩ v') p (c.rename x) fv avs nb sb v' := {
    blk := hb2.set 4 v'
    files := (hi.files.fr F fun k hk e => by
      rcases e with rfl | e
      · exact hi.files.ne_map hi.now hk
      · exact hi.files.ne_row hi.waiting (by decide) hk e).far (fun e => hi.files.ne_blk hi.blk (by decide) e) _
    len := hi.len
    bytes := fun i f hf => by
      obtain ⟨v, hv, hr⟩ := hi.bytes i f hf
      exact ⟨v, hv, (hr.fr F fun k hk e => by
        rcases e with rfl | e
        · exact hr.ne_map hi.now hk
        · exact hr.ne_row hi.waiting (by decide) hk e).far (fun e => hr.ne_blk hi.blk (by decide) e) _⟩
    apart := hi.apart
    now := hF2.far (Ne.symm (hb2.ne_map hF2)) _
    sure := (hi.sure.fr F fun e => by
      rcases e with e | e
      · exact hi.two e.symm
      · exact hi.waiting.ne_map hi.sure e).far (Ne.symm (hi.blk.ne_map hi.sure)) _
    two := hi.two
    waiting := by
      have := hrow2.far (fun e => hrow2.ne_blk hb2 (by decide) e) (p := ⟨p, 4, none⟩) v'
      simpa [Cab.rename] using this }
  refine ⟨CabOwn p fv avs nb sb v', ⟨fv, avs, nb, sb, v', hin, fun _ h => h, hin.lt⟩, ?_, ?_⟩
  · have F' : Fr D w w2 := F.mono fun k _ h => by
      rcases h with rfl | h
      · exact hD _ (.inr (.inr (.inr (.inl rfl))))
      · exact hD _ (.inr (.inr (.inr (.inr (.inr h)))))
    exact F'.setCell (p := ⟨p, 4, none⟩) (.inl (hD _ (.inl rfl))) _
  · rintro k (rfl | hk | ⟨v, hv, hk⟩ | rfl | rfl | hk)
    · exact .inl (hD _ (.inl rfl))
    · exact .inl (hD _ (.inr (.inl hk)))
    · exact .inl (hD _ (.inr (.inr (.inl ⟨v, hv, hk⟩))))
    · exact .inl (hD _ (.inr (.inr (.inr (.inl rfl)))))
    · exact .inl (hD _ (.inr (.inr (.inr (.inr (.inl rfl))))))
    · rcases hv' k hk with h | h
      · exact .inl (hD _ (.inr (.inr (.inr (.inr (.inr h))))))
      · exact .inr h

set_option maxRecDepth 100000 in
theorem rename_calls (h : CabAt w p c D) (x : Chg) (hn : c.now.length < 1000000000) (hw : c.waiting.length ≤ 1000000) (hx : x.kind ≤ 2) (h1 : x.old.length ≤ maxLen) (h2 : x.name.length ≤ maxLen) (h3 : x.file ≤ 9223372036854775807) (h4 : (c.now.get? x.old).getD 0 ≤ 9223372036854775807) :
    Calls Tryd.prog 54 #[.pointer (some ⟨p, 0, none⟩), chgV x] w fun e w' => e = .returned (.tuple #[]) ∧ ∃ D', After w D p (c.rename x) D' w' := by
  obtain ⟨fv, avs, nb, sb, wv, hi, hD, hlt⟩ := h
  obtain ⟨_, _, k2, _, k4, _, _⟩ := hi.cells
  obtain ⟨i0, hi0, hz0, hz1, hz2⟩ := info_parts chg_info
  have hp := hi.blk.lt
  obtain ⟨kd, old, name, file⟩ := x
  unfold chgV
  simp only at hx h1 h2 h3 h4 ⊢
  go_enter Tryd.func54, Tryd.ntmps54
  go_wp2_with fail
  have hiW := hi.fr ((Fr.refl (fun _ => False) w).alloc (.cells #[.int .i64 kd, .string (str old), .string (str name), .int .i64 file] 94)) (fun _ _ => id)
  have hbox := Blk.new w 94 #[.int .i64 kd, .string (str old), .string (str name), .int .i64 file]
  have hfr0 : Fr (fun _ => False) w (w.alloc (.cells #[.int .i64 kd, .string (str old), .string (str name), .int .i64 file] 94)) := (Fr.refl (fun _ => False) w).alloc _
  generalize w.alloc (.cells #[.int .i64 kd, .string (str old), .string (str name), .int .i64 file] 94) = W at *
  obtain ⟨B, hB⟩ : ∃ B, B = w.heap.size := ⟨_, rfl⟩
  rw [← hB] at hbox ⊢
  have hBw : ¬ wv.ownBlock = some B := fun e => by have := hi.waiting.lt e; omega
  have HB := Lib.hid hB
  clear hB
  have hb0 : W.cell? ⟨B, 0, none⟩ = some (.int .i64 kd) := hbox.cell 0
  have hb1 : W.cell? ⟨B, 1, none⟩ = some (.string (str old)) := hbox.cell 1
  have hb2 : W.cell? ⟨B, 2, none⟩ = some (.string (str name)) := hbox.cell 2
  have hb3 : W.cell? ⟨B, 3, none⟩ = some (.int .i64 file) := hbox.cell 3
  obtain ⟨_, _, k2, _, k4, _, _⟩ := hiW.cells
  have hnow := hiW.now
  have hpn : ¬ p = nb := hiW.blk.ne_map hnow
  have hBn : ¬ B = nb := hbox.ne_map hnow
  go_region_held3 (fun w' => w'.cell? ⟨p, 2, none⟩ = some (.map (some nb)) ∧ w'.cell? ⟨B, 0, none⟩ = some (.int .i64 kd) ∧ w'.cell? ⟨B, 1, none⟩ = some (.string (str old)) ∧ w'.cell? ⟨B, 2, none⟩ = some (.string (str name)) ∧ w'.cell? ⟨B, 3, none⟩ = some (.int .i64 file)) (first | go_keep | exact ⟨hfr1.cell (a := ⟨p, 2, none⟩) k2 hpn, hfr1.cell (a := ⟨B, 0, none⟩) hb0 hBn, hfr1.cell (a := ⟨B, 1, none⟩) hb1 hBn, hfr1.cell (a := ⟨B, 2, none⟩) hb2 hBn, hfr1.cell (a := ⟨B, 3, none⟩) hb3 hBn⟩) ((go_at_call 44; refine (with_calls nb c.now ⟨kd, old, name, file⟩ _ hnow.drew hn hx h1 h2 h3 h4).mono ?_; rintro e w1 ⟨rfl, hF1, hfr1⟩))
  replace hfr1 := hfr1.undrew
  have hi1 : Row w1 94 4 wv c.waiting.length (chgCells c.waiting) := hiW.waiting.fr hfr1 fun k hk e => hiW.waiting.ne_map hnow (by rw [hk, show k = nb from e])
  have j4 := hfr1.cell (a := ⟨p, 4, none⟩) k4 hpn
  have jb0 := hfr1.cell (a := ⟨B, 0, none⟩) hb0 hBn
  have jb1 := hfr1.cell (a := ⟨B, 1, none⟩) hb1 hBn
  have jb2 := hfr1.cell (a := ⟨B, 2, none⟩) hb2 hBn
  have jb3 := hfr1.cell (a := ⟨B, 3, none⟩) hb3 hBn
  have hbox1 := hbox.fr hfr1 hBn
  have hb1k := hiW.blk.fr hfr1 hpn
  have hpw : ¬ wv.ownBlock = some p := hi1.ne_blk hb1k (by decide)
  have hpf : w1.frozen? ⟨p, 4, none⟩ = false := (hiW.blk.fr hfr1 hpn).frozen 4
  have hpl : p < w1.heap.size := (hiW.blk.fr hfr1 hpn).lt
  clear k2 k4 hb0 hb1 hb2 hb3 hiW hbox
  go_wp2_with fail
  go_region_law ((refine step_append_row _ (by rfl) (.tmp 14) (.tmp 16) 79 (by rfl) 94 i0 _ 4 48 Tryd.underlying79 hi0 hz0 hz1 hz2 (by rfl) (by decide) wv c.waiting.length (chgCells c.waiting) (by rfl) (hi1.alloc _).drew _ 1 _ (by rfl) (Row.made w1 94 4 1 #[.int .i64 kd, .string (str old), .string (str name), .int .i64 file] (by rfl) (by decide)).src.drew (chg_one _ _ _ _) (by simp only [maxLen]; omega) (by omega) ?_; intro v' w2 hrow2 hfr2 hwhere; obtain ⟨A', c', rfl, _, _⟩ := hrow2.shape; have hb2k := ((hb1k.alloc _).drew).fr hfr2 hpw; have q4 : w2.cell? ⟨p, 4, none⟩ = some wv := hb2k.cell 4; have qf := hb2k.frozen 4; have hbox2 := ((hbox1.alloc _).drew).fr hfr2 hBw; have r0 : w2.cell? ⟨B, 0, none⟩ = some (.int .i64 kd) := hbox2.cell 0; have r1 : w2.cell? ⟨B, 1, none⟩ = some (.string (str old)) := hbox2.cell 1; have r2 : w2.cell? ⟨B, 2, none⟩ = some (.string (str name)) := hbox2.cell 2; have r3 : w2.cell? ⟨B, 3, none⟩ = some (.int .i64 file) := hbox2.cell 3))
  all_goals
    go_wp2_with fail
    go_end0
    refine ⟨rfl, ?_⟩
    have F01 : Fr (· = nb) w w1 := (hfr0.mono fun _ _ h => h.elim).trans hfr1 fun i h => .inl h
    have F02 : Fr (fun k => k = nb ∨ wv.ownBlock = some k) w w2 := (((F01.mono fun _ _ h => .inl h).alloc _).drew).trans hfr2 fun i h => .inl (.inr h)
    have hF2 := ((hF1.alloc _).drew).fr hfr2 fun e => hi.waiting.ne_map hi.now e
    refine rename_end hi hD _ F02 hF2 hrow2 (chgCells_snoc ⟨kd, old, name, file⟩ c.waiting).symm fun k hk => ?_
    rcases hwhere with h | h
    · rw [h] at hk
      exact .inl hk
    · rw [h] at hk
      injection hk with hk
      have hs := F01.size
      simp at hk
      exact .inr (by omega)
end
end Chart

/- named: has a file a name? -/
namespace Chart
open Go Go.RowKit Go.Proofs

theorem folder_tidy {P : Program} {k e : TypeId} (hk : P.underlying k = some .string) {w : World} {b : Nat} {F : Folder} (h : FolderAt P k e w b F) : F.Pairwise fun p q => p.1 ≠ q.1 := by
  obtain ⟨es, he, hp⟩ := World.ownsMap.tidy h (Go.Maps.string_keyed hk)
  unfold folderD at he
  injection he with he
  subst he
  unfold folderEs at hp
  rw [List.pairwise_map] at hp
  exact hp.imp fun h e => h (by rw [e])

theorem folder_found {F : Folder} {x : Txt} {c : Int} (hat : ∀ zd, (folderD F).atKey (.string x) zd = .lit (.int .i64 c)) : ∃ n : Nat, (x, n) ∈ F ∧ c = n := by
  have h := hat .nil
  unfold folderD DataW.atKey at h
  simp only [folderD_find] at h
  cases hf : F.find? fun p => p.1 == x with
  | none => rw [hf] at h; cases h
  | some p =>
    rw [hf] at h
    simp only [Option.map_some] at h
    injection h with h
    injection h with _ h
    have hm := List.mem_of_find?_eq_some hf
    have hk := List.find?_some hf
    simp at hk
    subst hk
    exact ⟨p.2, hm, h.symm⟩

theorem unique_of {F : Folder} (h : F.Pairwise fun p q => p.1 ≠ q.1) : ∀ {p q : Txt × Nat}, p ∈ F → q ∈ F → p.1 = q.1 → p = q := by
  induction F with
  | nil => intro p q hp; cases hp
  | cons y r ih =>
    rw [List.pairwise_cons] at h
    intro p q hp hq e
    rcases List.mem_cons.1 hp with rfl | hp1 <;> rcases List.mem_cons.1 hq with rfl | hq1
    · rfl
    · exact absurd e (h.1 _ hq1)
    · exact absurd e.symm (h.1 _ hp1)
    · exact ih h.2 hp1 hq1 e

/-- The entries that have come do not hold n. -/
def NotYet (F : Folder) (left : Lit → Bool) (n : Nat) : Prop := ∀ p ∈ F, left (.string p.1) = false → p.2 ≠ n

section
variable {w w' : World} {p : Nat} {c : Cab} {fv : Value} {avs : List Value} {nb sb : Nat} {wv : Value} {D : Nat → Prop}

set_option maxHeartbeats 1000000 in
set_option maxRecDepth 100000 in
theorem CabIn.named (h : CabIn w p c fv avs nb sb wv) (n : Nat) :
    Calls Tryd.prog 80 #[.pointer (some ⟨p, 0, none⟩), .int .i64 n] w fun e w' => e = .returned (.bool (c.now.vals.contains n)) ∧ Fr (fun _ => False) w w' := by
  obtain ⟨_, _, k2, _, _, _, _⟩ := h.cells
  have hnow := h.now
  have htidy := Lib.hid (folder_tidy Tryd.underlying9 hnow)
  have hbl := hnow.lt
  clear h
  generalize c.now = F at hnow htidy ⊢
  obtain ⟨V, hV⟩ : ∃ V, V = F.vals.contains n := ⟨_, rfl⟩
  rw [← hV]
  have HV := Lib.hid hV
  clear hV
  go_enter Tryd.func80, Tryd.ntmps80
  go_wp2_with (at_range; refine wpList_range_own _ rfl _ 77 rfl 9 3 (Go.Maps.string_keyed Tryd.underlying9) Tryd.underlying77 _ nb F.length _ rfl hnow ?_; intro w0 hrg0 hg0 hs0)
  go_frame
  go_loopw [6] (fun _ wr => ∃ (left : Lit → Bool) (cnt : Nat), wr.ranges Tryd.prog 9 (plainElem Tryd.prog 3) nb w.heap.size F.length (folderD F) left cnt ∧ Fr (fun _ => False) w wr ∧ NotYet F left n)
    (fun _ wr => wr.rangeLeft nb w.heap.size)
  case atStart =>
    refine ⟨_, _, hrg0, (Fr.of_grown hg0).mono (fun _ _ h => by cases h), fun q hq hl => ?_⟩
    exfalso
    rw [folderD_has] at hl
    unfold Folder.get? at hl
    simp only [Option.isSome_map, List.find?_isSome, Bool.eq_false_iff, ne_eq] at hl
    exact hl ⟨q, hq, by simp⟩
  case round =>
    obtain ⟨left, cnt, hrg, hfr, hno⟩ := hrel
    have HN := Lib.hid hno
    clear hno
    go_wp2_with (first
      | (at_next; refine wpList_next_ranges (α := Txt) (β := Int) _ rfl _ rfl 9 (Go.Maps.string_keyed Tryd.underlying9) _ (fun k => .string (str k)) (Value.int .i64) ?ik ?iv nb w.heap.size F.length _ _ _ rfl hrg ?_ ?_))
    case ik =>
      intro key kl hkey
      obtain ⟨s, rfl, _, _⟩ := Go.WideMaps.string_of_keyOf Tryd.underlying9 hkey
      exact ⟨s.data.toList, by rw [str_of]⟩
    case iv =>
      intro v y hv
      obtain ⟨a, rfl, _, _⟩ := plainElem_int_inv Tryd.underlying3 hv
      exact ⟨a, rfl⟩
    · intro _ hl0
      go_wp2
      go_ret
      refine ⟨?_, hfr⟩
      have hF : F.vals.contains n = false := by
        rw [List.contains_eq_any_beq, List.any_eq_false]
        intro v hv
        unfold Folder.vals at hv
        rw [List.mem_map] at hv
        obtain ⟨q, hq, rfl⟩ := hv
        have := HN.out q hq (hl0 _)
        simp; omega
      rw [HV.out, hF]
      rfl
    · intro x a kl y1 y2 w1 cnt1 hkey hlx hy hat hrg1 hlt hg1 hs1 hen
      obtain ⟨s, hs, rfl, _⟩ := Go.WideMaps.string_of_keyOf Tryd.underlying9 hkey
      obtain ⟨a', ha, hyy, _⟩ := plainElem_int_inv Tryd.underlying3 hy
      cases ha
      cases hyy
      have hsx : s.data.toList = x := by
        injection hs with hs
        rw [← hs, str_toList]
      rw [hsx] at hat hrg1
      obtain ⟨m, hm, rfl⟩ := folder_found hat
      have hfr1 : Fr (fun _ => False) w w1 := hfr.trans (Fr.of_grown hg1) fun i hi => .inr (by injection hi with hi; omega)
      have HM := Lib.hid hm
      have HG := Lib.hid hlt
      have HH := Lib.hid hat
      clear hm hlt hat hkey hy hs hg1 hs1
      by_cases hnm : m = n
      · subst hnm
        go_wp2
        go_ret
        refine ⟨?_, hfr1⟩
        have hF : F.vals.contains m = true := by
          rw [List.contains_iff_mem]
          exact List.mem_map.2 ⟨_, HM.out, rfl⟩
        rw [HV.out, hF]
        rfl
      · have hb : ((m : Int) == (n : Int)) = false := by simp; omega
        go_wp2
        go_roundw
        case rel =>
          refine ⟨_, cnt1, hrg1, hfr1, fun q hq hl => ?_⟩
          by_cases hx : q.1 = x
          · have e := unique_of htidy.out hq HM.out hx
            rw [e]
            exact hnm
          · refine HN.out q hq ?_
            simp only [Lit.sameKey, Bool.and_eq_false_iff, Bool.not_eq_false'] at hl
            rcases hl with hl | hl
            · exact hl
            · simp at hl
              exact absurd hl hx
        case measure => rw [hrg1.left_eq, hrg.left_eq]; exact HG.out
end
end Chart
