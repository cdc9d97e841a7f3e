/- Used. -/
import Derived.Test.YtophgamjhngppaaDoorCabA
import Derived.Deep.QuietTactic
import Derived.BigQuiet
namespace Chart
open Go Go.RowKit Go.Proofs

theorem fileCells_get : ∀ (avs : List Value) (fs : List FileS) (k : Nat) (v : Value) (f : FileS), avs[k]? = some v → fs[k]? = some f →
    (fileCells avs fs)[k * 2]? = some v ∧ (fileCells avs fs)[k * 2 + 1]? = some (.int .i64 f.sure)
  | [], _, _, _, _, h, _ => by simp at h
  | _ :: _, [], _, _, _, _, h => by simp at h
  | v :: vs, f :: fs, 0, v', f', h, h' => by
    simp at h h'
    subst h h'
    exact ⟨rfl, rfl⟩
  | v :: vs, f :: fs, k + 1, v', f', h, h' => by
    simp only [List.getElem?_cons_succ] at h h'
    have ih := fileCells_get vs fs k v' f' h h'
    have e : (k + 1) * 2 = k * 2 + 1 + 1 := by omega
    simp only [fileCells, e, List.getElem?_cons_succ]
    exact ih

theorem Fr.below_ {w w' : World} (h : Fr (fun _ => False) w w') : Below w.heap.size w w' := h.below (Nat.le_refl _) fun _ _ => id

def usedTo (fs : List FileS) : Nat := (fs.map fun f => f.all.length).foldl (· + ·) 0
theorem usedTo_snoc (fs : List FileS) (f : FileS) : usedTo (fs ++ [f]) = usedTo fs + f.all.length := by simp [usedTo, List.foldl_append]
theorem take_snoc' {α : Type} (l : List α) (k : Nat) (a : α) (h : l[k]? = some a) : l.take (k + 1) = l.take k ++ [a] := by
  rw [List.take_add_one, h]
  rfl

theorem usedTo_le (M : Nat) (fs : List FileS) (h : ∀ f ∈ fs, f.all.length ≤ M) (k : Nat) : usedTo (fs.take k) ≤ k * M := by
  induction k with
  | zero => simp [usedTo]
  | succ k ih =>
    rw [Nat.succ_mul]
    rcases hf : fs[k]? with _ | f
    · have hl : fs.length ≤ k := by
        rcases Nat.lt_or_ge k fs.length with h1 | h1
        · rw [List.getElem?_eq_getElem h1] at hf; cases hf
        · exact h1
      rw [List.take_of_length_le (by omega)]
      rw [List.take_of_length_le (by omega)] at ih
      exact Nat.le_trans ih (Nat.le_add_right _ _)
    · rw [take_snoc' fs k f hf, usedTo_snoc]
      exact Nat.add_le_add ih (h f (List.mem_of_getElem? hf))

section
variable {w w' : World} {p : Nat} {c : Cab} {fv : Value} {avs : List Value} {nb sb : Nat} {wv : Value} {D : Nat → Prop}
theorem CabIn.file (h : CabIn w p c fv avs nb sb wv) {k : Nat} (hk : k < c.files.length) : ∃ g cp v f, fv = .slice (some ⟨g, 0, none⟩) c.files.length cp ∧ c.files.length ≤ cp ∧ avs[k]? = some v ∧ c.files[k]? = some f ∧ g < w.heap.size ∧
    w.cell? ⟨g, k * 2, none⟩ = some v ∧ w.cell? ⟨g, k * 2 + 1, none⟩ = some (.int .i64 f.sure) ∧ Bytes w v f.all := by
  obtain ⟨g, cp, hv, h1, _, hc, _, hg⟩ := h.files.form (by omega)
  have hf := List.getElem?_eq_getElem hk
  obtain ⟨v, ha, hb⟩ := h.bytes k _ hf
  obtain ⟨e1, e2⟩ := fileCells_get avs c.files k v _ ha hf
  exact ⟨g, cp, v, _, hv, h1, ha, hf, hg, hc _ _ e1, hc _ _ e2, hb⟩

set_option maxHeartbeats 400000 in
theorem used_nil (w : World) : Calls Tryd.prog 18 #[.pointer none] w fun e w' => e = .returned (.tuple #[.int .i64 0, .int .i64 0]) ∧ w = w' := by
  go_enter Tryd.func18, Tryd.ntmps18
  go_wp2
  go_ret2
  exact ⟨rfl, rfl⟩

set_option maxHeartbeats 1000000 in
theorem CabIn.used (h : CabIn w p c fv avs nb sb wv) (hall : ∀ f ∈ c.files, f.all.length ≤ 1048576) (hn : c.files.length ≤ 1000000) :
    Calls Tryd.prog 18 #[.pointer (some ⟨p, 0, none⟩)] w fun e w' => e = .returned (.tuple #[.int .i64 (c.used : Nat), .int .i64 c.quota]) ∧ Fr (fun _ => False) w w' := by
  obtain ⟨h0, h1, _, _, _, _, _⟩ := h.cells
  obtain ⟨A, cp, rfl, hcp, hcp2⟩ := h.files.shape
  have hp := h.blk.lt
  go_enter Tryd.func18, Tryd.ntmps18
  go_wp2
  go_loopw [2, 13] (fun u i wr => ∃ k : Nat, k ≤ c.files.length ∧ i = .int .i64 k ∧ u = .int .i64 (usedTo (c.files.take k) : Nat) ∧ Fr (fun _ => False) w wr) (fun _ i _ => c.files.length - (intOf i).toNat)
  case atStart => exact ⟨0, Nat.zero_le _, rfl, rfl, Fr.refl _ _⟩
  case round =>
    obtain ⟨k, hk, rfl, rfl, hfr⟩ := hrel
    by_cases hlt : k < c.files.length
    · obtain ⟨g, cp', v, f, hv, _, ha, hf, hg, c0, c1, hb⟩ := h.file hlt
      cases hv
      have k0 := hfr.cell c0 id
      have k1 := hfr.cell c1 id
      obtain ⟨A', cp2, rfl, _, _⟩ := hb.shape
      have hle := usedTo_le 1048576 c.files hall k
      have hfl := hall f (List.mem_of_getElem? hf)
      have HS := Lib.hid (take_snoc' c.files k f hf)
      have HU := Lib.hid (usedTo_snoc (c.files.take k) f)
      clear hf hall hb
      generalize usedTo (c.files.take k) = U at hle HU ⊢
      go_wp2
      go_roundw
      case rel =>
        refine ⟨k + 1, by omega, by go_num, ?_, hfr.alloc _⟩
        rw [HS.out, HU.out]; go_num
      case measure => simp [intOf]; omega
    · obtain rfl : k = c.files.length := by omega
      rw [List.take_length]
      have h0' := hfr.cell h0 id
      have HF := Lib.hid hfr
      clear hfr
      generalize hU : usedTo c.files = U
      have HU := Lib.hid hU
      clear hU
      go_wp2
      go_quiet (fail)
      go_wp2
      go_ret2
      exact ⟨by rw [← HU.out]; rfl, HF.out.drewN _⟩
end
end Chart
