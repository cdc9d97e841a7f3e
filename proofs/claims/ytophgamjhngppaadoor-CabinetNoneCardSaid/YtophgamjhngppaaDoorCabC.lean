/- A folder behind a change; the range over a folder. -/
import Derived.Test.YtophgamjhngppaaDoorCabB
namespace Chart
open Go Go.RowKit Go.Proofs

def chgV (x : Chg) : Value := .agg #[.int .i64 x.kind, .string (str x.old), .string (str x.name), .int .i64 x.file]

theorem ins_length (k : Txt) (v : Nat) (F : Folder) : (F.ins k v).length = F.length + 1 := by
  induction F with
  | nil => rfl
  | cons y r ih => unfold Folder.ins; split <;> simp_all
theorem del_length (k : Txt) (F : Folder) : (F.del k).length ≤ F.length := List.length_filter_le _ _
theorem put_length (k : Txt) (v : Nat) (F : Folder) : (F.put k v).length ≤ F.length + 1 := by
  unfold Folder.put
  rw [ins_length]
  have := del_length k F
  omega
theorem apply_length (x : Chg) (F : Folder) : (F.apply x).length ≤ F.length + 1 := by
  unfold Folder.apply
  have h1 := put_length x.name x.file F
  have h2 := put_length x.name ((F.get? x.old).getD 0) (F.del x.old)
  have h3 := del_length x.old F
  have h4 := del_length x.name F
  repeat' split
  all_goals omega

set_option maxHeartbeats 1000000 in
theorem with_calls (b : Nat) (F : Folder) (x : Chg) (w : World) (h : FolderIn w b F) (hn : F.length < 1000000000) (hx : x.kind ≤ 2) (h1 : x.old.length ≤ maxLen) (h2 : x.name.length ≤ maxLen) (h3 : x.file ≤ 9223372036854775807) (h4 : (F.get? x.old).getD 0 ≤ 9223372036854775807) :
    Calls Tryd.prog 44 #[.map (some b), chgV x] w fun e w' => e = .returned (.tuple #[]) ∧ FolderIn w' b (F.apply x) ∧ Fr (· = b) w w' := by
  obtain ⟨kind, old, name, file⟩ := x
  simp only at hx h1 h2 h3 h4
  unfold chgV
  simp only
  have hb := h.lt
  have hn' : F.length < maxLen := by simp only [maxLen]; omega
  rcases (by omega : kind = 0 ∨ kind = 1 ∨ kind = 2) with hk | hk | hk
  · have e : F.apply ⟨kind, old, name, file⟩ = F.put name file := by unfold Folder.apply; rw [if_pos hk]
    rw [e]
    subst hk
    clear e
    go_enter Tryd.func44, Tryd.ntmps44
    go_wp2_with (at_mapUpdate; refine wpList_put _ rfl _ _ _ 77 rfl 9 3 Tryd.underlying9 Tryd.underlying77 Tryd.underlying3 b F rfl (h.alloc _) hn' name rfl h2 file rfl (by omega) ?_; intro w1 hF1 hfr1)
    go_end0
    refine ⟨rfl, hF1, ((Fr.refl _ w).alloc _).trans hfr1 fun i hi => .inl hi⟩
  · have e : F.apply ⟨kind, old, name, file⟩ = (F.del old).put name ((F.get? old).getD 0) := by unfold Folder.apply; rw [if_neg (by simp; omega), if_pos hk]
    rw [e]
    subst hk
    clear e
    have hd := del_length old F
    have hd' : (F.del old).length < maxLen := by simp only [maxLen]; omega
    go_enter Tryd.func44, Tryd.ntmps44
    go_wp2_with (first
      | (at_lookup; refine wpList_look _ rfl _ _ 77 rfl 9 3 Tryd.underlying9 Tryd.underlying77 Tryd.underlying3 (zero_int _) b F rfl (h.alloc _) old rfl h1 ?_)
      | (at_delete; refine wpList_del _ rfl _ _ 77 9 rfl 3 Tryd.underlying9 Tryd.underlying77 b F rfl (h.alloc _) old rfl h1 ?_; intro w1 hF1 hfr1; have c2 := hfr1.cell (a := ⟨w.heap.size, 2, none⟩) (v := .string (str name)) (by simp) (by simp; omega))
      | (at_mapUpdate; refine wpList_put _ rfl _ _ _ 77 rfl 9 3 Tryd.underlying9 Tryd.underlying77 Tryd.underlying3 b (F.del old) rfl hF1 hd' name rfl h2 ((F.get? old).getD 0) rfl (by omega) ?_; intro w2 hF2 hfr2))
    go_end0
    refine ⟨rfl, hF2, (((Fr.refl _ w).alloc _).trans hfr1 fun i hi => .inl hi).trans hfr2 fun i hi => .inl hi⟩
  · have e : F.apply ⟨kind, old, name, file⟩ = F.del name := by unfold Folder.apply; rw [if_neg (by simp; omega), if_neg (by simp; omega), if_pos hk]
    rw [e]
    subst hk
    clear e
    go_enter Tryd.func44, Tryd.ntmps44
    go_wp2_with (at_delete; refine wpList_del _ rfl _ _ 77 9 rfl 3 Tryd.underlying9 Tryd.underlying77 b F rfl (h.alloc _) name rfl h2 ?_; intro w1 hF1 hfr1)
    go_end0
    refine ⟨rfl, hF1, ((Fr.refl _ w).alloc _).trans hfr1 fun i hi => .inl hi⟩
end Chart
