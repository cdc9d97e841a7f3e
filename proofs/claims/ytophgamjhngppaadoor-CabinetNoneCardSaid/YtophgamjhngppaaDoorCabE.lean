/- named: has a file a name? -/
import Derived.Test.YtophgamjhngppaaDoorCabD
import Derived.Maps.RangeWalk
namespace Chart
open Go Go.RowKit Go.Proofs

theorem folder_tidy {P : Program} {k e : TypeId} (hk : P.underlying k = some .string) {w : World} {b : Nat} {F : Folder} (h : FolderAt P k e w b F) : F.Pairwise fun p q => p.1 ≠ q.1 := by
  obtain ⟨es, he, hp⟩ := World.ownsMap.tidy h (Go.Maps.string_keyed hk)
  unfold folderD at he
  injection he with he
  subst he
  unfold folderEs at hp
  rw [List.pairwise_map] at hp
  exact hp.imp fun h e => h (by rw [e])

theorem folder_found {F : Folder} {x : Txt} {c : Int} (hat : ∀ zd, (folderD F).atKey (.string x) zd = .lit (.int .i64 c)) : ∃ n : Nat, (x, n) ∈ F ∧ c = n := by
  have h := hat .nil
  unfold folderD DataW.atKey at h
  simp only [folderD_find] at h
  cases hf : F.find? fun p => p.1 == x with
  | none => rw [hf] at h; cases h
  | some p =>
    rw [hf] at h
    simp only [Option.map_some] at h
    injection h with h
    injection h with _ h
    have hm := List.mem_of_find?_eq_some hf
    have hk := List.find?_some hf
    simp at hk
    subst hk
    exact ⟨p.2, hm, h.symm⟩

theorem unique_of {F : Folder} (h : F.Pairwise fun p q => p.1 ≠ q.1) : ∀ {p q : Txt × Nat}, p ∈ F → q ∈ F → p.1 = q.1 → p = q := by
  induction F with
  | nil => intro p q hp; cases hp
  | cons y r ih =>
    rw [List.pairwise_cons] at h
    intro p q hp hq e
    rcases List.mem_cons.1 hp with rfl | hp1 <;> rcases List.mem_cons.1 hq with rfl | hq1
    · rfl
    · exact absurd e (h.1 _ hq1)
    · exact absurd e.symm (h.1 _ hp1)
    · exact ih h.2 hp1 hq1 e

/-- The entries that have come do not hold n. -/
def NotYet (F : Folder) (left : Lit → Bool) (n : Nat) : Prop := ∀ p ∈ F, left (.string p.1) = false → p.2 ≠ n

section
variable {w w' : World} {p : Nat} {c : Cab} {fv : Value} {avs : List Value} {nb sb : Nat} {wv : Value} {D : Nat → Prop}

set_option maxHeartbeats 1000000 in
set_option maxRecDepth 100000 in
theorem CabIn.named (h : CabIn w p c fv avs nb sb wv) (n : Nat) :
    Calls Tryd.prog 80 #[.pointer (some ⟨p, 0, none⟩), .int .i64 n] w fun e w' => e = .returned (.bool (c.now.vals.contains n)) ∧ Fr (fun _ => False) w w' := by
  obtain ⟨_, _, k2, _, _, _, _⟩ := h.cells
  have hnow := h.now
  have htidy := Lib.hid (folder_tidy Tryd.underlying9 hnow)
  have hbl := hnow.lt
  clear h
  generalize c.now = F at hnow htidy ⊢
  obtain ⟨V, hV⟩ : ∃ V, V = F.vals.contains n := ⟨_, rfl⟩
  rw [← hV]
  have HV := Lib.hid hV
  clear hV
  go_enter Tryd.func80, Tryd.ntmps80
  go_wp2_with (at_range; refine wpList_range_own _ rfl _ 77 rfl 9 3 (Go.Maps.string_keyed Tryd.underlying9) Tryd.underlying77 _ nb F.length _ rfl hnow ?_; intro w0 hrg0 hg0 hs0)
  go_frame
  go_loopw [6] (fun _ wr => ∃ (left : Lit → Bool) (cnt : Nat), wr.ranges Tryd.prog 9 (plainElem Tryd.prog 3) nb w.heap.size F.length (folderD F) left cnt ∧ Fr (fun _ => False) w wr ∧ NotYet F left n)
    (fun _ wr => wr.rangeLeft nb w.heap.size)
  case atStart =>
    refine ⟨_, _, hrg0, (Fr.of_grown hg0).mono (fun _ _ h => by cases h), fun q hq hl => ?_⟩
    exfalso
    rw [folderD_has] at hl
    unfold Folder.get? at hl
    simp only [Option.isSome_map, List.find?_isSome, Bool.eq_false_iff, ne_eq] at hl
    exact hl ⟨q, hq, by simp⟩
  case round =>
    obtain ⟨left, cnt, hrg, hfr, hno⟩ := hrel
    have HN := Lib.hid hno
    clear hno
    go_wp2_with (first
      | (at_next; refine wpList_next_ranges (α := Txt) (β := Int) _ rfl _ rfl 9 (Go.Maps.string_keyed Tryd.underlying9) _ (fun k => .string (str k)) (Value.int .i64) ?ik ?iv nb w.heap.size F.length _ _ _ rfl hrg ?_ ?_))
    case ik =>
      intro key kl hkey
      obtain ⟨s, rfl, _, _⟩ := Go.WideMaps.string_of_keyOf Tryd.underlying9 hkey
      exact ⟨s.data.toList, by rw [str_of]⟩
    case iv =>
      intro v y hv
      obtain ⟨a, rfl, _, _⟩ := plainElem_int_inv Tryd.underlying3 hv
      exact ⟨a, rfl⟩
    · intro _ hl0
      go_wp2
      go_ret
      refine ⟨?_, hfr⟩
      have hF : F.vals.contains n = false := by
        rw [List.contains_eq_any_beq, List.any_eq_false]
        intro v hv
        unfold Folder.vals at hv
        rw [List.mem_map] at hv
        obtain ⟨q, hq, rfl⟩ := hv
        have := HN.out q hq (hl0 _)
        simp; omega
      rw [HV.out, hF]
      rfl
    · intro x a kl y1 y2 w1 cnt1 hkey hlx hy hat hrg1 hlt hg1 hs1 hen
      obtain ⟨s, hs, rfl, _⟩ := Go.WideMaps.string_of_keyOf Tryd.underlying9 hkey
      obtain ⟨a', ha, hyy, _⟩ := plainElem_int_inv Tryd.underlying3 hy
      cases ha
      cases hyy
      have hsx : s.data.toList = x := by
        injection hs with hs
        rw [← hs, str_toList]
      rw [hsx] at hat hrg1
      obtain ⟨m, hm, rfl⟩ := folder_found hat
      have hfr1 : Fr (fun _ => False) w w1 := hfr.trans (Fr.of_grown hg1) fun i hi => .inr (by injection hi with hi; omega)
      have HM := Lib.hid hm
      have HG := Lib.hid hlt
      have HH := Lib.hid hat
      clear hm hlt hat hkey hy hs hg1 hs1
      by_cases hnm : m = n
      · subst hnm
        go_wp2
        go_ret
        refine ⟨?_, hfr1⟩
        have hF : F.vals.contains m = true := by
          rw [List.contains_iff_mem]
          exact List.mem_map.2 ⟨_, HM.out, rfl⟩
        rw [HV.out, hF]
        rfl
      · have hb : ((m : Int) == (n : Int)) = false := by simp; omega
        go_wp2
        go_roundw
        case rel =>
          refine ⟨_, cnt1, hrg1, hfr1, fun q hq hl => ?_⟩
          by_cases hx : q.1 = x
          · have e := unique_of htidy.out hq HM.out hx
            rw [e]
            exact hnm
          · refine HN.out q hq ?_
            simp only [Lit.sameKey, Bool.and_eq_false_iff, Bool.not_eq_false'] at hl
            rcases hl with hl | hl
            · exact hl
            · simp at hl
              exact absurd hl hx
        case measure => rw [hrg1.left_eq, hrg.left_eq]; exact HG.out
end
end Chart
