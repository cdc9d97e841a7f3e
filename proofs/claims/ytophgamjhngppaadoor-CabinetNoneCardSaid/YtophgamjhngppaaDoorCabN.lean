/- slices.Sorted(maps.Keys(..)); Names. -/
import Derived.Test.YtophgamjhngppaaDoorCabM
import Derived.Maps.Ext
namespace Chart
open Go Go.RowKit Go.Proofs Go.Maps Go.Sort Go.Shelf

def strV (l : List Txt) : List Value := l.map fun s => .string (str s)
theorem strV_length (l : List Txt) : (strV l).length = l.length := by simp [strV]

theorem before_lt : ∀ (a b : Txt), bytesBefore a b = true ↔ a < b
  | [], [] => by simp [bytesBefore]
  | [], _ :: _ => by simp [bytesBefore]
  | _ :: _, [] => by simp [bytesBefore]
  | x :: r, y :: s => by
    rw [List.cons_lt_cons_iff, ← before_lt r s]
    simp [bytesBefore]

theorem folder_sorted {P : Program} {k e : TypeId} (hk : P.underlying k = some .string) {w : World} {b : Nat} {F : Folder} (h : FolderAt P k e w b F) : F.Pairwise fun p q => bytesBefore p.1 q.1 = true := by
  obtain ⟨es, he, hp, _⟩ := World.ownsMap.canon h (Go.Maps.string_keyed hk)
  unfold folderD at he
  injection he with he
  subst he
  unfold folderEs at hp
  rw [List.pairwise_map] at hp
  exact hp

theorem keys_sort {F : Folder} (h : F.Pairwise fun p q => bytesBefore p.1 q.1 = true) {ss : List Txt} (hp : ss.Perm (strKeys (folderD F))) : ss.mergeSort (fun x y => decide (x ≤ y)) = F.keys := by
  have e : strKeys (folderD F) = F.keys := by
    unfold folderD strKeys folderEs Folder.keys
    simp only [List.map_map]
    rfl
  rw [e] at hp
  refine List.Perm.eq_of_pairwise (le := fun x y => decide (x ≤ y) = true) ?_ ?_ ?_ ((List.mergeSort_perm _ _).trans hp)
  · intro a b _ _ h1 h2
    simp only [decide_eq_true_eq] at h1 h2
    exact List.le_antisymm h1 h2
  · refine List.pairwise_mergeSort ?_ ?_ _
    · intro a b c h1 h2
      simp only [decide_eq_true_eq] at h1 h2 ⊢
      exact List.le_trans h1 h2
    · intro a b
      simp only [Bool.or_eq_true, decide_eq_true_eq]
      exact List.le_total a b
  · unfold Folder.keys
    rw [List.pairwise_map]
    exact h.imp fun h => by
      simp only [decide_eq_true_eq]
      exact List.le_of_lt ((before_lt _ _).1 h)

theorem sortsM (m : Nat) : AnyZ.SortsIn Tryd.prog Tryd.sortedM_ren Fence.wide m :=
  ⟨fun blk off cap ss W hH hblk hsz => callsIn_wide.2 (AnyM.slices_Sort_string Tryd.sortM blk off cap ss W hH hblk hsz),
   fun p cap W => callsIn_wide.2 (AnyM.slices_Sort_string_none Tryd.sortM p cap W)⟩

theorem keys_calls (mb : Option Nat) (W : World) : Calls Tryd.prog 46 #[.map mb] W fun e w' => e = .returned (.func (.func 79) #[] #[.pointer (some ⟨W.heap.size, 0, none⟩)]) ∧ w' = W.alloc (.cells #[.map mb] 77) :=
  (callsIn_wide (n := 5)).1 (AnyZ.keys_in Tryd.keysM Fence.wide 5 trivial rfl mb W)

set_option maxHeartbeats 1000000 in
theorem sorted_calls (b : Nat) (F : Folder) (w : World) (h : FolderIn w b F) (hn : F.length ≤ 100000000) :
    Calls Tryd.prog 45 #[.func (.func 79) #[] #[.pointer (some ⟨w.heap.size, 0, none⟩)]] (w.alloc (.cells #[.map (some b)] 77)) fun e w' => ∃ v, e = .returned v ∧
      Row w' 9 1 v F.keys.length (strV F.keys) ∧ (∀ q, v.ownBlock = some q → w.heap.size ≤ q) ∧ Fr (fun _ => False) w w' := by
  have hbl := h.lt
  have hmax : Maps.size (folderD F) ≤ maxLen := by rw [folderD_size]; simp only [maxLen]; omega
  have hbytes : Maps.size (folderD F) * 16 ≤ 140737488355328 := by rw [folderD_size]; omega
  have hseq : SeqGives Fence.wide 2 Tryd.prog 79 #[.pointer (some ⟨w.heap.size, 0, none⟩)] encStr (fun ss => ss.Perm (strKeys (folderD F))) (Maps.size (folderD F)) (w.alloc (.cells #[.map (some b)] 77)) :=
    AnyZ.keys_gives (ρ := Tryd.keysM_ren) { Tryd.keysM with } Fence.wide _ trivial rfl (by omega) w.heap.size b F.length (folderD F) _ (by simp) (by simp) (by
      obtain ⟨es, clock, hb, Ft, hs, hD⟩ := h
      exact ⟨es, clock, (Below.heap_alloc _ _ b hbl).trans hb, Ft, hs, hD⟩)
  have hc := (callsIn_wide (n := 5)).1 (AnyZ.sorted_in Tryd.sortedM Fence.wide 5 trivial trivial trivial trivial rfl (by omega) (sortsM _) (enters_of Tryd.func78 (by kernel_rfl) rfl) 79 #[.pointer (some ⟨w.heap.size, 0, none⟩)] trivial (enters_of Tryd.func79 (by kernel_rfl) rfl) _ _ hmax hbytes _ hseq)
  refine Calls.mono hc fun e w' hh => ?_
  obtain ⟨v, ss, rfl, hS, hrow, hnil, hb⟩ := hh
  have hs := keys_sort (folder_sorted Tryd.underlying9 h) hS
  have hr := Row.of_own hrow
  rw [hs] at hr
  have hl : ss.length = F.keys.length := by rw [← hs, List.length_mergeSort]
  rw [hl] at hr
  refine ⟨v, rfl, ?_, fun q hq => ?_, ?_⟩
  · have : (F.keys.map encStr) = strV F.keys := rfl
    rw [this] at hr
    exact hr
  · have := (hrow.lt q hq).1
    simp at this
    omega
  · exact ((Fr.refl (fun _ => False) w).alloc _).trans (Fr.of_below (fun _ => False) hb) fun _ h => h.elim

section
variable {w w' : World} {p : Nat} {c : Cab} {fv : Value} {avs : List Value} {nb sb : Nat} {wv : Value} {D : Nat → Prop}
set_option maxHeartbeats 1000000 in
theorem names_calls (h : CabAt w p c D) (hn : c.now.length ≤ 100000000) :
    Calls Tryd.prog 17 #[.pointer (some ⟨p, 0, none⟩)] w fun e w' => ∃ v', e = .returned (.tuple #[v', .int .i64 c.names.2]) ∧ Row w' 9 1 v' c.names.1.length (strV c.names.1) ∧ (∀ q, v'.ownBlock = some q → w.heap.size ≤ q) ∧ Fr (fun _ => False) w w' := by
  have hr := h.ready
  obtain ⟨fv, avs, nb, sb, wv, hi, hD, hlt⟩ := id h
  obtain ⟨_, _, k2, _, _, _, _⟩ := hi.cells
  have HS := Lib.hid (sorted_calls nb c.now w hi.now hn)
  cases ho : c.off
  · rw [ho] at hr
    have ht : c.names = (c.now.keys, 0) := by unfold Cab.names; rw [ho]; rfl
    rw [ht]
    have HR := Lib.hid hr
    clear hr h ho ht hi hD hlt
    go_enter Tryd.func17, Tryd.ntmps17
    go_wp2_with (first
      | (go_at_call 51; refine HR.out.mono ?_; rintro e w' ⟨rfl, rfl⟩)
      | (go_at_call 46; refine (keys_calls _ _).mono ?_; rintro e w1 ⟨rfl, rfl⟩)
      | (go_at_call 45; refine HS.out.mono ?_; rintro e w2 ⟨v, rfl, hrow, hown, hfr⟩))
    go_ret2
    exact ⟨v, rfl, hrow, hown, hfr⟩
  · rw [ho] at hr
    have ht : c.names = ([], 11) := by unfold Cab.names; rw [ho]; rfl
    rw [ht]
    have HR := Lib.hid hr
    clear hr h ho ht hi hD hlt
    go_enter Tryd.func17, Tryd.ntmps17
    go_wp2_with (go_at_call 51; refine HR.out.mono ?_; rintro e w' ⟨rfl, rfl⟩)
    go_ret2
    exact ⟨_, rfl, Row.nil _ _ _, fun q hq => by simp [Value.ownBlock] at hq, Fr.refl _ _⟩
end
end Chart
