/- Library calls: maps.Clone, slices.Sorted(maps.Keys(..)), strings.Trim at the names' letters, slices.Clone and Clip of bytes; cabinet.Name. -/
import Derived.Test.YtophgamjhngppaaDoorCabE
import Derived.Test.YtophgamjhngppaaDoorShelf
import Derived.Laws.Closers25b
namespace Chart
open Go Go.RowKit Go.Proofs

theorem clone_calls (b : Nat) (F : Folder) (w : World) (h : FolderIn w b F) :
    Calls Tryd.prog 42 #[.map (some b)] w fun e w' => e = .returned (.map (some w.heap.size)) ∧ FolderIn w' w.heap.size F ∧ Below w.heap.size w w' := by
  have hcon := AnyW.maps_Clone_owns Tryd.cloneM 9 _ b F.length (folderD F) w h
  change Calls Tryd.prog 42 _ _ _ at hcon
  exact hcon.mono fun e w' ⟨h1, h2, _, h4⟩ => ⟨h1, h2, h4⟩

def letters : Txt := "abcdefghijklmnopqrstuvwxyz0123456789-.".toUTF8.data.toList
theorem toList_nil (k : Txt) : (str k).toList = [] ↔ k = [] := by
  rw [toList_nil_iff_emptyBytes]
  constructor
  · intro h
    have := congrArg (fun s : ByteArray => s.data.toList) h
    simpa [str_toList] using this
  · rintro rfl
    rfl

theorem trim_calls (k : Txt) (w : World) (hk : k.length ≤ 9223372036854775807) :
    Calls Tryd.prog 81 #[.string (str k), .string (str letters)] w fun e w' => e = .returned (.string (str (Lib.trimS k letters))) ∧ Below w.heap.size w w' := by
  have hcon := Any.strings_Trim_laid Tryd.lays160 (by kernel_rfl) (str k) (str letters) w (by rw [str_size]; exact hk) (by decide) (ascii_of_all (by decide))
  change Calls Tryd.prog 81 _ _ _ at hcon
  rw [str_toList, str_toList] at hcon
  exact hcon

set_option maxHeartbeats 1000000 in
theorem name_walk (s r : ByteArray) (w : World) (hcon : Calls Tryd.prog 81 #[.string s, .string (str letters)] w fun e w' => e = .returned (.string r) ∧ Below w.heap.size w w') (b1 b2 b3 : Bool)
    (h1 : s.toList.isEmpty = b1) (h2 : decide ((s.size : Int) ≤ 32) = b2) (h3 : r.toList.isEmpty = b3) :
    Calls Tryd.prog 52 #[.string s] w fun e w' => e = .returned (.bool (!b1 && b2 && b3)) ∧ Fr (fun _ => False) w w' := by
  have HC := Lib.hid hcon
  clear hcon
  cases b1 <;> cases b2 <;> cases b3
  all_goals
    simp at h1 h2 h3
    go_enter Tryd.func52, Tryd.ntmps52
    go_wp2_with (go_at_call 81; refine HC.out.mono ?_; rintro e w' ⟨rfl, hB⟩)
    go_ret
    refine ⟨?_, ?_⟩
    · first | rfl | (simp [h1, h3]; done) | (simp [h1]; done) | (simp; done)
    · first | exact Fr.refl _ _ | exact Fr.of_below _ hB

theorem all_of_drop {α : Type} (p : α → Bool) : ∀ l : List α, (∀ x ∈ l.dropWhile p, p x = true) → ∀ x ∈ l, p x = true
  | [], _, _, h => by cases h
  | y :: r, h, x, hx => by
    by_cases hy : p y = true
    · rw [List.dropWhile_cons_of_pos hy] at h
      rcases List.mem_cons.1 hx with rfl | hx
      · exact hy
      · exact all_of_drop p r h x hx
    · rw [List.dropWhile_cons_of_neg hy] at h
      exact h x hx
theorem drop_nil {α : Type} (p : α → Bool) : ∀ l : List α, l.dropWhile p = [] ↔ ∀ x ∈ l, p x = true
  | [] => by simp
  | y :: r => by
    by_cases hy : p y = true
    · rw [List.dropWhile_cons_of_pos hy, drop_nil p r]
      simp [hy]
    · rw [List.dropWhile_cons_of_neg hy]
      simp [hy]
theorem trimS_nil (l cs : List UInt8) : Lib.trimS l cs = [] ↔ l.all (cs.contains ·) = true := by
  unfold Lib.trimS Lib.trimLeftS Lib.trimRightS
  rw [drop_nil, List.all_eq_true]
  constructor
  · intro h x hx
    exact all_of_drop _ l.reverse (fun y hy => h y (List.mem_reverse.2 hy)) x (List.mem_reverse.2 hx)
  · intro h x hx
    exact h x (List.mem_reverse.1 ((List.dropWhile_sublist _).subset (List.mem_reverse.1 hx)))
theorem letters_are (b : UInt8) : letters.contains b = Cab.nameByte b := by
  have h : ∀ n : Fin 256, letters.contains (UInt8.ofNat n) = Cab.nameByte (UInt8.ofNat n) := by decide +kernel
  have := h ⟨b.toNat, b.toNat_lt⟩
  simpa using this

theorem name_calls (k : Txt) (w : World) (hk : k.length ≤ 9223372036854775807) :
    Calls Tryd.prog 52 #[.string (str k)] w fun e w' => e = .returned (.bool (Cab.nameOk k)) ∧ Fr (fun _ => False) w w' := by
  refine (name_walk (str k) _ w (trim_calls k w hk) _ _ _ rfl rfl rfl).mono fun e w' ⟨h1, h2⟩ => ⟨?_, h2⟩
  rw [h1]
  congr 2
  unfold Cab.nameOk
  have e1 : (str k).toList.isEmpty = k.isEmpty := by
    rw [Bool.eq_iff_iff, List.isEmpty_iff, List.isEmpty_iff, toList_nil]
  have e2 : (str (Lib.trimS k letters)).toList.isEmpty = k.all Cab.nameByte := by
    rw [Bool.eq_iff_iff, List.isEmpty_iff, toList_nil, trimS_nil]
    have : (fun x => letters.contains x) = Cab.nameByte := funext letters_are
    rw [this]
  rw [e1, e2, str_size]
  have e3 : decide ((k.length : Int) ≤ 32) = decide (k.length ≤ 32) := by
    rw [decide_eq_decide]
    omega
  rw [e3]
end Chart
