/- Rename, New, Create. -/
import Derived.Test.YtophgamjhngppaaDoorCabH
namespace Chart
open Go Go.RowKit Go.Proofs

theorem file_info : (Tryd.prog.info? 102).map (fun i => (i.zero, i.size, i.bytes)) = some (some (.agg #[.slice none 0 0, .int .i64 0]), 2, 32) := by kernel_rfl

theorem fileCells_snoc : ∀ (avs : List Value) (fs : List FileS) (v : Value) (f : FileS), avs.length = fs.length → fileCells (avs ++ [v]) (fs ++ [f]) = fileCells avs fs ++ [v, .int .i64 f.sure]
  | [], [], _, _, _ => rfl
  | _ :: _, [], _, _, h => by simp at h
  | [], _ :: _, _, _, h => by simp at h
  | v0 :: vs, f0 :: fs, v, f, h => by
    have := fileCells_snoc vs fs v f (by simpa using h)
    simp only [List.cons_append, fileCells, this]

section
variable {w w' : World} {p : Nat} {c : Cab} {D : Nat → Prop}

set_option maxHeartbeats 2000000 in
theorem rename2_calls (h : CabAt w p c D) (old name : Txt) (hk : old.length ≤ maxLen) (hk2 : name.length ≤ maxLen) (a0 : -1 ≤ c.after) (a1 : c.after ≤ 9223372036854775807) (hn : c.now.length < 1000000000) (hw : c.waiting.length ≤ 1000000) (hv : ∀ k, (c.now.get? k).getD 0 ≤ 9223372036854775807) :
    Calls Tryd.prog 22 #[.pointer (some ⟨p, 0, none⟩), .string (str old), .string (str name)] w fun e w' => e = .returned (.int .i64 (c.renameTo old name).2) ∧ ∃ D', After w D p (c.renameTo old name).1 D' w' := by
  have hf := h.find old hk
  have HA := Lib.hid (After.same h)
  have HNm := Lib.hid (fun w => name_calls name w (by simpa [maxLen] using hk2))
  have hv1 : (c.find old).1 ≤ 9223372036854775807 := by
    unfold Cab.find
    have := hv old
    split
    · exact Nat.zero_le _
    · split
      · exact Nat.zero_le _
      · rename_i n hn
        simpa [hn] using this
  generalize hfe : c.find old = r at hf hv1
  obtain ⟨n, q⟩ := r
  simp only at hf hv1
  by_cases hq : q = 0
  · subst hq
    cases hno : Cab.nameOk name
    · have ht : c.renameTo old name = (c, 6) := by unfold Cab.renameTo; rw [hfe]; simp [hno]
      rw [ht]
      rw [hno] at HNm
      have HF := Lib.hid hf
      clear ht h hf hfe hv hno
      go_enter Tryd.func22, Tryd.ntmps22
      go_wp2_with (first | (go_at_call 49; refine HF.out.mono ?_; rintro e w' ⟨rfl, rfl⟩) | (go_at_call 52; refine (HNm.out _).mono ?_; rintro e w1 ⟨rfl, hF1⟩))
      go_ret
      exact ⟨rfl, D, HA.out.at_.fr hF1 (fun _ _ => id), hF1.mono fun _ _ h => h.elim, fun _ h => .inl h⟩
    · rw [hno] at HNm
      have hs := fun (w1 : World) (h1 : CabAt w1 p c D) => h1.spend a0 a1
      rcases spend_cases c with ⟨e2, e1⟩ | ⟨e2, a, e1⟩
      · have ht : c.renameTo old name = (c.spend.1, 11) := by unfold Cab.renameTo; rw [hfe]; simp [hno, e2]; rw [← e2]
        rw [ht]
        rw [e2] at hs
        have HF := Lib.hid hf
        have HS := Lib.hid hs
        clear hs ht e1 e2 h hf hfe hv hno
        go_enter Tryd.func22, Tryd.ntmps22
        go_wp2_with (first | (go_at_call 49; refine HF.out.mono ?_; rintro e w' ⟨rfl, rfl⟩) | (go_at_call 52; refine (HNm.out _).mono ?_; rintro e w1 ⟨rfl, hF1⟩) | (go_at_call 53; refine (HS.out _ (HA.out.at_.fr hF1 (fun _ _ => id))).mono ?_; rintro e w2 ⟨rfl, hA1⟩))
        go_ret
        exact ⟨rfl, _, (After.mk (HA.out.at_.fr hF1 (fun _ _ => id)) (hF1.mono fun _ _ h => h.elim) fun _ h => .inl h).trans hA1⟩
      · have ht : c.renameTo old name = (c.spend.1.rename ⟨1, old, name, n⟩, 0) := by unfold Cab.renameTo; rw [hfe]; simp [hno, e2]
        rw [ht]
        rw [e2] at hs
        have HF := Lib.hid hf
        have HS := Lib.hid hs
        have HE := Lib.hid e1
        have HV := Lib.hid hv
        clear hs ht e1 e2 h hf hfe hv hno
        go_enter Tryd.func22, Tryd.ntmps22
        go_wp2_with (first | (go_at_call 49; refine HF.out.mono ?_; rintro e w' ⟨rfl, rfl⟩) | (go_at_call 52; refine (HNm.out _).mono ?_; rintro e w1 ⟨rfl, hF1⟩) | (go_at_call 53; refine (HS.out _ (HA.out.at_.fr hF1 (fun _ _ => id))).mono ?_; rintro e w2 ⟨rfl, hA1⟩) | (go_at_call 54; refine (rename_calls hA1.at_ ⟨1, old, name, n⟩ (by rw [HE.out]; exact hn) (by rw [HE.out]; exact hw) (Nat.le_succ 1) hk hk2 hv1 (by rw [HE.out]; exact HV.out _)).mono ?_; rintro e w3 ⟨rfl, D2, hA2⟩))
        go_ret
        exact ⟨rfl, D2, ((After.mk (HA.out.at_.fr hF1 (fun _ _ => id)) (hF1.mono fun _ _ h => h.elim) fun _ h => .inl h).trans hA1).trans hA2⟩
  · have ht : c.renameTo old name = (c, q) := by unfold Cab.renameTo; rw [hfe]; simp [hq]
    rw [ht]
    have HF := Lib.hid hf
    have hb : (q == 0) = false := by simp [hq]
    have hb2 : (q != 0) = true := by simp [hq]
    clear ht h hf hfe hv
    go_enter Tryd.func22, Tryd.ntmps22
    go_wp2_with (go_at_call 49; refine HF.out.mono ?_; rintro e w' ⟨rfl, rfl⟩)
    go_ret
    exact ⟨rfl, _, HA.out⟩

set_option maxHeartbeats 1000000 in
theorem new_bad (q : Int) (w : World) (hq : q < 1 ∨ 1073741824 < q) : Calls Tryd.prog 10 #[.int .i64 q] w fun e w' => e = .returned (.tuple #[.pointer none, .int .i64 1]) ∧ w = w' := by
  rcases hq with hq | hq
  · go_enter Tryd.func10, Tryd.ntmps10
    go_wp2
    go_ret2
    exact ⟨rfl, rfl⟩
  · have h1 : ¬ q < 1 := by omega
    go_enter Tryd.func10, Tryd.ntmps10
    go_wp2
    go_ret2
    exact ⟨rfl, rfl⟩
set_option maxHeartbeats 1000000 in
theorem new_calls (q : Int) (w : World) (h1 : 1 ≤ q) (h2 : q ≤ 1073741824) : Calls Tryd.prog 10 #[.int .i64 q] w fun e w' => e = .returned (.tuple #[.pointer (some ⟨w.heap.size + 2, 0, none⟩), .int .i64 0]) ∧
    (∃ D, CabAt w' (w.heap.size + 2) (Cab.new q) D ∧ (∀ k, D k → w.heap.size ≤ k)) ∧ Fr (fun _ => False) w w' := by
  have hin : CabIn (((w.alloc (.map #[] 0)).alloc (.map #[] 0)).alloc (.cells #[.int .i64 q, .slice none 0 0, .map (some w.heap.size), .map (some (w.heap.size + 1)), .slice none 0 0, .int .i64 (-1), .bool false] 81)) (w.heap.size + 2) (Cab.new q) (.slice none 0 0) [] w.heap.size (w.heap.size + 1) (.slice none 0 0) := {
    blk := by
      have := Blk.new ((w.alloc (.map #[] 0)).alloc (.map #[] 0)) 81 #[.int .i64 q, .slice none 0 0, .map (some w.heap.size), .map (some (w.heap.size + 1)), .slice none 0 0, .int .i64 (-1), .bool false]
      simp only [World.size_alloc] at this
      exact this
    files := Row.nil _ _ _
    len := rfl
    bytes := fun i f h => by simp [Cab.new] at h
    apart := fun i j v u k h => by simp at h
    now := ((FolderAt.made w).alloc _).alloc _
    sure := by
      have := (FolderAt.made (P := Tryd.prog) (k := 9) (e := 3) (w.alloc (.map #[] 0))).alloc (.cells #[.int .i64 q, .slice none 0 0, .map (some w.heap.size), .map (some (w.heap.size + 1)), .slice none 0 0, .int .i64 (-1), .bool false] 81)
      simp only [World.size_alloc] at this
      exact this
    two := by omega
    waiting := Row.nil _ _ _ }
  have hmm := @run_makeMap Tryd.prog
  have h1' : ¬ q < 1 := by omega
  have h2' : ¬ 1073741824 < q := by omega
  go_enter Tryd.func10, Tryd.ntmps10
  go_wp2
  go_ret2
  refine ⟨rfl, ⟨CabOwn (w.heap.size + 2) (.slice none 0 0) [] w.heap.size (w.heap.size + 1) (.slice none 0 0), ⟨_, [], w.heap.size, w.heap.size + 1, _, hin, fun _ h => h, hin.lt⟩, ?_⟩, ((Fr.refl _ w).alloc _).alloc _ |>.alloc _⟩
  rintro k (rfl | hk | ⟨v, hv, hk⟩ | rfl | rfl | hk)
  · omega
  · simp [Value.ownBlock] at hk
  · cases hv
  · omega
  · omega
  · simp [Value.ownBlock] at hk
end
end Chart
