/- Turn, Remove, Rename. -/
import Derived.Test.YtophgamjhngppaaDoorCabG
namespace Chart
open Go Go.RowKit Go.Proofs

section
variable {w w' : World} {p : Nat} {c : Cab} {D : Nat → Prop}
theorem CabAt.ready (h : CabAt w p c D) : Calls Tryd.prog 51 #[.pointer (some ⟨p, 0, none⟩)] w fun e w' => e = .returned (.int .i64 (readyE c.off)) ∧ w = w' := by
  obtain ⟨fv, avs, nb, sb, wv, hi, hD, hlt⟩ := h
  exact hi.ready
theorem CabAt.find (h : CabAt w p c D) (k : Txt) (hk : k.length ≤ maxLen) : Calls Tryd.prog 49 #[.pointer (some ⟨p, 0, none⟩), .string (str k)] w fun e w' => e = .returned (.tuple #[.int .i64 ((c.find k).1 : Nat), .int .i64 (c.find k).2]) ∧ w = w' := by
  obtain ⟨fv, avs, nb, sb, wv, hi, hD, hlt⟩ := h
  exact hi.find k hk
theorem CabAt.spend (h : CabAt w p c D) (a0 : -1 ≤ c.after) (a1 : c.after ≤ 9223372036854775807) :
    Calls Tryd.prog 53 #[.pointer (some ⟨p, 0, none⟩)] w fun e w' => e = .returned (.int .i64 c.spend.2) ∧ After w D p c.spend.1 D w' := by
  obtain ⟨fv, avs, nb, sb, wv, hi, hD, hlt⟩ := h
  refine (hi.spend a0 a1).mono fun e w' ⟨h1, h2, h3⟩ => ⟨h1, ⟨fv, avs, nb, sb, wv, h2, hD, fun k hk => Nat.lt_of_lt_of_le (hlt k hk) h3.size⟩, h3.mono fun k _ e => ?_, fun k hk => .inl hk⟩
  subst e
  exact hD _ (.inl rfl)

theorem spend_cases (c : Cab) : (c.spend.2 = 11 ∧ c.spend.1 = { c with off := true }) ∨ (c.spend.2 = 0 ∧ ∃ a, c.spend.1 = { c with after := a }) := by
  unfold Cab.spend
  split
  · exact .inl ⟨rfl, rfl⟩
  · split
    · exact .inr ⟨rfl, _, rfl⟩
    · exact .inr ⟨rfl, c.after, rfl⟩

set_option maxHeartbeats 1000000 in
theorem turn_calls (h : CabAt w p c D) (a0 : -1 ≤ c.after) (a1 : c.after ≤ 9223372036854775807) (hn : c.files.length ≤ 1000000) :
    Calls Tryd.prog 24 #[.pointer (some ⟨p, 0, none⟩)] w fun e w' => e = .returned (.int .i64 c.turn.2) ∧ ∃ D', After w D p c.turn.1 D' w' := by
  have hr := h.ready
  have hs := h.spend a0 a1
  have HA := Lib.hid (After.same h)
  cases ho : c.off
  · rw [ho] at hr
    have HR := Lib.hid hr
    rcases spend_cases c with ⟨e2, e1⟩ | ⟨e2, a, e1⟩
    · have ht : c.turn = (c.spend.1, 11) := by unfold Cab.turn; rw [ho]; simp [e2]; rw [← e2]
      rw [ht]
      rw [e2] at hs
      have HS := Lib.hid hs
      clear hs hr ht ho e1 e2 h
      go_enter Tryd.func24, Tryd.ntmps24
      go_wp2_with (first | (go_at_call 51; refine HR.out.mono ?_; rintro e w' ⟨rfl, rfl⟩) | (go_at_call 53; refine HS.out.mono ?_; rintro e w1 ⟨rfl, hA1⟩))
      go_ret
      exact ⟨rfl, _, hA1⟩
    · have ht : c.turn = (c.spend.1.settle, 0) := by unfold Cab.turn; rw [ho]; simp [e2]
      rw [ht]
      rw [e2] at hs
      have HS := Lib.hid hs
      have HE := Lib.hid e1
      clear hs hr ht ho e1 e2 h
      go_enter Tryd.func24, Tryd.ntmps24
      go_wp2_with (first | (go_at_call 51; refine HR.out.mono ?_; rintro e w' ⟨rfl, rfl⟩) | (go_at_call 53; refine HS.out.mono ?_; rintro e w1 ⟨rfl, hA1⟩) | (go_at_call 48; refine (settle_calls hA1.at_ (by rw [HE.out]; exact hn)).mono ?_; rintro e w2 ⟨rfl, D2, hA2⟩))
      go_ret
      exact ⟨rfl, D2, hA1.trans hA2⟩
  · rw [ho] at hr
    have HR := Lib.hid hr
    have ht : c.turn = (c, 11) := by unfold Cab.turn; rw [ho]; rfl
    rw [ht]
    clear hs hr ht ho h
    go_enter Tryd.func24, Tryd.ntmps24
    go_wp2_with (go_at_call 51; refine HR.out.mono ?_; rintro e w' ⟨rfl, rfl⟩)
    go_ret
    exact ⟨rfl, _, HA.out⟩

set_option maxHeartbeats 1000000 in
theorem remove_calls (h : CabAt w p c D) (k : Txt) (hk : k.length ≤ maxLen) (a0 : -1 ≤ c.after) (a1 : c.after ≤ 9223372036854775807) (hn : c.now.length < 1000000000) (hw : c.waiting.length ≤ 1000000) (hv : ∀ k, (c.now.get? k).getD 0 ≤ 9223372036854775807) :
    Calls Tryd.prog 23 #[.pointer (some ⟨p, 0, none⟩), .string (str k)] w fun e w' => e = .returned (.int .i64 (c.remove k).2) ∧ ∃ D', After w D p (c.remove k).1 D' w' := by
  have hf := h.find k hk
  have hs := h.spend a0 a1
  have HA := Lib.hid (After.same h)
  have hv1 : (c.find k).1 ≤ 9223372036854775807 := by
    unfold Cab.find
    have := hv k
    split
    · exact Nat.zero_le _
    · split
      · exact Nat.zero_le _
      · rename_i n hn
        simpa [hn] using this
  generalize hfe : c.find k = r at hf hv1
  obtain ⟨n, q⟩ := r
  simp only at hf hv1
  by_cases hq : q = 0
  · subst hq
    rcases spend_cases c with ⟨e2, e1⟩ | ⟨e2, a, e1⟩
    · have ht : c.remove k = (c.spend.1, 11) := by unfold Cab.remove; rw [hfe]; simp [e2]; rw [← e2]
      rw [ht]
      rw [e2] at hs
      have HF := Lib.hid hf
      have HS := Lib.hid hs
      clear hs ht e1 e2 h hf hfe hv
      go_enter Tryd.func23, Tryd.ntmps23
      go_wp2_with (first | (go_at_call 49; refine HF.out.mono ?_; rintro e w' ⟨rfl, rfl⟩) | (go_at_call 53; refine HS.out.mono ?_; rintro e w1 ⟨rfl, hA1⟩))
      go_ret
      exact ⟨rfl, _, hA1⟩
    · have ht : c.remove k = (c.spend.1.rename ⟨2, [], k, n⟩, 0) := by unfold Cab.remove; rw [hfe]; simp [e2]
      rw [ht]
      rw [e2] at hs
      have HF := Lib.hid hf
      have HS := Lib.hid hs
      have HE := Lib.hid e1
      have HV := Lib.hid hv
      clear hs ht e1 e2 h hf hfe hv
      go_enter Tryd.func23, Tryd.ntmps23
      go_wp2_with (first | (go_at_call 49; refine HF.out.mono ?_; rintro e w' ⟨rfl, rfl⟩) | (go_at_call 53; refine HS.out.mono ?_; rintro e w1 ⟨rfl, hA1⟩) | (go_at_call 54; refine (rename_calls hA1.at_ ⟨2, [], k, n⟩ (by rw [HE.out]; exact hn) (by rw [HE.out]; exact hw) (Nat.le_refl 2) (Nat.zero_le _) hk hv1 (by rw [HE.out]; exact HV.out _)).mono ?_; rintro e w2 ⟨rfl, D2, hA2⟩))
      go_ret
      exact ⟨rfl, D2, hA1.trans hA2⟩
  · have ht : c.remove k = (c, q) := by unfold Cab.remove; rw [hfe]; simp [hq]
    rw [ht]
    have HF := Lib.hid hf
    have hb : (q == 0) = false := by simp [hq]
    have hb2 : (q != 0) = true := by simp [hq]
    clear hs ht h hf hfe hv
    go_enter Tryd.func23, Tryd.ntmps23
    go_wp2_with (go_at_call 49; refine HF.out.mono ?_; rintro e w' ⟨rfl, rfl⟩)
    go_ret
    exact ⟨rfl, _, HA.out⟩
end
end Chart
