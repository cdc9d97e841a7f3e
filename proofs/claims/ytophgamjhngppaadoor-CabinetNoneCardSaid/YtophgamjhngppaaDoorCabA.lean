/- The cabinet's small methods: ready, spend, find, Fail. -/
import Derived.Test.YtophgamjhngppaaDoorRep
import Derived.WalkKit
import Derived.WalkLawsBesides
import Derived.Outline
namespace Chart
open Go Go.RowKit Go.Proofs

theorem zero_int (w : World) : (zeroValue 3).run Tryd.prog w = .ok (.int .i64 0) w := by kernel_rfl

set_option maxHeartbeats 400000 in
theorem ready_nil (w : World) : Calls Tryd.prog 51 #[.pointer none] w fun e w' => e = .returned (.int .i64 1) ∧ w = w' := by
  go_enter Tryd.func51, Tryd.ntmps51
  go_wp2
  go_ret
  exact ⟨rfl, rfl⟩

def readyE (off : Bool) : Int := if off then 11 else 0
set_option maxHeartbeats 400000 in
theorem ready_cell (p : Nat) (b : Bool) (w : World) (h : w.cell? ⟨p, 6, none⟩ = some (.bool b)) :
    Calls Tryd.prog 51 #[.pointer (some ⟨p, 0, none⟩)] w fun e w' => e = .returned (.int .i64 (readyE b)) ∧ w = w' := by
  cases b
  · go_enter Tryd.func51, Tryd.ntmps51
    go_wp2
    go_ret
    exact ⟨rfl, rfl⟩
  · go_enter Tryd.func51, Tryd.ntmps51
    go_wp2
    go_ret
    exact ⟨rfl, rfl⟩

section
variable {w w' : World} {p : Nat} {c : Cab} {fv : Value} {avs : List Value} {nb sb : Nat} {wv : Value} {D : Nat → Prop}
theorem CabIn.ready (h : CabIn w p c fv avs nb sb wv) : Calls Tryd.prog 51 #[.pointer (some ⟨p, 0, none⟩)] w fun e w' => e = .returned (.int .i64 (readyE c.off)) ∧ w = w' :=
  ready_cell p c.off w h.cells.2.2.2.2.2.2

/-- Behind a store into the struct's own cells. -/
theorem CabIn.after (h : CabIn w p c fv avs nb sb wv) (a : Int) : CabIn (w.setCell ⟨p, 5, none⟩ (.int .i64 a)) p { c with after := a } fv avs nb sb wv where
  blk := h.blk.set 5 _
  files := h.files.far (h.files.ne_blk h.blk (by decide)) _
  len := h.len
  bytes := fun i f hi => by
    obtain ⟨v, hv, hr⟩ := h.bytes i f hi
    exact ⟨v, hv, hr.far (hr.ne_blk h.blk (by decide)) _⟩
  apart := h.apart
  now := h.now.far (Ne.symm (h.blk.ne_map h.now)) _
  sure := h.sure.far (Ne.symm (h.blk.ne_map h.sure)) _
  two := h.two
  waiting := h.waiting.far (h.waiting.ne_blk h.blk (by decide)) _
theorem CabIn.setOff (h : CabIn w p c fv avs nb sb wv) (b : Bool) : CabIn (w.setCell ⟨p, 6, none⟩ (.bool b)) p { c with off := b } fv avs nb sb wv where
  blk := h.blk.set 6 _
  files := h.files.far (h.files.ne_blk h.blk (by decide)) _
  len := h.len
  bytes := fun i f hi => by
    obtain ⟨v, hv, hr⟩ := h.bytes i f hi
    exact ⟨v, hv, hr.far (hr.ne_blk h.blk (by decide)) _⟩
  apart := h.apart
  now := h.now.far (Ne.symm (h.blk.ne_map h.now)) _
  sure := h.sure.far (Ne.symm (h.blk.ne_map h.sure)) _
  two := h.two
  waiting := h.waiting.far (h.waiting.ne_blk h.blk (by decide)) _

set_option maxHeartbeats 400000 in
theorem CabIn.spend (h : CabIn w p c fv avs nb sb wv) (a0 : -1 ≤ c.after) (a1 : c.after ≤ 9223372036854775807) :
    Calls Tryd.prog 53 #[.pointer (some ⟨p, 0, none⟩)] w fun e w' => e = .returned (.int .i64 c.spend.2) ∧ CabIn w' p c.spend.1 fv avs nb sb wv ∧ Fr (· = p) w w' := by
  obtain ⟨_, _, _, _, _, h5, h6⟩ := h.cells
  have f5 := h.blk.frozen 5
  have f6 := h.blk.frozen 6
  rcases (by omega : c.after = 0 ∨ 0 < c.after ∨ c.after < 0) with h0 | h0 | h0
  · have hA := h.setOff true
    have hs : c.spend = ({ c with off := true }, 11) := by unfold Cab.spend; rw [if_pos h0]
    rw [hs]
    rw [h0] at h5
    have HA := Lib.hid hA
    clear hA h0 hs a0 a1 h
    go_enter Tryd.func53, Tryd.ntmps53
    go_wp2
    go_ret
    exact ⟨rfl, HA.out, (Fr.refl (· = p) w).setCell (p := ⟨p, 6, none⟩) (.inl rfl) _⟩
  · have hA := h.after (c.after - 1)
    have hs : c.spend = ({ c with after := c.after - 1 }, 0) := by unfold Cab.spend; rw [if_neg (by omega), if_pos h0]
    rw [hs]
    have HA := Lib.hid hA
    clear hA hs h
    go_enter Tryd.func53, Tryd.ntmps53
    go_wp2
    go_ret
    exact ⟨rfl, HA.out, (Fr.refl (· = p) w).setCell (p := ⟨p, 5, none⟩) (.inl rfl) _⟩
  · have hs : c.spend = (c, 0) := by unfold Cab.spend; rw [if_neg (by omega), if_neg (by omega)]
    rw [hs]
    have HA := Lib.hid h
    clear hs h
    go_enter Tryd.func53, Tryd.ntmps53
    go_wp2
    go_ret
    exact ⟨rfl, HA.out, Fr.refl _ _⟩

theorem find_nil (s : ByteArray) (w : World) : Calls Tryd.prog 49 #[.pointer none, .string s] w fun e w' => e = .returned (.tuple #[.int .i64 0, .int .i64 1]) ∧ w = w' := by
  go_enter Tryd.func49, Tryd.ntmps49
  go_wp2_with (go_at_call 51; refine (ready_nil _).mono ?_; rintro e w' ⟨rfl, rfl⟩)
  go_ret2
  exact ⟨rfl, rfl⟩

set_option maxHeartbeats 400000 in
theorem CabIn.find (h : CabIn w p c fv avs nb sb wv) (k : Txt) (hk : k.length ≤ maxLen) :
    Calls Tryd.prog 49 #[.pointer (some ⟨p, 0, none⟩), .string (str k)] w fun e w' => e = .returned (.tuple #[.int .i64 ((c.find k).1 : Nat), .int .i64 (c.find k).2]) ∧ w = w' := by
  obtain ⟨_, _, h2, _, _, _, _⟩ := h.cells
  have hr := h.ready
  have hn := h.now
  cases ho : c.off
  · rw [ho] at hr
    cases hg : c.now.get? k with
    | none =>
      have hf : c.find k = (0, 7) := by simp [Cab.find, ho, hg]
      rw [hf]
      have HR := Lib.hid hr; have HG := Lib.hid hg
      clear hr hg ho hf
      go_enter Tryd.func49, Tryd.ntmps49
      go_wp2_with (first | (go_at_call 51; refine HR.out.mono ?_; rintro e w' ⟨rfl, rfl⟩) | (at_lookup; refine wpList_look_ok _ rfl _ _ 77 rfl 9 3 Tryd.underlying9 Tryd.underlying77 Tryd.underlying3 (zero_int _) nb c.now rfl hn k rfl hk ?_; rw [HG.out]))
      go_ret2
      exact ⟨rfl, rfl⟩
    | some n =>
      have hf : c.find k = (n, 0) := by simp [Cab.find, ho, hg]
      rw [hf]
      have HR := Lib.hid hr; have HG := Lib.hid hg
      clear hr hg ho hf
      go_enter Tryd.func49, Tryd.ntmps49
      go_wp2_with (first | (go_at_call 51; refine HR.out.mono ?_; rintro e w' ⟨rfl, rfl⟩) | (at_lookup; refine wpList_look_ok _ rfl _ _ 77 rfl 9 3 Tryd.underlying9 Tryd.underlying77 Tryd.underlying3 (zero_int _) nb c.now rfl hn k rfl hk ?_; rw [HG.out]))
      go_ret2
      exact ⟨rfl, rfl⟩
  · rw [ho] at hr
    have hf : c.find k = (0, 11) := by simp [Cab.find, ho]
    rw [hf]
    have HR := Lib.hid hr
    clear hr ho hf
    go_enter Tryd.func49, Tryd.ntmps49
    go_wp2_with (go_at_call 51; refine HR.out.mono ?_; rintro e w' ⟨rfl, rfl⟩)
    go_ret2
    exact ⟨rfl, rfl⟩

set_option maxHeartbeats 400000 in
theorem CabIn.fail (h : CabIn w p c fv avs nb sb wv) (n : Int) :
    Calls Tryd.prog 14 #[.pointer (some ⟨p, 0, none⟩), .int .i64 n] w fun e w' => e = .returned (.tuple #[]) ∧ CabIn w' p (c.fail n) fv avs nb sb wv ∧ Fr (· = p) w w' := by
  obtain ⟨_, _, _, _, _, h5, _⟩ := h.cells
  have f5 := h.blk.frozen 5
  by_cases hn : -1 ≤ n
  · have e : c.fail n = { c with after := n } := by unfold Cab.fail; rw [Int.max_eq_left hn]
    rw [e]
    have HA := Lib.hid (h.after n)
    clear h e
    go_enter Tryd.func14, Tryd.ntmps14
    go_wp2
    go_end0
    exact ⟨rfl, HA.out, (Fr.refl (· = p) w).setCell (p := ⟨p, 5, none⟩) (.inl rfl) _⟩
  · have e : c.fail n = { c with after := -1 } := by unfold Cab.fail; rw [Int.max_eq_right (by omega)]
    rw [e]
    have HA := Lib.hid (h.after (-1))
    clear h e
    go_enter Tryd.func14, Tryd.ntmps14
    go_wp2
    go_end0
    exact ⟨rfl, HA.out, (Fr.refl (· = p) w).setCell (p := ⟨p, 5, none⟩) (.inl rfl) _⟩
theorem fail_nil (n : Int) (w : World) : Calls Tryd.prog 14 #[.pointer none, .int .i64 n] w fun e w' => e = .returned (.tuple #[]) ∧ w = w' := by
  go_enter Tryd.func14, Tryd.ntmps14
  go_wp2
  go_end0
  exact ⟨rfl, rfl⟩
end
end Chart
