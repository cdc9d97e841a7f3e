/- slices.Clone, slices.Clip of bytes; Read, Names. -/
import Derived.Test.YtophgamjhngppaaDoorCabL
import Derived.WalkSpells
namespace Chart
open Go Go.RowKit Go.Proofs

theorem clip_calls (v : Value) (l : Txt) (w : World) (h : Bytes w v l) :
    Calls Tryd.prog 47 #[v] w fun e w' => ∃ v', e = .returned v' ∧ Bytes w v' l ∧ v'.ownBlock = v.ownBlock ∧ w = w' := by
  rcases h.2 with ⟨rfl, h0⟩ | ⟨g, cap, cur, rfl, hg, hc, hm, hs, ht⟩
  · go_enter Tryd.func47, Tryd.ntmps47
    go_wp2
    go_ret
    exact ⟨_, rfl, h, rfl, rfl⟩
  · have hl := h.le
    have hfront := Row.front h l.length l.length (Nat.le_refl _) (Nat.le_refl _) hc
    rw [List.take_of_length_le (by rw [bytesV_length]; omega)] at hfront
    clear h hg ht
    go_enter Tryd.func47, Tryd.ntmps47
    go_wp2
    go_ret
    exact ⟨_, rfl, hfront, rfl, rfl⟩

set_option maxHeartbeats 1000000 in
theorem cloneb_calls (B : Value) (l : Txt) (w : World) (h : BytesSrc w B l) (hl : l.length ≤ 140737488355328) :
    Calls Tryd.prog 50 #[B] w fun e w' => ∃ v', e = .returned v' ∧ Bytes w' v' l ∧ (∀ k, v'.ownBlock = some k → w.heap.size ≤ k) ∧ Fr (fun _ => False) w w' := by
  obtain ⟨i0, hi0, hz0, hz1, hz2⟩ := info_parts u8_info
  obtain ⟨_, A, c, rfl, hlc, hlm, hA, _⟩ := id h
  cases A with
  | none =>
    obtain ⟨h0, rfl⟩ := hA rfl
    obtain rfl : l = [] := List.eq_nil_of_length_eq_zero h0
    have he := @Lib.run_eql_slice_nil
    go_enter Tryd.func50, Tryd.ntmps50
    go_wp2
    go_ret
    exact ⟨_, rfl, Row.nil _ _ _, fun k hk => by simp [Value.ownBlock] at hk, Fr.refl _ _⟩
  | some a =>
    have he := @Lib.run_eql_slice_nil
    go_enter Tryd.func50, Tryd.ntmps50
    go_wp2_with (at_builtin; refine wpList_append_row _ rfl (.tmp 5) (.tmp 6) 35 rfl 5 i0 _ 1 1 Tryd.underlying35 hi0 hz0 hz1 hz2 rfl (by decide) (.slice (some ⟨w.heap.size, 0, none⟩) 0 0) 0 [] rfl (Row.made w 5 1 0 #[] rfl (Nat.zero_le _)) (.slice (some a) l.length c) l.length (bytesV l) rfl (h.alloc _) (bytesV_one l) (by simp only [maxLen]; omega) (by omega) ?_; intro v3 w3 hrow3 hfr3 hwh3)
    go_ret
    refine ⟨v3, rfl, by simpa using hrow3, fun k hk => ?_, ((Fr.refl (fun _ => False) w).alloc _).trans hfr3 fun i h => .inr (by simp [Value.ownBlock] at h; omega)⟩
    · rcases hwh3 with h | h
      · rw [h] at hk
        simp [Value.ownBlock] at hk
        omega
      · rw [h] at hk
        injection hk with hk
        simp at hk
        omega

section
variable {w w' : World} {p : Nat} {c : Cab} {fv : Value} {avs : List Value} {nb sb : Nat} {wv : Value} {D : Nat → Prop}
set_option maxHeartbeats 1000000 in
theorem read_calls (h : CabAt w p c D) (k : Txt) (hk : k.length ≤ maxLen) (hnn : ∀ x ∈ c.now, x.2 < c.files.length) (hall : ∀ f ∈ c.files, f.all.length ≤ 1048576) :
    Calls Tryd.prog 16 #[.pointer (some ⟨p, 0, none⟩), .string (str k)] w fun e w' => ∃ v', e = .returned (.tuple #[v', .int .i64 (c.read k).2]) ∧ Bytes w' v' (c.read k).1 ∧ (∀ q, v'.ownBlock = some q → w.heap.size ≤ q) ∧ Fr (fun _ => False) w w' := by
  have hf := h.find k hk
  have hfl' := find_lt hnn (k := k)
  generalize hfe : c.find k = r at hf hfl'
  obtain ⟨n, q⟩ := r
  simp only at hf hfl'
  by_cases hq : q = 0
  · subst hq
    have hn := hfl' rfl
    obtain ⟨fv, avs, nb, sb, wv, hi, hD, hlt⟩ := id h
    obtain ⟨g, cp, v, f, hv, hcp, ha, hfn, hg, c0, c1, hb⟩ := hi.file hn
    have hfall := hall f (List.mem_of_getElem? hfn)
    have hcf : c.file n = f := by unfold Cab.file; rw [List.getD_eq_getElem?_getD, hfn]; rfl
    have ht : c.read k = (f.all, 0) := by unfold Cab.read; rw [hfe]; simp [hcf]
    rw [ht]
    subst hv
    have b1 : w.cell? ⟨p, 1, none⟩ = some (.slice (some ⟨g, 0, none⟩) c.files.length cp) := hi.blk.cell 1
    have HCl := Lib.hid (cloneb_calls v f.all w hb.src (by omega))
    obtain ⟨A', c', rfl, _, _⟩ := hb.shape
    have HF := Lib.hid hf
    clear ht h hf hfe hnn hfl' hcf hfn hall ha
    go_enter Tryd.func16, Tryd.ntmps16
    go_wp2_with (first
      | (go_at_call 49; refine HF.out.mono ?_; rintro e w' ⟨rfl, rfl⟩)
      | (go_at_call 50; refine HCl.out.mono ?_; rintro e w1 ⟨v1, rfl, hb1, hn1, hf1⟩)
      | (go_at_call 47; refine (clip_calls v1 f.all w1 hb1).mono ?_; rintro e w2 ⟨v2, rfl, hb2, ho2, rfl⟩))
    go_ret2
    exact ⟨v2, rfl, hb2, fun q hq => hn1 q (by rw [← ho2]; exact hq), hf1⟩
  · have ht : c.read k = ([], q) := by unfold Cab.read; rw [hfe]; simp [hq]
    rw [ht]
    have HF := Lib.hid hf
    have hb : (q == 0) = false := by simp [hq]
    have hb2 : (q != 0) = true := by simp [hq]
    clear ht h hf hfe hnn hfl' hall
    go_enter Tryd.func16, Tryd.ntmps16
    go_wp2_with (go_at_call 49; refine HF.out.mono ?_; rintro e w' ⟨rfl, rfl⟩)
    go_ret2
    exact ⟨_, rfl, Row.nil _ _ _, fun q hq => by simp [Value.ownBlock] at hq, Fr.refl _ _⟩
end
end Chart
