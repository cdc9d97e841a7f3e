import Derived.Test.YtophgamjhngppaaDoorZ66BA313C
import Derived.Deep.RegionHeld3
/- frame.First. -/
namespace Chart
open Go Go.RowKit Go.Proofs

/-- A part of what a slice reads as. -/
theorem Src.part {w : World} {a : Addr} {n c : Nat} {xs : List Value} (h : Src w 1 (.slice (some a) n c) n xs) (lo m : Nat) (hlo : lo + m ≤ n) (a' : Addr) (c' : Nat) (ha : a' = a.add lo ∨ m = 0) (hc : m ≤ c' ∧ c' ≤ maxLen) : Src w 1 (.slice (some a') m c') m ((xs.drop lo).take m) := by
  obtain ⟨h1, A, c0, hv, h2, h3, h4, h5⟩ := h
  injection hv with e1 _ e3
  subst e1 e3
  refine ⟨by rw [List.length_take, List.length_drop, h1]; omega, some a', c', rfl, hc.1, hc.2, (fun h => nomatch h), fun b hb j u hu => ?_⟩
  injection hb with hb
  subst hb
  rw [List.getElem?_take] at hu
  split at hu
  · rename_i hj
    rcases ha with rfl | ha
    · rw [Deep.add_add]
      rw [List.getElem?_drop] at hu
      exact h5 a rfl _ _ hu
    · omega
  · cases hu
theorem BytesSrc.part {w : World} {a : Addr} {c : Nat} {l : Txt} (h : BytesSrc w (.slice (some a) l.length c) l) (lo m : Nat) (hlo : lo + m ≤ l.length) (a' : Addr) (c' : Nat) (ha : a' = a.add lo ∨ m = 0) (hc : m ≤ c' ∧ c' ≤ maxLen) : BytesSrc w (.slice (some a') m c') ((l.drop lo).take m) := by
  have h1 := Src.part h lo m hlo a' c' ha hc
  unfold BytesSrc
  have e : (bytesV l).drop lo = bytesV (l.drop lo) := by simp [bytesV]
  have e2 : ((l.drop lo).take m).length = m := by rw [List.length_take, List.length_drop]; omega
  rw [e, bytesV_take] at h1
  rw [e2]
  exact h1

def firstF (l : Txt) : Txt × Nat × Int :=
  if l.length < 8 then ([], 0, 3)
  else if 16384 < getN 0 (l.take 4) then ([], 0, 2)
  else if l.length - 8 < getN 0 (l.take 4) then ([], 0, 3)
  else if crcSum ((l.drop 8).take (getN 0 (l.take 4))) ≠ getN 0 ((l.drop 4).take 4) then ([], 0, 2)
  else ((l.drop 8).take (getN 0 (l.take 4)), 8 + getN 0 (l.take 4), 0)
set_option maxRecDepth 100000 in
set_option maxHeartbeats 4000000 in
theorem first_calls (V : Value) (l : Txt) (w : World) (hV : BytesSrc w V l) :
    Calls Tryd.prog 84 #[V] w fun e w' => ∃ v, e = .returned (.tuple #[v, .int .i64 (firstF l).2.1, .int .i64 (firstF l).2.2]) ∧ Bytes w' v (firstF l).1 ∧ (∀ q, v.ownBlock = some q → w.heap.size ≤ q) ∧ Fr (fun _ => False) w w' := by
  obtain ⟨-, A, cp, rfl, hvc, hcm, hA, hcell⟩ := id hV
  have hm : cp ≤ 9223372036854775807 := by simp only [maxLen] at hcm; omega
  unfold firstF
  by_cases h8 : l.length < 8
  · rw [if_pos h8]
    have h8i : (l.length : Int) < 8 := by omega
    clear hV hcell hA
    go_enter Tryd.func84, Tryd.ntmps84
    go_wp2
    go_ret3
    exact ⟨_, rfl, Row.nil _ _ _, fun q hq => by simp [Value.ownBlock] at hq, Fr.refl _ _⟩
  · rw [if_neg h8]
    obtain ⟨a, rfl⟩ : ∃ a, A = some a := by
      cases A with
      | none => have := (hA rfl).1; omega
      | some a => exact ⟨a, rfl⟩
    have h8i : ¬ (l.length : Int) < 8 := by omega
    have hb4 := hV.part 0 4 (by omega) a cp (.inl rfl) ⟨by omega, hcm⟩
    rw [List.drop_zero] at hb4
    have hb8 := hV.part 4 4 (by omega) (a.add 4) (cp - 4) (.inl rfl) ⟨by omega, by omega⟩
    have HG1 := Lib.hid (get4_calls _ _ w hb4 (by rw [List.length_take]; omega))
    have HG2 := Lib.hid (get4_calls _ _ w hb8 (by rw [List.length_take, List.length_drop]; omega))
    have hn1 : getN 0 (l.take 4) < 4294967296 := by
      have h9 := getN_lt (l.take 4) 0 0 (by decide)
      rw [List.length_take, Nat.min_eq_left (by omega), Nat.zero_add] at h9
      exact h9
    have hn2 : getN 0 ((l.drop 4).take 4) < 4294967296 := by
      have h9 := getN_lt ((l.drop 4).take 4) 0 0 (by decide)
      rw [List.length_take, List.length_drop, Nat.min_eq_left (by omega), Nat.zero_add] at h9
      exact h9
    have HV := Lib.hid hV
    generalize getN 0 (l.take 4) = n at *
    generalize getN 0 ((l.drop 4).take 4) = s at *
    clear hV hcell hA hb4 hb8
    by_cases hbig : 16384 < n
    · rw [if_pos hbig]
      have hbi : (16384 : Int) < (n : Int) := by omega
      go_enter Tryd.func84, Tryd.ntmps84
      go_wp2_with fail
      refine HG1.out.mono ?_
      rintro e w' ⟨rfl, rfl⟩
      go_wp2_with fail
      refine HG2.out.mono ?_
      rintro e w' ⟨rfl, rfl⟩
      go_wp2_with fail
      go_ret3
      exact ⟨_, rfl, Row.nil _ _ _, fun q hq => by simp [Value.ownBlock] at hq, Fr.refl _ _⟩
    · rw [if_neg hbig]
      have hbi : ¬ (16384 : Int) < (n : Int) := by omega
      by_cases hsh : l.length - 8 < n
      · rw [if_pos hsh]
        have hsi : (l.length : Int) - 8 < (n : Int) := by omega
        have hnn : (0 : Int) ≤ (l.length : Int) - 8 := by omega
        go_enter Tryd.func84, Tryd.ntmps84
        go_wp2_with fail
        refine HG1.out.mono ?_
        rintro e w' ⟨rfl, rfl⟩
        go_wp2_with fail
        refine HG2.out.mono ?_
        rintro e w' ⟨rfl, rfl⟩
        go_wp2_with fail
        go_ret3
        exact ⟨_, rfl, Row.nil _ _ _, fun q hq => by simp [Value.ownBlock] at hq, Fr.refl _ _⟩
      · rw [if_neg hsh]
        have hsi : ¬ (l.length : Int) - 8 < (n : Int) := by omega
        have hnn : (0 : Int) ≤ (l.length : Int) - 8 := by omega
        have hle : (8 : Int) + (n : Int) ≤ (cp : Int) := by omega
        by_cases hcp : cp = 8
        · have h0 : n = 0 := by omega
          have hpt := HV.out.part 8 n (by omega) a 0 (.inr h0) ⟨by omega, Nat.zero_le _⟩
          have htl : ((l.drop 8).take n).length ≤ 16384 := by rw [List.length_take]; omega
          generalize (l.drop 8).take n = t at *
          have hs := crcSum_lt t
          have HP := Lib.hid hpt
          clear hpt
          subst h0 hcp
          by_cases hcs : crcSum t = s
          · rw [if_neg (by simpa using hcs)]
            have hbf : ((crcSum t : Int) != (s : Int)) = false := by rw [hcs]; simp
            have HCS := Lib.hid hcs
            clear hcs
            go_enter Tryd.func84, Tryd.ntmps84
            go_wp2_with fail
            refine HG1.out.mono ?_
            rintro e w' ⟨rfl, rfl⟩
            go_wp2_with fail
            refine HG2.out.mono ?_
            rintro e w' ⟨rfl, rfl⟩
            go_wp2_with fail
            refine (crcsum_calls _ (.slice (some a) 0 0) t _ (Row.made w 35 1 1 #[.slice (some a) 0 0] rfl (by decide)).src (HP.out.alloc _)).mono ?_
            rintro e w2 ⟨rfl, rfl⟩
            go_wp2_with fail
            refine (cloneb_calls _ t _ (HP.out.alloc _) (by omega)).mono ?_
            rintro e w3 ⟨v3, rfl, hb3, hq3, f3⟩
            have HB3 := Lib.hid hb3
            have HQ3 := Lib.hid hq3
            have HF3 := Lib.hid f3
            clear hb3 hq3 f3
            go_wp2_with fail
            refine (clip_calls _ _ _ HB3.out).mono ?_
            rintro e w4 ⟨v4, rfl, hb4, ho4, rfl⟩
            have HB4 := Lib.hid hb4
            have HO4 := Lib.hid ho4
            clear hb4 ho4
            go_wp2_with fail
            go_ret3
            refine ⟨_, rfl, HB4.out, fun q hq => ?_, ((Fr.refl _ w).alloc _).trans HF3.out fun _ h => h.elim⟩
            have := HQ3.out q (by rw [← HO4.out]; exact hq)
            simp at this
            omega
          · rw [if_pos hcs]
            have hbf : ((crcSum t : Int) != (s : Int)) = true := by simp; omega
            have HCS := Lib.hid hcs
            clear hcs
            go_enter Tryd.func84, Tryd.ntmps84
            go_wp2_with fail
            refine HG1.out.mono ?_
            rintro e w' ⟨rfl, rfl⟩
            go_wp2_with fail
            refine HG2.out.mono ?_
            rintro e w' ⟨rfl, rfl⟩
            go_wp2_with fail
            refine (crcsum_calls _ (.slice (some a) 0 0) t _ (Row.made w 35 1 1 #[.slice (some a) 0 0] rfl (by decide)).src (HP.out.alloc _)).mono ?_
            rintro e w2 ⟨rfl, rfl⟩
            go_wp2_with fail
            go_ret3
            exact ⟨_, rfl, Row.nil _ _ _, fun q hq => by simp [Value.ownBlock] at hq, (Fr.refl _ _).alloc _⟩
        · have hpt := HV.out.part 8 n (by omega) (a.add 8) (cp - 8) (.inl rfl) ⟨by omega, by omega⟩
          rw [show a.add 8 = (⟨a.block, a.off + 8, none⟩ : Addr) from rfl] at hpt
          have htl : ((l.drop 8).take n).length ≤ 16384 := by rw [List.length_take]; omega
          generalize (l.drop 8).take n = t at *
          have hs := crcSum_lt t
          have HP := Lib.hid hpt
          clear hpt
          by_cases hcs : crcSum t = s
          · rw [if_neg (by simpa using hcs)]
            have hbf : ((crcSum t : Int) != (s : Int)) = false := by rw [hcs]; simp
            have HCS := Lib.hid hcs
            clear hcs
            go_enter Tryd.func84, Tryd.ntmps84
            go_wp2_with fail
            refine HG1.out.mono ?_
            rintro e w' ⟨rfl, rfl⟩
            go_wp2_with fail
            refine HG2.out.mono ?_
            rintro e w' ⟨rfl, rfl⟩
            go_wp2_with fail
            refine (crcsum_calls _ (.slice (some ⟨a.block, a.off + 8, none⟩) n (cp - 8)) t _ (Row.made w 35 1 1 #[.slice (some ⟨a.block, a.off + 8, none⟩) n (cp - 8)] rfl (by decide)).src (HP.out.alloc _)).mono ?_
            rintro e w2 ⟨rfl, rfl⟩
            go_wp2_with fail
            refine (cloneb_calls _ t _ (HP.out.alloc _) (by omega)).mono ?_
            rintro e w3 ⟨v3, rfl, hb3, hq3, f3⟩
            have HB3 := Lib.hid hb3
            have HQ3 := Lib.hid hq3
            have HF3 := Lib.hid f3
            clear hb3 hq3 f3
            go_wp2_with fail
            refine (clip_calls _ _ _ HB3.out).mono ?_
            rintro e w4 ⟨v4, rfl, hb4, ho4, rfl⟩
            have HB4 := Lib.hid hb4
            have HO4 := Lib.hid ho4
            clear hb4 ho4
            go_wp2_with fail
            go_ret3
            refine ⟨_, rfl, HB4.out, fun q hq => ?_, ((Fr.refl _ w).alloc _).trans HF3.out fun _ h => h.elim⟩
            have := HQ3.out q (by rw [← HO4.out]; exact hq)
            simp at this
            omega
          · rw [if_pos hcs]
            have hbf : ((crcSum t : Int) != (s : Int)) = true := by simp; omega
            have HCS := Lib.hid hcs
            clear hcs
            go_enter Tryd.func84, Tryd.ntmps84
            go_wp2_with fail
            refine HG1.out.mono ?_
            rintro e w' ⟨rfl, rfl⟩
            go_wp2_with fail
            refine HG2.out.mono ?_
            rintro e w' ⟨rfl, rfl⟩
            go_wp2_with fail
            refine (crcsum_calls _ (.slice (some ⟨a.block, a.off + 8, none⟩) n (cp - 8)) t _ (Row.made w 35 1 1 #[.slice (some ⟨a.block, a.off + 8, none⟩) n (cp - 8)] rfl (by decide)).src (HP.out.alloc _)).mono ?_
            rintro e w2 ⟨rfl, rfl⟩
            go_wp2_with fail
            go_ret3
            exact ⟨_, rfl, Row.nil _ _ _, fun q hq => by simp [Value.ownBlock] at hq, (Fr.refl _ _).alloc _⟩
end Chart

/- frame.Scan. -/
namespace Chart
open Go Go.RowKit Go.Proofs

theorem firstF_ok {l : Txt} (h : (firstF l).2.2 = 0) : 8 ≤ (firstF l).2.1 ∧ (firstF l).2.1 ≤ l.length := by
  unfold firstF at *
  split at h
  · simp at h
  split at h
  · simp at h
  split at h
  · simp at h
  split at h
  · simp at h
  · rename_i h1 h2 h3 h4
    rw [if_neg h1, if_neg h2, if_neg h3, if_neg h4]
    simp only
    omega
/-- The texts of all frames that bytes begin with. -/
def scanF (l : Txt) : List Txt :=
  if h : (firstF l).2.2 = 0 then (firstF l).1 :: scanF (l.drop (firstF l).2.1) else []
termination_by l.length
decreasing_by
  have := firstF_ok h
  rw [List.length_drop]
  omega
theorem scanF_ok {l : Txt} (h : (firstF l).2.2 = 0) : scanF l = (firstF l).1 :: scanF (l.drop (firstF l).2.1) := by
  rw [scanF, dif_pos h]
theorem scanF_no {l : Txt} (h : ¬ (firstF l).2.2 = 0) : scanF l = [] := by
  rw [scanF, dif_neg h]
theorem BytesSrc.tail {w : World} {A : Option Addr} {c : Nat} {l : Txt} (h : BytesSrc w (.slice A l.length c) l) {k : Nat} (hk : k ≤ l.length) :
    (k = c → BytesSrc w (.slice A (l.length - k) 0) (l.drop k)) ∧ (¬ k = c → BytesSrc w (.slice (A.map (·.add k)) (l.length - k) (c - k)) (l.drop k)) := by
  obtain ⟨-, A', c', hv, h2, h3, h4, -⟩ := id h
  injection hv with e1 _ e3
  subst e1 e3
  have hd : (l.drop k).take (l.length - k) = l.drop k := List.take_of_length_le (by rw [List.length_drop]; exact Nat.le_refl _)
  cases A with
  | none =>
    obtain ⟨h5, rfl⟩ := h4 rfl
    have h6 : l = [] := List.eq_nil_of_length_eq_zero h5
    subst h6
    simp at hk
    subst hk
    exact ⟨fun _ => Src.nil w 1, fun h => absurd rfl h⟩
  | some a =>
    refine ⟨fun e => ?_, fun _ => ?_⟩
    · have := h.part k (l.length - k) (by omega) a 0 (.inr (by omega)) ⟨by omega, Nat.zero_le _⟩
      rwa [hd] at this
    · have := h.part k (l.length - k) (by omega) (a.add k) (c - k) (.inl rfl) ⟨by omega, by omega⟩
      rwa [hd] at this
theorem bs_info : (Tryd.prog.info? 35).map (fun i => (i.zero, i.size, i.bytes)) = some (some (.slice none 0 0), 1, 24) := by kernel_rfl

/-- Texts of the call's own. -/
def TextsB (w : World) (vs : List Value) (ls : List Txt) : Prop := vs.length = ls.length ∧ ∀ (i : Nat) (v : Value) (l : Txt), vs[i]? = some v → ls[i]? = some l → Bytes w v l
theorem TextsB.fr {w w' : World} {vs : List Value} {ls : List Txt} {E : Nat → Prop} (h : TextsB w vs ls) (hf : Fr E w w') (hE : ∀ u ∈ vs, ∀ k, u.ownBlock = some k → ¬ E k) : TextsB w' vs ls :=
  ⟨h.1, fun i v l h1 h2 => (h.2 i v l h1 h2).fr hf (hE v (List.mem_of_getElem? h1))⟩
theorem TextsB.src {w : World} {vs : List Value} {ls : List Txt} (h : TextsB w vs ls) : Texts w vs ls := ⟨h.1, fun i v l h1 h2 => (h.2 i v l h1 h2).src⟩
theorem TextsB.nil (w : World) : TextsB w [] [] := ⟨rfl, fun i v l h => by simp at h⟩
theorem TextsB.snoc {w : World} {vs : List Value} {ls : List Txt} (h : TextsB w vs ls) {u : Value} {t : Txt} (hu : Bytes w u t) : TextsB w (vs ++ [u]) (ls ++ [t]) := by
  refine ⟨by simp [h.1], fun i v l h1 h2 => ?_⟩
  by_cases hi : i < vs.length
  · rw [List.getElem?_append_left hi] at h1
    rw [List.getElem?_append_left (by rw [← h.1]; exact hi)] at h2
    exact h.2 i v l h1 h2
  · rw [List.getElem?_append_right (by omega)] at h1
    rw [List.getElem?_append_right (by rw [← h.1]; omega), ← h.1] at h2
    cases hj : i - vs.length with
    | zero =>
      rw [hj] at h1 h2
      simp at h1 h2
      subst h1 h2
      exact hu
    | succ j =>
      rw [hj] at h1
      simp at h1
/-- A block of one type is none of another. -/
theorem TextsB.apart {w : World} {vs : List Value} {ls : List Txt} (h : TextsB w vs ls) {o : Value} {n : Nat} {xs : List Value} {e : TypeId} {size : Nat} (hr : Row w e size o n xs) (hne : 5 ≠ e) : ∀ u ∈ vs, ∀ k, u.ownBlock = some k → ¬ o.ownBlock = some k := by
  intro u hu k hk
  obtain ⟨i, hi⟩ := List.getElem?_of_mem hu
  have hl : i < ls.length := by
    have := (List.getElem?_eq_some_iff.1 hi).1
    rw [← h.1]
    exact this
  exact (h.2 i u _ hi (List.getElem?_eq_getElem hl)).ne_row hr hne hk
/-- A slice of texts. -/
def TextsRow (w : World) (B : Nat) (v : Value) (ls : List Txt) : Prop :=
  ∃ vs, Row w 35 1 v ls.length vs ∧ TextsB w vs ls ∧ (∀ q, v.ownBlock = some q → B ≤ q) ∧ ∀ u ∈ vs, (∀ q, u.ownBlock = some q → B ≤ q) ∧ u.oneCell' = true
theorem clipbs_calls (v : Value) (n : Nat) (xs : List Value) (w : World) (h : Row w 35 1 v n xs) :
    Calls Tryd.prog 85 #[v] w fun e w' => ∃ v', e = .returned v' ∧ Row w 35 1 v' n xs ∧ v'.ownBlock = v.ownBlock ∧ w = w' := by
  rcases h.2 with ⟨rfl, h0⟩ | ⟨g, cap, cur, rfl, hg, hc, hm, hs, ht⟩
  · go_enter Tryd.func85, Tryd.ntmps85
    go_wp2
    go_ret
    exact ⟨_, rfl, h, rfl, rfl⟩
  · have h1 := h.1
    simp only [maxLen] at hm
    have H := Lib.hid (show Row w 35 1 (.slice (some ⟨g, 0, none⟩) n n) n xs from ⟨h1, .inr ⟨g, n, cur, rfl, hg, Nat.le_refl _, by simp only [maxLen]; omega, by omega, ht⟩⟩)
    clear h hg hs ht h1
    go_enter Tryd.func85, Tryd.ntmps85
    go_wp2
    go_ret
    exact ⟨_, rfl, H.out, rfl, rfl⟩
set_option maxRecDepth 100000 in
set_option maxHeartbeats 400000 in
theorem scan_calls (V : Value) (l : Txt) (w : World) (hV : BytesSrc w V l) (hl : l.length ≤ 4194304) :
    Calls Tryd.prog 60 #[V] w fun e w' => ∃ v k, e = .returned (.tuple #[v, .int .i64 k]) ∧ TextsRow w' w.heap.size v (scanF l) ∧ Fr (fun _ => False) w w' := by
  obtain ⟨-, A, cp, rfl, hvc, hcm, hA, hcell⟩ := id hV
  have hm : cp ≤ 9223372036854775807 := by simp only [maxLen] at hcm; omega
  obtain ⟨i0, hi0, hz0, hz1, hz2⟩ := info_parts bs_info
  have HV := Lib.hid hV
  clear hV hcell hA
  go_enter Tryd.func60, Tryd.ntmps60
  go_wp2
  go_loopw [4, 5] (fun o i wr => ∃ (k : Nat) (done : List Txt), k ≤ l.length ∧ i = .int .i64 k ∧ scanF l = done ++ scanF (l.drop k) ∧ 8 * done.length ≤ k ∧ TextsRow wr w.heap.size o done ∧ Fr (fun _ => False) w wr) (fun _ i _ => l.length - (RowKit.intOf i).toNat)
  case atStart => exact ⟨0, [], Nat.zero_le _, rfl, by simp, by simp, ⟨[], Row.nil _ _ _, TextsB.nil _, fun q hq => by simp [Value.ownBlock] at hq, fun u hu => by simp at hu⟩, Fr.refl _ _⟩
  case round =>
    obtain ⟨k, done, hk, rfl, hsc, h8, hrow, hfr⟩ := hrel
    have HROW := Lib.hid hrow
    have hle := hfr.size
    by_cases hkc : k = cp
    · have hk2 : k = l.length := by omega
      have hb0 := (BytesSrc.tail (HV.out.fr hfr fun _ _ _ => id) hk).1 hkc
      have hdr : l.drop k = [] := List.drop_of_length_le (by omega)
      rw [hdr, show scanF [] = [] from scanF_no (by decide), List.append_nil] at hsc
      rw [hdr, show l.length - k = 0 by omega] at hb0
      have HSC := Lib.hid hsc
      have HF := Lib.hid (show Calls Tryd.prog 84 #[.slice A 0 0] wr fun e w' => ∃ v, e = .returned (.tuple #[v, .int .i64 0, .int .i64 3]) ∧ Bytes w' v [] ∧ (∀ q, v.ownBlock = some q → wr.heap.size ≤ q) ∧ Fr (fun _ => False) wr w' from first_calls _ [] wr hb0)
      have hsub : l.length - k = 0 := by omega
      clear hb0 hdr hk2 hsc hrow
      subst hkc
      obtain ⟨vs, hr, ht, hq, hu⟩ := HROW.out
      obtain ⟨ao, co, rfl, hc1, hc2⟩ := hr.shape
      have HR := Lib.hid hr
      have HT := Lib.hid ht
      have HQ := Lib.hid hq
      have HU := Lib.hid hu
      clear hr ht hq hu
      go_wp2_with fail
      refine HF.out.mono ?_
      rintro e w2 ⟨v2, rfl, hb2, hq2, f2⟩
      have HF2 := Lib.hid f2
      clear hb2 hq2 f2
      go_wp2_with fail
      refine (clipbs_calls _ _ _ _ (HR.out.fr HF2.out fun _ _ => id)).mono ?_
      rintro e w3 ⟨v3, rfl, hr3, ho3, rfl⟩
      have HR3 := Lib.hid hr3
      have HO3 := Lib.hid ho3
      clear hr3 ho3
      go_wp2_with fail
      go_ret2
      refine ⟨_, _, rfl, ⟨vs, ?_, ?_, fun q hq => HQ.out q (by rw [← HO3.out]; exact hq), HU.out⟩, hfr.trans HF2.out fun _ h => h.elim⟩
      · rw [HSC.out]
        exact HR3.out
      · rw [HSC.out]
        exact HT.out.fr HF2.out fun _ _ _ _ => id
    · have HB := Lib.hid ((BytesSrc.tail (HV.out.fr hfr fun _ _ _ => id) hk).2 hkc)
      clear hrow
      by_cases he : (firstF (l.drop k)).2.2 = 0
      · have hok := firstF_ok he
        rw [List.length_drop] at hok
        have hsk := scanF_ok he
        rw [List.drop_drop] at hsk
        have HE := Lib.hid he
        rw [hsk] at hsc
        have HSC := Lib.hid hsc
        clear he hsk hsc
        have HF := Lib.hid (first_calls _ (l.drop k) wr HB.out)
        generalize (firstF (l.drop k)).2.1 = n at *
        go_wp2_with fail
        refine HF.out.mono ?_
        rintro e w2 ⟨v2, rfl, hb2, hq2, f2⟩
        obtain ⟨A2, c2, rfl, hc1, hc2⟩ := hb2.shape
        rw [HE.out]
        have HB2 := Lib.hid hb2
        have HQ2 := Lib.hid hq2
        have HF2 := Lib.hid f2
        obtain ⟨vs, hr, ht, hq, hu⟩ := HROW.out
        have HR := Lib.hid (hr.fr f2 fun _ _ => id)
        have HT := Lib.hid ((ht.fr f2 fun _ _ _ _ => id).snoc hb2)
        have HQ := Lib.hid hq
        have HU := Lib.hid hu
        generalize (firstF (l.drop k)).1 = t at *
        clear hb2 hq2 f2 hr ht hq hu
        have hs1 := hfr.size
        have hs2 := HF2.out.size
        go_wp2_with (at_builtin; refine wpList_append_row _ rfl (.tmp 22) (.tmp 24) 56 rfl 35 i0 _ 1 24 Tryd.underlying56 hi0 hz0 hz1 hz2 rfl (by decide) u4 _ _ rfl (HR.out.alloc _) _ 1 _ rfl (Row.made w2 35 1 1 #[.slice A2 t.length c2] rfl (by decide)).src (by intro u hu; simp at hu; subst hu; rfl) (by simp only [maxLen]; omega) (by omega) ?_; intro v3 w3 hrow3 hfr3 hwh3)
        have FW : Fr (fun _ => False) w w3 := ((hfr.trans HF2.out fun _ h => h.elim).alloc _).trans hfr3 fun q hq => .inr (HQ.out q hq)
        have hap := HT.out.apart HR.out (by decide)
        refine ⟨⟨k + n, done ++ [t], by omega, by go_num, ?_, by simp; omega, ⟨vs ++ [.slice A2 t.length c2], ?_, ?_, ?_, ?_⟩, FW⟩, by simp [RowKit.intOf]; omega⟩
        · rw [HSC.out, List.append_assoc]
          rfl
        · rw [List.length_append]
          exact hrow3
        · exact (HT.out.fr ((Fr.refl (fun _ => False) w2).alloc _) fun _ _ _ _ => id).fr hfr3 hap
        · intro q hq
          rcases hwh3 with h | h
          · exact HQ.out q (h ▸ hq)
          · rw [h] at hq
            simp at hq
            omega
        · intro u hu
          rw [List.mem_append] at hu
          rcases hu with hu | hu
          · exact HU.out u hu
          · simp at hu
            subst hu
            exact ⟨fun q hq => by have := HQ2.out q hq; omega, rfl⟩
      · have hsk := scanF_no he
        rw [hsk, List.append_nil] at hsc
        have HSC := Lib.hid hsc
        have HF := Lib.hid (first_calls _ (l.drop k) wr HB.out)
        have hne : ((firstF (l.drop k)).2.2 != 0) = true := by simpa using he
        have HE := Lib.hid he
        clear hsk hsc he
        obtain ⟨vs, hr, ht, hq, hu⟩ := HROW.out
        obtain ⟨ao, co, rfl, hc1, hc2⟩ := hr.shape
        have HR := Lib.hid hr
        have HT := Lib.hid ht
        have HQ := Lib.hid hq
        have HU := Lib.hid hu
        clear hr ht hq hu
        go_wp2_with fail
        refine HF.out.mono ?_
        rintro e w2 ⟨v2, rfl, hb2, hq2, f2⟩
        have HF2 := Lib.hid f2
        clear hb2 hq2 f2
        go_wp2_with fail
        refine (clipbs_calls _ _ _ _ (HR.out.fr HF2.out fun _ _ => id)).mono ?_
        rintro e w3 ⟨v3, rfl, hr3, ho3, rfl⟩
        have HR3 := Lib.hid hr3
        have HO3 := Lib.hid ho3
        clear hr3 ho3
        go_wp2_with fail
        go_ret2
        refine ⟨_, _, rfl, ⟨vs, ?_, ?_, fun q hq => HQ.out q (by rw [← HO3.out]; exact hq), HU.out⟩, hfr.trans HF2.out fun _ h => h.elim⟩
        · rw [HSC.out]
          exact HR3.out
        · rw [HSC.out]
          exact HT.out.fr HF2.out fun _ _ _ _ => id
end Chart

/- segment.Load. -/
namespace Chart
open Go Go.RowKit Go.Proofs

/-- Texts that are read; their blocks are not older than B. -/
def TextsAt (w : World) (B : Nat) (v : Value) (ls : List Txt) : Prop :=
  ∃ vs, Src w 1 v ls.length vs ∧ Texts w vs ls ∧ (∀ q, v.ownBlock = some q → B ≤ q) ∧ ∀ u ∈ vs, ∀ q, u.ownBlock = some q → B ≤ q
theorem TextsAt.fr {w w' : World} {B : Nat} {v : Value} {ls : List Txt} {E : Nat → Prop} (h : TextsAt w B v ls) (hf : Fr E w w') (hE : ∀ k, B ≤ k → k < w.heap.size → ¬ E k) : TextsAt w' B v ls := by
  obtain ⟨vs, h1, h2, h3, h4⟩ := h
  exact ⟨vs, h1.fr hf fun k hk ho => hE k (h3 k ho) hk, ⟨h2.1, fun i u l hu hl => (h2.2 i u l hu hl).fr hf fun k hk ho => hE k (h4 u (List.mem_of_getElem? hu) k ho) hk⟩, h3, h4⟩
theorem TextsAt.nil (w : World) (B : Nat) : TextsAt w B (.slice none 0 0) [] := ⟨[], Src.nil w 1, ⟨rfl, fun i v l h => by simp at h⟩, fun q hq => by simp [Value.ownBlock] at hq, fun u hu => by simp at hu⟩
theorem TextsRow.at_ {w : World} {B : Nat} {v : Value} {ls : List Txt} (h : TextsRow w B v ls) : TextsAt w B v ls := by
  obtain ⟨vs, h1, h2, h3, h4⟩ := h
  exact ⟨vs, h1.src, h2.src, h3, fun u hu => (h4 u hu).1⟩
theorem TextsRow.fr {w w' : World} {B : Nat} {v : Value} {ls : List Txt} (h : TextsRow w B v ls) (hf : Fr (fun _ => False) w w') : TextsRow w' B v ls := by
  obtain ⟨vs, h1, h2, h3, h4⟩ := h
  exact ⟨vs, h1.fr hf fun _ _ => id, h2.fr hf fun _ _ _ _ => id, h3, h4⟩

def Cab.sload (c : Cab) (n : Nat) : List Txt × Int :=
  if (c.read (segName n)).2 ≠ 0 then ([], (c.read (segName n)).2)
  else match scanF (c.read (segName n)).1 with
    | [] => ([], 2)
    | h :: t => if h = headT n then (t, 0) else ([], 2)
theorem read_le {B : Nat} {c : Cab} (ok : COk B c) (k : Txt) : (c.read k).1.length ≤ 1048576 := by
  obtain ⟨r, hs⟩ := ok
  unfold Cab.read
  simp only
  split
  · simp
  · unfold Cab.file
    rw [List.getD_eq_getElem?_getD]
    cases hg : c.files[(c.find k).1]? with
    | none => simp
    | some f => exact (hs.all f (List.mem_of_getElem? hg)).1
section
variable {w : World} {p : Nat} {D : Nat → Prop} {B : Nat} {c : Cab}
set_option maxRecDepth 100000 in
set_option maxHeartbeats 4000000 in
theorem sload_calls (h : CabAt w p c D) (ok : COk B c) (n : Nat) (hn : n < 18446744073709551616) :
    Calls Tryd.prog 30 #[.pointer (some ⟨p, 0, none⟩), .int .u64 n] w fun e w' => ∃ v, e = .returned (.tuple #[v, .int .i64 (c.sload n).2]) ∧ TextsAt w' w.heap.size v (c.sload n).1 ∧ Fr (fun _ => False) w w' := by
  have HN := Lib.hid (fun w => segname_calls n w hn)
  have HHD := Lib.hid (fun w => head_calls n w hn)
  have HR := Lib.hid (fun (w' : World) (hf : Fr (fun _ => False) w w') => readC (h.fr hf fun _ _ => id) ok (segName n) (segName_max n))
  have hle := read_le ok (segName n)
  unfold Cab.sload
  generalize (c.read (segName n)).1 = l at *
  generalize (c.read (segName n)).2 = q at *
  by_cases hq : q = 0
  · subst hq
    rw [if_neg (by omega)]
    have HS := Lib.hid (fun (V : Value) (w : World) (hV : BytesSrc w V l) => scan_calls V l w hV (by omega))
    cases hls : scanF l with
    | nil =>
      rw [hls] at HS
      clear h ok hls hle
      go_enter Tryd.func30, Tryd.ntmps30
      go_wp2_with fail
      refine (HN.out _).mono ?_
      rintro e w1 ⟨rfl, f1⟩
      have F1 := Lib.hid f1
      clear f1
      go_wp2_with fail
      refine (HR.out _ F1.out).mono ?_
      rintro e w2 ⟨v2, rfl, hb2, hq2, f2⟩
      have F2 := Lib.hid (F1.out.trans f2 fun _ h => h.elim)
      have HB2 := Lib.hid hb2
      clear hb2 hq2 f2
      go_wp2_with fail
      refine (HS.out _ _ HB2.out.src).mono ?_
      rintro e w3 ⟨v3, k3, rfl, ht3, f3⟩
      have F3 := Lib.hid (F2.out.trans f3 fun _ h => h.elim)
      obtain ⟨vs, hr, -, -, -⟩ := ht3
      obtain ⟨A3, c3, rfl, -, -⟩ := hr.shape
      clear hr f3
      go_wp2_with fail
      go_quiet (fail)
      go_wp2_with fail
      go_ret2
      exact ⟨_, rfl, TextsAt.nil _ _, F3.out.drewN _⟩
    | cons hd tl =>
      rw [hls] at HS
      clear h ok hls hle
      simp only
      by_cases hhd : hd = headT n
      · rw [if_pos hhd]
        have hdec : decide (hd = headT n) = true := by rw [decide_eq_true_iff]; exact hhd
        clear hhd
        go_enter Tryd.func30, Tryd.ntmps30
        go_wp2_with fail
        refine (HN.out _).mono ?_
        rintro e w1 ⟨rfl, f1⟩
        have F1 := Lib.hid f1
        clear f1
        go_wp2_with fail
        refine (HR.out _ F1.out).mono ?_
        rintro e w2 ⟨v2, rfl, hb2, hq2, f2⟩
        have F2 := Lib.hid (F1.out.trans f2 fun _ h => h.elim)
        have HB2 := Lib.hid hb2
        clear hb2 hq2 f2
        go_wp2_with fail
        refine (HS.out _ _ HB2.out.src).mono ?_
        rintro e w3 ⟨v3, k3, rfl, ht3, f3⟩
        have F3 := Lib.hid (F2.out.trans f3 fun _ h => h.elim)
        clear f3
        have HT := Lib.hid ht3
        obtain ⟨vs, hr, htb, hown, -⟩ := ht3
        obtain ⟨g3, c3, rfl, hc1, hc2, hcell, -, hg3⟩ := hr.form (by simp)
        obtain ⟨u0, hu0⟩ : ∃ u, vs[0]? = some u := ⟨_, List.getElem?_eq_getElem (by rw [htb.1]; simp)⟩
        have hb0 := htb.2 0 u0 hd hu0 rfl
        have c0 := hcell 0 u0 hu0
        have HB0 := Lib.hid hb0
        have hb0' := HB0.out
        simp only [List.length_cons] at hc1
        simp only [maxLen] at hc2
        clear hr htb hown hcell hu0 hb0
        obtain ⟨A0, k0, rfl, -, -⟩ := hb0'.shape
        clear hb0'
        go_wp2_with fail
        go_region_held3 (fun w' => w'.cell? ⟨g3, 0, none⟩ = some (.slice A0 hd.length k0)) (first | go_keep | exact f5.cell (f4.undrew.cell c0 id) id | exact f4.undrew.cell c0 id) ((first
          | (go_at_call 56; refine (HHD.out _).mono ?_; rintro e w4 ⟨v4, rfl, hb4, hq4, f4⟩)
          | (go_at_call 61; refine (equalb_calls (.slice A0 hd.length k0) v4 hd (headT n) _ (HB0.out.fr f4.undrew fun _ _ => id).src hb4.src).mono ?_; rintro e w5 ⟨rfl, f5⟩)))
        have F5 := Lib.hid ((F3.out.trans f4.undrew fun _ h => h.elim).trans f5 fun _ h => h.elim)
        have F35 := Lib.hid (f4.undrew.trans f5 fun _ h => h.elim)
        clear hb4 hq4 f4 f5
        obtain ⟨vs, hr, htb, hown, hu⟩ := (HT.out.fr F35.out)
        have hrs := hr.src
        by_cases hc1' : c3 = 1
        · have htl : tl = [] := List.eq_nil_of_length_eq_zero (by omega)
          subst htl hc1'
          have HR := Lib.hid hown
          clear hr htb hown hu hrs
          go_wp2_with fail
          go_ret2
          exact ⟨_, rfl, ⟨[], ⟨rfl, some ⟨g3, 0, none⟩, 0, rfl, Nat.le_refl _, Nat.zero_le _, (fun h => nomatch h), fun a _ j u hu => by simp at hu⟩, ⟨rfl, fun i v l h => by simp at h⟩, fun q hq => Nat.le_trans F2.out.size (HR.out q hq), fun u hu => by simp at hu⟩, F5.out⟩
        · have hpt := Src.part hrs 1 tl.length (by simp; omega) ⟨g3, 1, none⟩ (c3 - 1) (.inl rfl) ⟨by omega, by simp only [maxLen]; omega⟩
          have HPT := Lib.hid hpt
          have HTB := Lib.hid htb
          have HO := Lib.hid hown
          have HU := Lib.hid hu
          clear hr htb hown hu hrs hpt
          go_wp2_with fail
          go_ret2
          have h26 := F2.out.size
          refine ⟨_, rfl, ⟨vs.drop 1, ?_, ⟨by rw [List.length_drop, HTB.out.1]; simp, fun i v l h1 h2 => ?_⟩, fun q hq => Nat.le_trans h26 (HO.out q hq), fun u hu q hq => Nat.le_trans h26 ((HU.out u (List.mem_of_mem_drop hu)).1 q hq)⟩, F5.out⟩
          · have := HPT.out
            rwa [List.take_of_length_le (by rw [List.length_drop, HTB.out.1]; simp)] at this
          · rw [List.getElem?_drop] at h1
            exact (HTB.out.2 (1 + i) v l h1 (by rw [Nat.add_comm, List.getElem?_cons_succ]; exact h2)).src
      · rw [if_neg hhd]
        have hdec : decide (hd = headT n) = false := by rw [decide_eq_false_iff_not]; exact hhd
        clear hhd
        go_enter Tryd.func30, Tryd.ntmps30
        go_wp2_with fail
        refine (HN.out _).mono ?_
        rintro e w1 ⟨rfl, f1⟩
        have F1 := Lib.hid f1
        clear f1
        go_wp2_with fail
        refine (HR.out _ F1.out).mono ?_
        rintro e w2 ⟨v2, rfl, hb2, hq2, f2⟩
        have F2 := Lib.hid (F1.out.trans f2 fun _ h => h.elim)
        have HB2 := Lib.hid hb2
        clear hb2 hq2 f2
        go_wp2_with fail
        refine (HS.out _ _ HB2.out.src).mono ?_
        rintro e w3 ⟨v3, k3, rfl, ht3, f3⟩
        have F3 := Lib.hid (F2.out.trans f3 fun _ h => h.elim)
        clear f3
        have HT := Lib.hid ht3
        obtain ⟨vs, hr, htb, hown, -⟩ := ht3
        obtain ⟨g3, c3, rfl, hc1, hc2, hcell, -, hg3⟩ := hr.form (by simp)
        obtain ⟨u0, hu0⟩ : ∃ u, vs[0]? = some u := ⟨_, List.getElem?_eq_getElem (by rw [htb.1]; simp)⟩
        have hb0 := htb.2 0 u0 hd hu0 rfl
        have c0 := hcell 0 u0 hu0
        have HB0 := Lib.hid hb0
        have hb0' := HB0.out
        simp only [List.length_cons] at hc1
        simp only [maxLen] at hc2
        clear hr htb hown hcell hu0 hb0
        obtain ⟨A0, k0, rfl, -, -⟩ := hb0'.shape
        clear hb0'
        go_wp2_with fail
        go_region_held3 (fun w' => w'.cell? ⟨g3, 0, none⟩ = some (.slice A0 hd.length k0)) (first | go_keep | exact f5.cell (f4.undrew.cell c0 id) id | exact f4.undrew.cell c0 id) ((first
          | (go_at_call 56; refine (HHD.out _).mono ?_; rintro e w4 ⟨v4, rfl, hb4, hq4, f4⟩)
          | (go_at_call 61; refine (equalb_calls (.slice A0 hd.length k0) v4 hd (headT n) _ (HB0.out.fr f4.undrew fun _ _ => id).src hb4.src).mono ?_; rintro e w5 ⟨rfl, f5⟩)))
        have F5 := Lib.hid ((F3.out.trans f4.undrew fun _ h => h.elim).trans f5 fun _ h => h.elim)
        have F35 := Lib.hid (f4.undrew.trans f5 fun _ h => h.elim)
        clear hb4 hq4 f4 f5
        go_wp2_with fail
        go_ret2
        exact ⟨_, rfl, TextsAt.nil _ _, F5.out⟩
  · rw [if_pos (by omega)]
    clear h ok hle
    go_enter Tryd.func30, Tryd.ntmps30
    go_wp2_with fail
    refine (HN.out _).mono ?_
    rintro e w1 ⟨rfl, f1⟩
    have F1 := Lib.hid f1
    clear f1
    go_wp2_with fail
    refine (HR.out _ F1.out).mono ?_
    rintro e w2 ⟨v2, rfl, hb2, hq2, f2⟩
    have F2 := Lib.hid (F1.out.trans f2 fun _ h => h.elim)
    clear hb2 hq2 f2
    go_wp2_with fail
    go_ret2
    exact ⟨_, rfl, TextsAt.nil _ _, F2.out⟩
end
end Chart

/- Frames, read again; a segment's file behind appends. Plain data. -/
namespace Chart

theorem getN_be (k : Nat) : ∀ (x n : Nat), getN x (be k n) = x * 256 ^ k + n % 256 ^ k := by
  induction k with
  | zero => intro x n; simp [be, getN, Nat.mod_one]
  | succ k ih =>
    intro x n
    simp only [be, getN]
    have h1 : n / 256 ^ k % 256 % 2 ^ 8 = n / 256 ^ k % 256 := Nat.mod_eq_of_lt (by omega)
    have h2 := Nat.mod_mul (a := 256 ^ k) (b := 256) (x := n)
    rw [ih, UInt8.toNat_ofNat', h1, Nat.pow_succ 256 k, h2, Nat.add_mul, Nat.mul_assoc, Nat.mul_comm 256 (256 ^ k), Nat.mul_comm (n / 256 ^ k % 256)]
    omega
theorem firstF_frame (b rest : Txt) (h : b.length ≤ 16384) : firstF (frameT b ++ rest) = (b, 8 + b.length, 0) := by
  have e1 : (frameT b ++ rest).take 4 = be 4 b.length := by
    unfold frameT
    rw [List.append_assoc]
    exact List.take_left' (be_length 4 _)
  have e2 : ((frameT b ++ rest).drop 4).take 4 = be 4 (crcSum b) := by
    unfold frameT
    rw [List.append_assoc, List.drop_left' (be_length 4 _), List.append_assoc]
    exact List.take_left' (be_length 4 _)
  have e3 : ((frameT b ++ rest).drop 8).take b.length = b := by
    unfold frameT
    rw [List.append_assoc, show (8 : Nat) = 4 + 4 from rfl, ← List.drop_drop, List.drop_left' (be_length 4 _), List.append_assoc, List.drop_left' (be_length 4 _)]
    exact List.take_left' rfl
  have h4 : getN 0 (be 4 b.length) = b.length := by
    rw [getN_be, Nat.zero_mul, Nat.zero_add]
    exact Nat.mod_eq_of_lt (by omega)
  have h5 : getN 0 (be 4 (crcSum b)) = crcSum b := by
    rw [getN_be, Nat.zero_mul, Nat.zero_add]
    exact Nat.mod_eq_of_lt (crcSum_lt b)
  have hlen : (frameT b ++ rest).length = b.length + 8 + rest.length := by rw [List.length_append, frameT_length]
  unfold firstF
  rw [e1, e2, h4, h5, e3, hlen, if_neg (by omega), if_neg (by omega), if_neg (by omega), if_neg (by simp)]
theorem scanF_frame (b rest : Txt) (h : b.length ≤ 16384) : scanF (frameT b ++ rest) = b :: scanF rest := by
  have h1 := firstF_frame b rest h
  rw [scanF_ok (by rw [h1]), h1]
  have e : (frameT b ++ rest).drop (8 + b.length) = rest := List.drop_left' (by rw [frameT_length]; omega)
  show b :: scanF ((frameT b ++ rest).drop (8 + b.length)) = _
  rw [e]
def frames (bs : List Txt) : Txt := (bs.map frameT).flatten
theorem frames_snoc (bs : List Txt) (b : Txt) : frames (bs ++ [b]) = frames bs ++ frameT b := by simp [frames]
theorem scanF_frames (bs : List Txt) (rest : Txt) (h : ∀ b ∈ bs, b.length ≤ 16384) : scanF (frames bs ++ rest) = bs ++ scanF rest := by
  induction bs with
  | nil => rfl
  | cons b t ih =>
    have e : frames (b :: t) ++ rest = frameT b ++ (frames t ++ rest) := by simp [frames]
    rw [e, scanF_frame b _ (h b (by simp)), ih fun x hx => h x (by simp [hx])]
    rfl
theorem scanF_nil : scanF [] = [] := scanF_no (by simp [firstF])
theorem scanF_all (bs : List Txt) (h : ∀ b ∈ bs, b.length ≤ 16384) : scanF (frames bs) = bs := by
  have := scanF_frames bs [] h
  rwa [List.append_nil, scanF_nil, List.append_nil] at this

/-! ### One file in a cabinet -/
theorem ranked_name (k : Nat) (h : k < 32) : Cab.nameByte (ranked k) = true := by
  have : ∀ d : Fin 32, Cab.nameByte (ranked d) = true := by decide
  exact this ⟨k, h⟩
theorem digits_name (k n : Nat) : (digits k n).all Cab.nameByte = true := by
  induction k with
  | zero => rfl
  | succ k ih =>
    simp only [digits, List.all_cons, ih, Bool.and_true]
    exact ranked_name _ (Nat.mod_lt _ (by decide))
theorem segName_ok (n : Nat) : Cab.nameOk (segName n) = true := by
  unfold Cab.nameOk
  rw [segName_length]
  have : (segName n).all Cab.nameByte = true := by
    simp only [segName, List.all_cons]
    rw [show Cab.nameByte 106 = true by decide, show (numberT n).all Cab.nameByte = true from digits_name 13 n]
    rfl
  rw [this]
  rfl

theorem append_ok {c c' : Cab} {k b : Txt} {n : Nat} (hf : c.find k = (n, 0)) (h1 : ¬ (b.length : Int) > 1048576 - ((c.file n).all.length : Int)) (h2 : ¬ (b.length : Int) > c.quota - (c.used : Int)) (h3 : c.spend = (c', 0)) :
    c.append k b = (c'.setFile n { c'.file n with all := (c'.file n).all ++ b }, 0) := by
  unfold Cab.append
  rw [hf]
  simp only [ne_eq, not_true_eq_false, if_false]
  rw [if_neg h1, if_neg h2, h3]
  simp
theorem sync_ok {c c' : Cab} {k : Txt} {n : Nat} (hf : c.find k = (n, 0)) (h3 : c.spend = (c', 0)) :
    c.sync k = (c'.setFile n { c'.file n with sure := (c'.file n).all.length }, 0) := by
  unfold Cab.sync
  rw [hf]
  simp only [ne_eq, not_true_eq_false, if_false]
  rw [h3]
  simp
theorem spend_never {c : Cab} (h : c.after = -1) : c.spend = (c, 0) := by
  unfold Cab.spend
  rw [h]
  simp
/-- A cabinet with one file that lasts. -/
def oneCab (q : Int) (k : Txt) (T : Txt) : Cab := { quota := q, files := [⟨T, T.length⟩], now := [(k, 0)], sure := [(k, 0)] }
theorem one_find (q : Int) (k T : Txt) : (oneCab q k T).find k = (0, 0) := by simp [oneCab, Cab.find, Folder.get?]
theorem one_read (q : Int) (k T : Txt) : (oneCab q k T).read k = (T, 0) := by
  unfold Cab.read
  rw [one_find]
  rfl
theorem one_swrite (q : Int) (n : Nat) (T b : Txt) (hb : b.length ≤ 16384) (h1 : T.length + b.length + 8 ≤ 1048576) (h2 : ((T.length + b.length + 8 : Nat) : Int) ≤ q) :
    (oneCab q (segName n) T).swrite n b = (oneCab q (segName n) (T ++ frameT b), 0) := by
  have hu : (oneCab q (segName n) T).used = T.length := by simp [oneCab, Cab.used]
  have hfl := frameT_length b
  have ha := append_ok (b := frameT b) (one_find q (segName n) T) (by show ¬ ((frameT b).length : Int) > 1048576 - (T.length : Int); omega) (by rw [hu]; show ¬ ((frameT b).length : Int) > q - (T.length : Int); omega) (spend_never rfl)
  have e1 : (oneCab q (segName n) T).setFile 0 { (oneCab q (segName n) T).file 0 with all := ((oneCab q (segName n) T).file 0).all ++ frameT b } = { oneCab q (segName n) T with files := [⟨T ++ frameT b, T.length⟩] } := rfl
  rw [e1] at ha
  have hs := sync_ok (c := { oneCab q (segName n) T with files := [⟨T ++ frameT b, T.length⟩] }) (k := segName n) (n := 0) (by simp [oneCab, Cab.find, Folder.get?]) (spend_never rfl)
  unfold Cab.swrite
  rw [if_neg (by omega), ha]
  simp only [ne_eq, not_true_eq_false, if_false]
  rw [hs]
  rfl
theorem headT_le (n : Nat) : (headT n).length ≤ 16384 := by rw [headT_length]; decide
theorem new_screate (q : Int) (n : Nat) (hq : 23 ≤ q) : (Cab.new q).screate n = (oneCab q (segName n) (frameT (headT n)), 0) := by
  have hc : (Cab.new q).create (segName n) = ({ quota := q, files := [⟨[], 0⟩], now := [(segName n, 0)], waiting := [⟨0, [], segName n, 0⟩] }, 0) := by
    unfold Cab.create
    rw [segName_ok]
    simp [Cab.new, Cab.spend, Cab.rename, Folder.get?, Folder.apply, Folder.put, Folder.del, Folder.ins]
  have hfl := frameT_length (headT n)
  have hhl := headT_length n
  have hf : Cab.find { quota := q, files := [⟨[], 0⟩], now := [(segName n, 0)], waiting := [⟨0, [], segName n, 0⟩] } (segName n) = (0, 0) := by simp [Cab.find, Folder.get?]
  have ha := append_ok (b := frameT (headT n)) hf (by show ¬ ((frameT (headT n)).length : Int) > 1048576 - (0 : Nat); omega) (by show ¬ ((frameT (headT n)).length : Int) > q - (0 : Nat); omega) (spend_never rfl)
  have hs := sync_ok (c := { quota := q, files := [⟨frameT (headT n), 0⟩], now := [(segName n, 0)], waiting := [⟨0, [], segName n, 0⟩] }) (k := segName n) (n := 0) (by simp [Cab.find, Folder.get?]) (spend_never rfl)
  have hw : Cab.swrite { quota := q, files := [⟨[], 0⟩], now := [(segName n, 0)], waiting := [⟨0, [], segName n, 0⟩] } n (headT n) = ({ quota := q, files := [⟨frameT (headT n), (frameT (headT n)).length⟩], now := [(segName n, 0)], waiting := [⟨0, [], segName n, 0⟩] }, 0) := by
    unfold Cab.swrite
    rw [if_neg (by omega), ha]
    simp only [ne_eq, not_true_eq_false, if_false]
    exact hs
  unfold Cab.screate
  rw [hc]
  simp only [ne_eq, not_true_eq_false, if_false]
  rw [hw]
  simp [oneCab, Cab.spend, Cab.turn, Cab.settle, Cab.forget, Folder.vals]
end Chart

/- The document's check sum and frames. -/
namespace Chart
open Go Go.RowKit Go.Proofs

theorem bit_tm (b j : Nat) : ((b : Int) / 2 ^ j).tmod 2 = ((b / 2 ^ j % 2 : Nat) : Int) := by
  have e : ((b : Int) / 2 ^ j) = ((b / 2 ^ j : Nat) : Int) := by
    rw [Int.natCast_ediv]
    norm_cast
  rw [e, Int.tmod_eq_emod_of_nonneg (Int.natCast_nonneg _)]
  norm_cast
theorem bit_f {m n : Nat} {x y : Int} (hx : x = (m : Int)) (hy : y = (n : Int)) (h : m = n) : (x != y) = false := by
  rw [hx, hy, h]
  simp
theorem bit_t {m n : Nat} {x y : Int} (hx : x = (m : Int)) (hy : y = (n : Int)) (h : ¬ m = n) : (x != y) = true := by
  rw [hx, hy]
  simp
  omega
theorem two_cast (n : Nat) : (n : Int) % 2 = ((n % 2 : Nat) : Int) := by norm_cast
theorem half_cast (n : Nat) : (n : Int) / 2 = ((n / 2 : Nat) : Int) := by norm_cast
def refBits (r b : Nat) : Nat → Nat
  | 0 => r
  | j + 1 => if b / 2 ^ j % 2 ≠ refBits r b j % 2 then (refBits r b j / 2) ^^^ 2197175160 else refBits r b j / 2
theorem refBits_eq (r b : Nat) : ∀ j, crcBits j (r ^^^ b) = refBits r b j ^^^ (b / 2 ^ j)
  | 0 => by simp [crcBits, refBits]
  | j + 1 => by
    have ih := refBits_eq r b j
    have e2 : b / 2 ^ (j + 1) = b / 2 ^ j / 2 := by rw [Nat.pow_succ, Nat.div_div_eq_div_mul]
    rw [crcBits, ih, refBits, e2]
    generalize refBits r b j = X
    generalize b / 2 ^ j = y
    unfold crcBit
    have hm := @Nat.xor_mod_two_pow X y 1
    simp only [Nat.pow_one] at hm
    rw [hm, Nat.xor_div_two]
    have hx : X % 2 = 0 ∨ X % 2 = 1 := by omega
    have hy : y % 2 = 0 ∨ y % 2 = 1 := by omega
    rcases hx with hx | hx <;> rcases hy with hy | hy <;> rw [hx, hy]
    · rfl
    · rw [if_pos (by decide), if_pos (by decide), Nat.xor_assoc, Nat.xor_assoc, Nat.xor_comm (y / 2)]
    · rw [if_pos (by decide), if_pos (by decide), Nat.xor_assoc, Nat.xor_assoc, Nat.xor_comm (y / 2)]
    · rfl
theorem refBits_step (r : Nat) (b : UInt8) : refBits r b.toNat 8 = crcStep (r ^^^ b.toNat) := by
  have h := refBits_eq r b.toNat 8
  have hb := UInt8.toNat_lt b
  rw [Nat.div_eq_of_lt (by omega), Nat.xor_zero] at h
  exact h.symm
theorem refBits_lt {r b : Nat} (h : r < 4294967296) : ∀ j, refBits r b j < 4294967296
  | 0 => h
  | j + 1 => by
    have := refBits_lt (b := b) h j
    unfold refBits
    split
    · exact Nat.xor_lt_two_pow (n := 32) (by omega) (by decide)
    · omega
theorem notU_zero : notU 0 = 4294967295 := by decide
theorem not_comm (x : Nat) (h : x < 4294967296) : bits BinOp.xor IntKind.u32 (x : Int) 4294967295 = ((notU x : Nat) : Int) := by
  have h1 := u32_xor_nat x 4294967295 h (by decide)
  rw [Nat.xor_comm] at h1
  exact h1
theorem crcSum_eq (l : Txt) : bits BinOp.xor IntKind.u32 ((crcFrom 4294967295 l : Nat) : Int) 4294967295 = ((crcSum l : Nat) : Int) := by
  have hl := crcFrom_lt (r := 4294967295) (by decide) l
  have e : crcSum l = notU (crcFrom (notU 0) l) := rfl
  rw [e, notU_zero]
  exact not_comm _ hl
set_option maxRecDepth 100000 in
set_option maxHeartbeats 2000000 in
theorem refsum_calls (V : Value) (l : Txt) (w : World) (Bv : Value) (hV : Src w 1 V 1 [Bv]) (hB : BytesSrc w Bv l) :
    Calls Tryd.prog 58 #[V] w fun e w' => e = .returned (.int .u32 (crcSum l : Nat)) ∧ w = w' := by
  obtain ⟨-, A, cp, rfl, hvc, hcm, hA, hcell⟩ := id hV
  obtain ⟨a, rfl⟩ : ∃ a, A = some a := by
    cases A with
    | none => have := (hA rfl).1; omega
    | some a => exact ⟨a, rfl⟩
  have hcm2 : cp ≤ 9223372036854775807 := by simp only [maxLen] at hcm; omega
  obtain ⟨-, BA, Bc, rfl, hb1, hb2, hBA, hbc⟩ := id hB
  have hbm : Bc ≤ 9223372036854775807 := by simp only [maxLen] at hb2; omega
  have c0 := hcell a rfl 0 _ rfl
  rw [show a.add 0 = a from rfl] at c0
  have HBC := Lib.hid hbc
  have HBA := Lib.hid hBA
  clear hV hcell hA hB hbc hBA
  go_enter Tryd.func58, Tryd.ntmps58
  go_wp2
  go_loop [4, 5] (fun u i => (i = .int .i64 0 ∧ u = .int .u32 4294967295) ∨ (i = .int .i64 1 ∧ u = .int .u32 (crcFrom 4294967295 l : Nat))) (fun _ i => 1 - (RowKit.intOf i).toNat)
  case atStart => exact .inl ⟨rfl, rfl⟩
  case round =>
    rcases hrel with ⟨rfl, rfl⟩ | ⟨rfl, rfl⟩
    · go_wp2
      go_loop [4, 6] (fun u i => ∃ k : Nat, k ≤ l.length ∧ i = .int .i64 k ∧ u = .int .u32 (crcFrom 4294967295 (l.take k) : Nat)) (fun _ i => l.length - (RowKit.intOf i).toNat)
      case atStart => exact ⟨0, Nat.zero_le _, rfl, by rw [List.take_zero]; rfl⟩
      case round =>
        obtain ⟨k, hk, rfl, rfl⟩ := hrel
        have hxl := crcFrom_lt (r := 4294967295) (by decide) (l.take k)
        by_cases hlt : k < l.length
        · obtain ⟨b, hb⟩ : ∃ b, l[k]? = some b := ⟨_, List.getElem?_eq_getElem hlt⟩
          obtain ⟨ba, rfl⟩ : ∃ a, BA = some a := by
            cases BA with
            | none => have := (HBA.out rfl).1; omega
            | some a => exact ⟨a, rfl⟩
          have c1 := HBC.out ba rfl k (bv b) (by unfold bytesV; rw [List.getElem?_map, hb]; rfl)
          have hs := crcFrom_snoc 4294967295 l k b hb
          have hbl := UInt8.toNat_lt b
          unfold bv at c1
          rw [← refBits_step] at hs
          have HS := Lib.hid hs
          generalize crcFrom 4294967295 (l.take k) = x at *
          clear hb hs
          go_wp2
          go_loop [4, 7] (fun u i => ∃ j : Nat, j ≤ 8 ∧ i = .int .i64 j ∧ u = .int .u32 (refBits x b.toNat j : Nat)) (fun _ i => 8 - (RowKit.intOf i).toNat)
          case atStart => exact ⟨0, Nat.zero_le _, rfl, rfl⟩
          case round =>
            obtain ⟨j, hj, rfl, rfl⟩ := hrel
            have hyl := refBits_lt (b := b.toNat) hxl j
            by_cases hj8 : j < 8
            · have hst : refBits x b.toNat (j + 1) = if b.toNat / 2 ^ j % 2 ≠ refBits x b.toNat j % 2 then (refBits x b.toNat j / 2) ^^^ 2197175160 else refBits x b.toNat j / 2 := rfl
              have htm := bit_tm b.toNat j
              have htc := two_cast (refBits x b.toNat j)
              have hhc := half_cast (refBits x b.toNat j)
              have hxr := u32_xor_nat (refBits x b.toNat j / 2) 2197175160 (by omega) (by decide)
              rw [← hhc] at hxr
              have HXR := Lib.hid hxr
              have HHC := Lib.hid hhc
              clear hxr hhc
              by_cases hbit : b.toNat / 2 ^ j % 2 = refBits x b.toNat j % 2
              · have hbt := bit_f htm htc hbit
                rw [if_neg (fun h => h hbit)] at hst
                have HST := Lib.hid hst
                clear htm hst hbit htc
                generalize b.toNat / 2 ^ j = zz at *
                go_wp2
                refine ⟨⟨j + 1, by omega, by go_num, ?_⟩, by simp [RowKit.intOf]; omega⟩
                rw [HST.out, HHC.out]
              · have hbt := bit_t htm htc hbit
                rw [if_pos hbit] at hst
                have HST := Lib.hid hst
                clear htm hst hbit htc
                go_wp2
                refine ⟨⟨j + 1, by omega, by go_num, ?_⟩, by simp [RowKit.intOf]; omega⟩
                rw [HST.out]
                exact congrArg (Value.int .u32) HXR.out
            · obtain rfl : j = 8 := by omega
              go_wp2
              refine ⟨⟨k + 1, by omega, by go_num, by rw [HS.out]⟩, by simp [RowKit.intOf]; omega⟩
        · obtain rfl : k = l.length := by omega
          rw [List.take_length] at hxl ⊢
          go_wp2
          exact ⟨.inr ⟨rfl, rfl⟩, by decide⟩
    · have hxl := crcFrom_lt (r := 4294967295) (by decide) l
      have hx := crcSum_eq l
      go_wp2
      go_ret
      exact ⟨rfl, rfl⟩
end Chart
