import Derived.Test.YtophgamjhngppaaDoorZBE372490
import Derived.Laws.BitsAllLaws
import Derived.Test.YtophgamjhngppaaDoorZ0CA8B396
import Derived.Test.YtophgamjhngppaaDoorZAF9DBE2F
import Derived.Test.YtophgamjhngppaaDoorZ7F645C99
/- segment.head; slices.Grow of nothing, slices.Concat. -/
namespace Chart
open Go Go.RowKit Go.Proofs

/-- JOURNAL -/
def journalT : Txt := [74, 79, 85, 82, 78, 65, 76]
def headT (n : Nat) : Txt := journalT ++ be 8 n
theorem headT_length (n : Nat) : (headT n).length = 15 := by simp [headT, journalT, be_length]
set_option maxRecDepth 100000 in
set_option maxHeartbeats 1000000 in
theorem head_calls (n : Nat) (w : World) (hn : n < 18446744073709551616) :
    Calls Tryd.prog 56 #[.int .u64 n] w fun e w' => ∃ v, e = .returned v ∧ Bytes w' v (headT n) ∧ (∀ q, v.ownBlock = some q → w.heap.size ≤ q) ∧ Fr (fun _ => False) w w' := by
  obtain ⟨i0, hi0, hz0, hz1, hz2⟩ := info_parts u8_info
  have kc := fun (w : World) (C : Array Value) (n c : Nat) => Lib.run_convert_bytes_const (P := Tryd.prog) w 35 5 C n c Tryd.underlying35 Tryd.underlying5
  have HP := Lib.hid (fun w => put8_calls n w hn)
  go_enter Tryd.func56, Tryd.ntmps56
  go_wp2_with (first
    | (go_at_call 83; refine (HP.out _).mono ?_; rintro e w1 ⟨v, rfl, hb, hq, f1⟩; have HB := Lib.hid hb; have HQ := Lib.hid hq; have HF := Lib.hid f1; have hsz := f1.size; clear hb hq f1)
    | (at_builtin; (refine wpList_append_full _ rfl (.tmp 11) (.tmp 12) 35 rfl 5 i0 _ 1 1 Tryd.underlying35 hi0 hz0 hz1 hz2 rfl (by decide) ⟨w1.heap.size, 0, none⟩ 7 7 (bytesV journalT) rfl ?c0 v 8 (bytesV (be 8 n)) rfl ?c1 (by omega) (by simp only [maxLen]; omega) (by omega) ?c2)))
  case c0 => exact Src.marked w1 5 _ _ 7 rfl (by decide)
  case c1 => exact (HB.out.alloc _).src
  case c2 =>
    intro v3 w3 hrow3 hfr3 hq3
    go_wp2
    go_ret
    refine ⟨_, rfl, ?_, fun q hq => ?_, (HF.out.alloc _).trans hfr3 fun _ h => h.elim⟩
    · unfold Bytes
      rw [headT_length]
      rw [← bytesV_append] at hrow3
      exact hrow3
    · have := hq3 q hq
      omega

set_option maxHeartbeats 1000000 in
theorem grow_calls (m : Nat) (w : World) (hm : m ≤ 140737488355328) :
    Calls Tryd.prog 123 #[.slice none 0 0, .int .i64 m] w fun e w' => ∃ v, e = .returned v ∧ Bytes w' v [] ∧ (∀ q, v.ownBlock = some q → w.heap.size ≤ q) ∧ Fr (fun _ => False) w w' := by
  obtain ⟨i0, hi0, hz0, hz1, hz2⟩ := info_parts u8_info
  by_cases h0 : m = 0
  · subst h0
    go_enter Tryd.func123, Tryd.ntmps123
    go_wp2
    go_ret
    exact ⟨_, rfl, Row.nil _ _ _, fun q hq => by simp [Value.ownBlock] at hq, Fr.refl _ _⟩
  · have hm0 : 0 < m := by omega
    have hn0 : ¬ (m : Int) < 0 := by omega
    have hp0 : (0 : Int) < (m : Int) := by omega
    have hw64 : (m : Int) ≤ 9223372036854775807 := by omega
    go_enter Tryd.func123, Tryd.ntmps123
    go_wp2_with (at_builtin; refine wpList_append_zeros_nil _ rfl (.tmp 20) (.tmp 21) 35 3 rfl 5 i0 _ 1 1 Tryd.underlying35 Tryd.underlying3 hi0 hz0 hz1 hz2 rfl (by decide) (by decide) .i64 m hm0 (by omega) rfl rfl ?c2)
    case c2 =>
      intro v3 w3 hrow3 hfr3 hq3
      obtain ⟨A, c, rfl, hh⟩ := hrow3.head
      have HH := Lib.hid hh
      clear hrow3 hh
      go_wp2
      go_ret
      exact ⟨.slice A 0 c, rfl, HH.out, fun q hq => by have h9 := hq3.symm.trans (show (Value.slice A m c).ownBlock = some q by cases A <;> simp_all [Value.ownBlock]); injection h9 with h9; omega, hfr3⟩

/-- Texts that a slice of slices leads to. -/
def Texts (w : World) (vs : List Value) (ls : List Txt) : Prop := vs.length = ls.length ∧ ∀ (i : Nat) (v : Value) (l : Txt), vs[i]? = some v → ls[i]? = some l → BytesSrc w v l
theorem Texts.fr {w w' : World} {vs : List Value} {ls : List Txt} (h : Texts w vs ls) (hf : Fr (fun _ => False) w w') : Texts w' vs ls := ⟨h.1, fun i v l h1 h2 => (h.2 i v l h1 h2).fr hf fun _ _ _ => id⟩
def lenTo (ls : List Txt) (k : Nat) : Nat := ((ls.take k).map List.length).sum
theorem lenTo_succ {ls : List Txt} {k : Nat} {l : Txt} (h : ls[k]? = some l) : lenTo ls (k + 1) = lenTo ls k + l.length := by
  unfold lenTo
  rw [List.take_add_one, h]
  simp
theorem lenTo_le (ls : List Txt) (k : Nat) : lenTo ls k ≤ (ls.map List.length).sum := by
  unfold lenTo
  rw [← List.take_append_drop k ls, List.map_append, List.sum_append]
  simp
theorem flat_succ {ls : List Txt} {k : Nat} {l : Txt} (h : ls[k]? = some l) : (ls.take (k + 1)).flatten = (ls.take k).flatten ++ l := by
  rw [List.take_add_one, h]
  simp
theorem flat_len (ls : List Txt) (k : Nat) : ((ls.take k).flatten).length = lenTo ls k := by
  unfold lenTo
  rw [List.length_flatten]
set_option maxRecDepth 100000 in
set_option maxHeartbeats 2000000 in
theorem concat_calls (V : Value) (vs : List Value) (ls : List Txt) (w : World) (hV : Src w 1 V vs.length vs) (ht : Texts w vs ls) (hn : vs.length ≤ 1000) (hl : (ls.map List.length).sum ≤ 140737488355328) :
    Calls Tryd.prog 103 #[V] w fun e w' => ∃ v, e = .returned v ∧ Bytes w' v ls.flatten ∧ (∀ q, v.ownBlock = some q → w.heap.size ≤ q) ∧ Fr (fun _ => False) w w' := by
  obtain ⟨i0, hi0, hz0, hz1, hz2⟩ := info_parts u8_info
  obtain ⟨-, A, cp, rfl, hvc, hcm, hA, hcell⟩ := id hV
  have hcm2 : cp ≤ 9223372036854775807 := by simp only [maxLen] at hcm; omega
  have HT := Lib.hid ht
  have HV := Lib.hid hV
  have hlen := ht.1
  have HLEN := Lib.hid hlen
  have HL := Lib.hid hl
  clear ht hV hlen hcell hA hl
  go_enter Tryd.func103, Tryd.ntmps103
  go_wp2
  go_loop [3, 11] (fun u i => ∃ k : Nat, k ≤ vs.length ∧ i = .int .i64 k ∧ u = .int .i64 (lenTo ls k : Nat)) (fun _ i => vs.length - (RowKit.intOf i).toNat)
  case atStart => exact ⟨0, Nat.zero_le _, rfl, rfl⟩
  case round =>
    obtain ⟨k, hk, rfl, rfl⟩ := hrel
    by_cases hlt : k < vs.length
    · obtain ⟨v, hv⟩ : ∃ v, vs[k]? = some v := ⟨_, List.getElem?_eq_getElem hlt⟩
      obtain ⟨l, hl2⟩ : ∃ l, ls[k]? = some l := ⟨_, List.getElem?_eq_getElem (by have := HLEN.out; omega)⟩
      obtain ⟨-, BA, Bc, rfl, hb1, hb2, -, -⟩ := HT.out.2 k v l hv hl2
      simp only [maxLen] at hb2
      obtain ⟨-, A', cp', hvv, -, -, hA', hcell⟩ := HV.out
      injection hvv with e1 _ e3
      subst e1 e3
      obtain ⟨a, rfl⟩ : ∃ a, A = some a := by
        cases A with
        | none => have := (hA' rfl).1; omega
        | some a => exact ⟨a, rfl⟩
      have c0 := hcell a rfl k _ hv
      have hs := lenTo_succ hl2
      have hle := lenTo_le ls (k + 1)
      have hl := HL.out
      have hs2 : lenTo ls k + l.length ≤ 140737488355328 := by omega
      have hneg : ¬ ((lenTo ls k : Nat) : Int) + (l.length : Int) < 0 := by omega
      have HS := Lib.hid hs
      clear hs hle hcell hA' hv hl2 hl
      go_wp2
      refine ⟨⟨k + 1, by omega, by go_num, ?_⟩, by simp [RowKit.intOf]; omega⟩
      rw [HS.out]
      go_num
    · obtain rfl : k = vs.length := by omega
      have htot : lenTo ls vs.length = ls.flatten.length := by
        rw [HLEN.out, ← flat_len, List.take_length]
      have htl : lenTo ls vs.length ≤ 140737488355328 := Nat.le_trans (lenTo_le ls vs.length) HL.out
      have HTOT := Lib.hid htot
      clear htot
      have HG := Lib.hid (fun w => grow_calls (lenTo ls vs.length) w (by omega))
      go_wp2_with (go_at_call 123; refine (HG.out _).mono ?_; rintro e w1 ⟨v0, rfl, hb, hq, f1⟩)
      have HB := Lib.hid hb
      have HQ := Lib.hid hq
      clear hb hq
      go_loopw [6, 27] (fun o i wr => ∃ k : Nat, k ≤ vs.length ∧ i = .int .i64 k ∧ Bytes wr o (ls.take k).flatten ∧ (∀ q, o.ownBlock = some q → w.heap.size ≤ q) ∧ Fr (fun _ => False) w wr) (fun _ i _ => vs.length - (RowKit.intOf i).toNat)
      case atStart => exact ⟨0, Nat.zero_le _, rfl, by simpa using HB.out, HQ.out, f1⟩
      case round =>
        obtain ⟨k, hk, rfl, hrow, hown, hfr⟩ := hrel
        by_cases hlt : k < vs.length
        · obtain ⟨v, hv⟩ : ∃ v, vs[k]? = some v := ⟨_, List.getElem?_eq_getElem hlt⟩
          obtain ⟨l, hl2⟩ : ∃ l, ls[k]? = some l := ⟨_, List.getElem?_eq_getElem (by have := HLEN.out; omega)⟩
          have hsrc := (HT.out.fr hfr).2 k v l hv hl2
          obtain ⟨-, A', cp', hvv, -, -, hA', hcell⟩ := HV.out
          injection hvv with e1 _ e3
          subst e1 e3
          obtain ⟨a, rfl⟩ : ∃ a, A = some a := by
            cases A with
            | none => have := (hA' rfl).1; omega
            | some a => exact ⟨a, rfl⟩
          have c0 := hfr.cell (hcell a rfl k _ hv) id
          have hs := lenTo_succ hl2
          have hle := lenTo_le ls (k + 1)
          have hfl := flat_succ hl2
          have hll := flat_len ls k
          have hb1 : (ls.take k).flatten.length + l.length ≤ 140737488355328 := by have := HL.out; omega
          have HF := Lib.hid hfl
          have HO := Lib.hid hown
          have HR := Lib.hid hrow
          have HS := Lib.hid hsrc
          clear hs hle hcell hA' hv hl2 hfl hll hown hrow hsrc
          go_wp2_with (at_builtin; refine wpList_append_row _ rfl (.tmp 31) (.tmp 32) 35 rfl 5 i0 _ 1 1 Tryd.underlying35 hi0 hz0 hz1 hz2 rfl (by decide) u6 _ _ rfl HR.out _ _ _ rfl HS.out (bytesV_one l) (by simp only [maxLen]; omega) (by omega) ?_; intro v3 w3 hrow3 hfr3 hwh3)
          refine ⟨⟨k + 1, by omega, by go_num, ?_, ?_, hfr.trans hfr3 fun q hq => .inr (HO.out q hq)⟩, by simp [RowKit.intOf]; omega⟩
          · rw [HF.out]
            unfold Bytes
            rw [List.length_append, bytesV_append]
            exact hrow3
          · intro q hq
            rcases hwh3 with h | h
            · exact HO.out q (h ▸ hq)
            · rw [h] at hq
              injection hq with hq
              have := hfr.size
              omega
        · obtain rfl : k = vs.length := by omega
          go_wp2
          go_ret
          refine ⟨_, rfl, ?_, hown, hfr⟩
          rw [HLEN.out, List.take_length] at hrow
          exact hrow
end Chart

/- crc.step, crc.More, crc.Sum. -/
namespace Chart
open Go Go.RowKit Go.Proofs

/-- One bit further. -/
def crcBit (r : Nat) : Nat := if r % 2 = 1 then (r / 2) ^^^ 2197175160 else r / 2
def crcBits : Nat → Nat → Nat
  | 0, r => r
  | k + 1, r => crcBit (crcBits k r)
def crcStep (r : Nat) : Nat := crcBits 8 r
theorem crcBit_lt {r : Nat} (h : r < 4294967296) : crcBit r < 4294967296 := by
  unfold crcBit
  split
  · exact Nat.xor_lt_two_pow (n := 32) (by omega) (by decide)
  · omega
theorem crcBits_lt {r : Nat} (h : r < 4294967296) : ∀ k, crcBits k r < 4294967296
  | 0 => h
  | k + 1 => crcBit_lt (crcBits_lt h k)
theorem crc_bit_eq (r : Nat) (h : r < 4294967296) : bits BinOp.xor IntKind.u32 ((r : Int) / 2) (bits BinOp.and IntKind.u32 2197175160 (-bits BinOp.and IntKind.u32 (r : Int) 1 % 4294967296)) = ((crcBit r : Nat) : Int) := by
  have h1 := u32_and_nat r 1 h (by decide)
  rw [nat_mask1] at h1
  have h1' : bits BinOp.and IntKind.u32 (r : Int) 1 = ((r % 2 : Nat) : Int) := h1
  rw [h1']
  unfold crcBit
  by_cases h2 : r % 2 = 1
  · rw [if_pos h2, h2]
    have h3 := u32_and_nat 2197175160 4294967295 (by decide) (by decide)
    have h3' : bits BinOp.and IntKind.u32 2197175160 (-((1 : Nat) : Int) % 4294967296) = ((2197175160 : Nat) : Int) := h3
    rw [h3']
    have h4 := u32_xor_nat (r / 2) 2197175160 (by omega) (by decide)
    rw [Int.natCast_ediv] at h4
    exact h4
  · have h0 : r % 2 = 0 := by omega
    rw [if_neg h2, h0]
    have h3 := u32_and_nat 2197175160 0 (by decide) (by decide)
    have h3' : bits BinOp.and IntKind.u32 2197175160 (-((0 : Nat) : Int) % 4294967296) = ((0 : Nat) : Int) := h3
    rw [h3']
    have h4 := u32_xor_nat (r / 2) 0 (by omega) (by decide)
    rw [Int.natCast_ediv, Nat.xor_zero] at h4
    rw [Int.natCast_ediv]
    exact h4
set_option maxHeartbeats 1000000 in
theorem crcstep_calls (r : Nat) (w : World) (hr : r < 4294967296) :
    Calls Tryd.prog 134 #[.int .u32 r] w fun e w' => e = .returned (.int .u32 (crcStep r : Nat)) ∧ w = w' := by
  go_enter Tryd.func134, Tryd.ntmps134
  go_wp2
  go_loop [0, 3] (fun u i => ∃ k : Nat, k ≤ 8 ∧ i = .int .i64 k ∧ u = .int .u32 (crcBits k r : Nat)) (fun _ i => 8 - (RowKit.intOf i).toNat)
  case atStart => exact ⟨0, Nat.zero_le _, rfl, rfl⟩
  case round =>
    obtain ⟨k, hk, rfl, rfl⟩ := hrel
    have hlt2 := crcBits_lt hr k
    by_cases hlt : k < 8
    · go_wp2
      refine ⟨⟨k + 1, by omega, by go_num, ?_⟩, by simp [RowKit.intOf]; omega⟩
      rw [crc_bit_eq _ hlt2]
      rfl
    · obtain rfl : k = 8 := by omega
      go_wp2
      go_ret
      exact ⟨rfl, rfl⟩
def notU (r : Nat) : Nat := 4294967295 ^^^ r
theorem notU_lt {r : Nat} (h : r < 4294967296) : notU r < 4294967296 := Nat.xor_lt_two_pow (n := 32) (by decide) h
theorem not_eq (r : Nat) (h : r < 4294967296) : bits BinOp.xor IntKind.u32 IntKind.u32.max (r : Int) = ((notU r : Nat) : Int) := u32_xor_nat 4294967295 r (by decide) h
def crcFrom (r : Nat) : Txt → Nat
  | [] => r
  | b :: t => crcFrom (crcStep (r ^^^ b.toNat)) t
theorem crcFrom_append (r : Nat) (a b : Txt) : crcFrom r (a ++ b) = crcFrom (crcFrom r a) b := by
  induction a generalizing r with
  | nil => rfl
  | cons x t ih => exact ih _
theorem crcStep_lt {r : Nat} (h : r < 4294967296) : crcStep r < 4294967296 := crcBits_lt h 8
theorem xor_byte_lt {r : Nat} (h : r < 4294967296) (b : UInt8) : r ^^^ b.toNat < 4294967296 := Nat.xor_lt_two_pow (n := 32) h (by have := UInt8.toNat_lt b; omega)
theorem crcFrom_lt {r : Nat} (h : r < 4294967296) (l : Txt) : crcFrom r l < 4294967296 := by
  induction l generalizing r with
  | nil => exact h
  | cons x t ih => exact ih (crcStep_lt (xor_byte_lt h x))
def crcMore (s : Nat) (l : Txt) : Nat := notU (crcFrom (notU s) l)
theorem crcMore_lt {s : Nat} (h : s < 4294967296) (l : Txt) : crcMore s l < 4294967296 := notU_lt (crcFrom_lt (notU_lt h) l)
theorem crcFrom_snoc (r : Nat) (l : Txt) (k : Nat) (b : UInt8) (h : l[k]? = some b) : crcFrom r (l.take (k + 1)) = crcStep (crcFrom r (l.take k) ^^^ b.toNat) := by
  rw [List.take_add_one, h, crcFrom_append]
  rfl
set_option maxRecDepth 100000 in
set_option maxHeartbeats 1000000 in
theorem crcmore_calls (r : Nat) (V : Value) (l : Txt) (w : World) (hr : r < 4294967296) (hV : BytesSrc w V l) :
    Calls Tryd.prog 122 #[.int .u32 r, V] w fun e w' => e = .returned (.int .u32 (crcMore r l : Nat)) ∧ w = w' := by
  obtain ⟨-, A, cp, rfl, hvc, hcm, hA, hcell⟩ := id hV
  have hcm2 : cp ≤ 9223372036854775807 := by simp only [maxLen] at hcm; omega
  have HV := Lib.hid hV
  clear hV hcell hA
  have hnot := not_eq r hr
  have hnlt := notU_lt hr
  go_enter Tryd.func122, Tryd.ntmps122
  go_wp2
  go_loop [5, 12] (fun u i => ∃ k : Nat, k ≤ l.length ∧ i = .int .i64 k ∧ u = .int .u32 (crcFrom (notU r) (l.take k) : Nat)) (fun _ i => l.length - (RowKit.intOf i).toNat)
  case atStart => exact ⟨0, Nat.zero_le _, rfl, by rw [List.take_zero]; rfl⟩
  case round =>
    obtain ⟨k, hk, rfl, rfl⟩ := hrel
    have hxl := crcFrom_lt hnlt (l.take k)
    by_cases hlt : k < l.length
    · obtain ⟨b, hb⟩ : ∃ b, l[k]? = some b := ⟨_, List.getElem?_eq_getElem hlt⟩
      obtain ⟨-, A', cp', hvv, -, -, hA', hcell⟩ := HV.out
      injection hvv with e1 _ e3
      subst e1 e3
      obtain ⟨a, rfl⟩ : ∃ a, A = some a := by
        cases A with
        | none => have := (hA' rfl).1; omega
        | some a => exact ⟨a, rfl⟩
      have c0 := hcell a rfl k (bv b) (by unfold bytesV; rw [List.getElem?_map, hb]; rfl)
      have hs := crcFrom_snoc (notU r) l k b hb
      have hx := u32_xor_nat (crcFrom (notU r) (l.take k)) b.toNat hxl (by have := UInt8.toNat_lt b; omega)
      have hbl := UInt8.toNat_lt b
      have hy := xor_byte_lt hxl b
      unfold bv at c0
      have HC := Lib.hid (fun w => crcstep_calls (crcFrom (notU r) (l.take k) ^^^ b.toNat) w hy)
      have HS := Lib.hid hs
      generalize crcFrom (notU r) (l.take k) = x at *
      clear hcell hA' hb hs
      go_wp2_with (go_at_call 134; refine (HC.out _).mono ?_; rintro e w' ⟨rfl, rfl⟩)
      refine ⟨⟨k + 1, by omega, by go_num, ?_⟩, by simp [RowKit.intOf]; omega⟩
      rw [HS.out]
    · obtain rfl : k = l.length := by omega
      have hn2 := not_eq _ hxl
      rw [List.take_length] at hn2 ⊢
      go_wp2
      go_ret
      exact ⟨rfl, rfl⟩

def crcSum (l : Txt) : Nat := crcMore 0 l
theorem crcSum_lt (l : Txt) : crcSum l < 4294967296 := crcMore_lt (by decide) l
set_option maxRecDepth 100000 in
set_option maxHeartbeats 1000000 in
theorem crcsum_calls (V B : Value) (l : Txt) (w : World) (hV : Src w 1 V 1 [B]) (hB : BytesSrc w B l) :
    Calls Tryd.prog 102 #[V] w fun e w' => e = .returned (.int .u32 (crcSum l : Nat)) ∧ w = w' := by
  obtain ⟨-, A, cp, rfl, hvc, hcm, hA, hcell⟩ := id hV
  obtain ⟨a, rfl⟩ : ∃ a, A = some a := by
    cases A with
    | none => have := (hA rfl).1; omega
    | some a => exact ⟨a, rfl⟩
  have hcm2 : cp ≤ 9223372036854775807 := by simp only [maxLen] at hcm; omega
  have c0 := hcell a rfl 0 B rfl
  rw [show a.add 0 = a from rfl] at c0
  have HB := Lib.hid hB
  have HM := Lib.hid (crcmore_calls 0 B l w (by decide) hB)
  clear hV hcell hA hB
  go_enter Tryd.func102, Tryd.ntmps102
  go_wp2
  go_loop [3, 8] (fun u i => (i = .int .i64 0 ∧ u = .int .u32 0) ∨ (i = .int .i64 1 ∧ u = .int .u32 (crcSum l : Nat))) (fun _ i => 1 - (RowKit.intOf i).toNat)
  case atStart => exact .inl ⟨rfl, rfl⟩
  case round =>
    rcases hrel with ⟨rfl, rfl⟩ | ⟨rfl, rfl⟩
    · go_wp2_with (go_at_call 122; refine HM.out.mono ?_; rintro e w' ⟨rfl, rfl⟩)
      exact ⟨.inr ⟨rfl, rfl⟩, by decide⟩
    · go_wp2
      go_ret
      exact ⟨rfl, rfl⟩

/-- A frame. -/
def frameT (l : Txt) : Txt := be 4 l.length ++ (be 4 (crcSum l) ++ l)
theorem frameT_length (l : Txt) : (frameT l).length = l.length + 8 := by
  simp only [frameT, List.length_append, be_length]
  omega
set_option maxRecDepth 100000 in
set_option maxHeartbeats 2000000 in
theorem frameput_calls (B : Value) (l : Txt) (w : World) (hB : BytesSrc w B l) :
    Calls Tryd.prog 82 #[B] w fun e w' => ∃ v, e = .returned (.tuple #[v, .int .i64 (if 16384 < l.length then 17 else 0)]) ∧ Bytes w' v (if 16384 < l.length then [] else frameT l) ∧ (∀ q, v.ownBlock = some q → w.heap.size ≤ q) ∧ Fr (fun _ => False) w w' := by
  obtain ⟨-, A, cp, rfl, hvc, hcm, -, -⟩ := id hB
  have hcm2 : cp ≤ 9223372036854775807 := by simp only [maxLen] at hcm; omega
  by_cases hl : 16384 < l.length
  · rw [if_pos hl, if_pos hl]
    have hl2 : (16384 : Int) < (l.length : Int) := by omega
    clear hB
    go_enter Tryd.func82, Tryd.ntmps82
    go_wp2
    go_ret2
    exact ⟨_, rfl, Row.nil _ _ _, fun q hq => by simp [Value.ownBlock] at hq, Fr.refl _ _⟩
  · rw [if_neg hl, if_neg hl]
    have hl2 : ¬ (16384 : Int) < (l.length : Int) := by omega
    have HB := Lib.hid hB
    have h1 := Lib.hid (fun w => put4_calls l.length w (by omega))
    have hs := crcSum_lt l
    have h2 := Lib.hid (fun w => put4_calls (crcSum l) w (by omega))
    clear hB
    go_enter Tryd.func82, Tryd.ntmps82
    go_wp2_with fail
    refine (h1.out _).mono ?_
    rintro e w1 ⟨v1, rfl, hb1, hq1, f1⟩
    obtain ⟨A1, k1, rfl, -, -⟩ : ∃ A c, v1 = .slice A 4 c ∧ 4 ≤ c ∧ c ≤ maxLen := by
      have h7 := hb1
      unfold Bytes at h7
      rw [be_length] at h7
      exact h7.shape
    have HB1 := Lib.hid hb1
    have HQ1 := Lib.hid hq1
    clear hb1 hq1
    go_wp2_with fail
    refine (crcsum_calls _ (.slice A l.length cp) l _ (Row.made w1 35 1 1 #[.slice A l.length cp] rfl (by decide)).src ((HB.out.fr f1 fun _ _ _ => id).alloc _)).mono ?_
    rintro e w2 ⟨rfl, rfl⟩
    go_wp2_with fail
    refine (h2.out _).mono ?_
    rintro e w3 ⟨v2, rfl, hb2, hq2, f3⟩
    obtain ⟨A2, k2, rfl, -, -⟩ : ∃ A c, v2 = .slice A 4 c ∧ 4 ≤ c ∧ c ≤ maxLen := by
      have h7 := hb2
      unfold Bytes at h7
      rw [be_length] at h7
      exact h7.shape
    have HB2 := Lib.hid hb2
    have HQ2 := Lib.hid hq2
    have F2 : Fr (fun _ => False) w1 (w1.alloc (.cells #[.slice A l.length cp] 35)) := (Fr.refl (fun _ => False) w1).alloc _
    have hs1 := f1.size
    have hs3 := (F2.trans f3 fun _ h => h.elim).size
    clear hb2 hq2
    go_wp2_with fail
    have F4 : Fr (fun _ => False) w3 (w3.alloc (.cells #[.slice A1 4 k1, .slice A2 4 k2, .slice A l.length cp] 35)) := (Fr.refl (fun _ => False) w3).alloc _
    have F13 : Fr (fun _ => False) w1 w3 := F2.trans f3 fun _ h => h.elim
    have F03 : Fr (fun _ => False) w w3 := f1.trans F13 fun _ h => h.elim
    refine (concat_calls _ [.slice A1 4 k1, .slice A2 4 k2, .slice A l.length cp] [be 4 l.length, be 4 (crcSum l), l] _ (Row.made w3 35 1 3 #[.slice A1 4 k1, .slice A2 4 k2, .slice A l.length cp] rfl (by decide)).src ⟨rfl, ?_⟩ (by simp) (by simp [be_length]; omega)).mono ?_
    · intro i v t h5 h6
      match i with
      | 0 =>
        simp at h5 h6
        subst h5 h6
        exact ((HB1.out.fr (F13.trans F4 fun _ h => h.elim) fun _ _ => id)).src
      | 1 =>
        simp at h5 h6
        subst h5 h6
        exact (HB2.out.fr F4 fun _ _ => id).src
      | 2 =>
        simp at h5 h6
        subst h5 h6
        exact HB.out.fr (F03.trans F4 fun _ h => h.elim) fun _ _ _ => id
      | i + 3 => simp at h5
    · rintro e w5 ⟨v5, rfl, hb5, hq5, f5⟩
      have HB5 := Lib.hid hb5
      have HQ5 := Lib.hid hq5
      have hs5 := F4.size
      clear hb5 hq5
      go_wp2_with fail
      go_ret2
      refine ⟨_, rfl, ?_, fun q hq => ?_, (F03.trans F4 fun _ h => h.elim).trans f5 fun _ h => h.elim⟩
      · have := HB5.out
        simpa [frameT] using this
      · have h8 := HQ5.out q hq
        have h9 := F03.size
        omega
end Chart

/- The document's cabinet (package chartularyref09) as plain data. No program in sight. -/
namespace Chart
open Go (bytesBefore)

/-- A change of names: what it was called, what it is called. -/
structure RChg where
  old : Txt
  name : Txt
  file : Nat
  deriving DecidableEq, Inhabited, Repr

structure RCab where
  quota : Int
  files : List FileS := []
  now : Folder := []
  sure : Folder := []
  waiting : List RChg := []
  after : Int := 0
  timed : Bool := false
  off : Bool := false
  deriving DecidableEq, Inhabited, Repr

/-- A list behind a change. -/
def Folder.wth (l : Folder) (x : RChg) : Folder :=
  let l1 := if x.old = [] then l else l.del x.old
  if x.name = [] then l1 else l1.put x.name x.file
/-- The number of a name's file; -1: there is none. -/
def Folder.at_ (l : Folder) (k : Txt) : Int := match l.get? k with | some n => (n : Int) | none => -1

namespace RCab
def new (quota : Int) : RCab := { quota }
def power (c : RCab) : RCab × Int :=
  if c.timed = true ∧ c.after = 0 then ({ c with off := true }, 11)
  else if c.timed = true then ({ c with after := c.after - 1 }, 0)
  else (c, 0)
def names (c : RCab) (x : RChg) : RCab := { c with now := c.now.wth x, waiting := c.waiting ++ [x] }
def create (c : RCab) (name : Txt) : RCab × Int :=
  if c.off then (c, 11)
  else if Cab.nameOk name = false then (c, 6)
  else if 0 ≤ c.now.at_ name then (c, 8)
  else if 4096 ≤ c.now.length then (c, 9)
  else
    let s := c.power
    if s.2 = 0 then (({ s.1 with files := s.1.files ++ [FileS.mk [] 0] } : RCab).names ⟨[], name, s.1.files.length⟩, s.2) else s
def file (c : RCab) (n : Nat) : FileS := c.files.getD n ⟨[], 0⟩
def setFile (c : RCab) (n : Nat) (f : FileS) : RCab := { c with files := c.files.set n f }
/-- The bytes of the files that are taken. -/
def usedFrom (t : List Nat) : Nat → List FileS → Nat
  | _, [] => 0
  | i, f :: r => (if t.contains i then f.all.length else 0) + usedFrom t (i + 1) r
def taken (c : RCab) : List Nat := c.sure.vals ++ c.waiting.map (·.file)
def used (c : RCab) : Nat := usedFrom c.taken 0 c.files
def append (c : RCab) (name b : Txt) : RCab × Int :=
  if c.off then (c, 11)
  else match c.now.get? name with
  | none => (c, 7)
  | some n =>
    if (b.length : Int) > 1048576 - ((c.file n).all.length : Int) then (c, 17)
    else if (b.length : Int) > c.quota - (c.used : Int) then (c, 10)
    else
      let s := c.power
      if s.2 = 0 then (s.1.setFile n { s.1.file n with all := (s.1.file n).all ++ b }, s.2) else s
def sync (c : RCab) (name : Txt) : RCab × Int :=
  if c.off then (c, 11)
  else match c.now.get? name with
  | none => (c, 7)
  | some n =>
    let s := c.power
    if s.2 = 0 then (s.1.setFile n { s.1.file n with sure := (s.1.file n).all.length }, s.2) else s
def renameTo (c : RCab) (old name : Txt) : RCab × Int :=
  if c.off then (c, 11)
  else match c.now.get? old with
  | none => (c, 7)
  | some n =>
    if Cab.nameOk name = false then (c, 6)
    else
      let s := c.power
      if s.2 = 0 then (s.1.names ⟨old, name, n⟩, s.2) else s
def remove (c : RCab) (name : Txt) : RCab × Int :=
  if c.off then (c, 11)
  else match c.now.get? name with
  | none => (c, 7)
  | some n =>
    let s := c.power
    if s.2 = 0 then (s.1.names ⟨name, [], n⟩, s.2) else s
def turn (c : RCab) : RCab × Int :=
  if c.off then (c, 11)
  else
    let s := c.power
    if s.2 = 0 then ({ s.1 with sure := s.1.now, waiting := [] }, s.2) else s
def read (c : RCab) (name : Txt) : Txt × Int :=
  if c.off then ([], 11)
  else match c.now.get? name with
  | none => ([], 7)
  | some n => ((c.file n).all, 0)
def namesOf (c : RCab) : List Txt × Int := if c.off then ([], 11) else (c.now.keys, 0)
def fail (c : RCab) (n : Int) : RCab := { c with timed := decide (0 ≤ n), after := n }
def part (n most : Int) : Int := if n < 0 then 0 else if n > most then most else n
def crashFiles (keep : List Int) (turn : UInt8) : Folder → Nat → List FileS → List FileS
  | [], _, fs => fs
  | y :: l, i, fs =>
    let f := fs.getD y.2 ⟨[], 0⟩
    let k := if i < keep.length then part (keep.getD i 0) ((f.all.length : Int) - (f.sure : Int)) else 0
    crashFiles keep turn l (i + 1) (fs.set y.2 (Cab.cut f k turn))
def crash (c : RCab) (names : Int) (keep : List Int) (turn : UInt8) : RCab :=
  let l := (c.waiting.take (part names c.waiting.length).toNat).foldl Folder.wth c.sure
  { c with files := crashFiles keep turn l 0 c.files, now := l, sure := l, waiting := [], timed := false, off := false }
end RCab
end Chart

/- The cabinet and the document's: alike, whatever is called. Plain data, no program in sight. -/
namespace Chart
open Go (bytesBefore)

def Chg.toR (x : Chg) : RChg := if x.kind = 2 then ⟨x.name, [], x.file⟩ else ⟨x.old, x.name, x.file⟩
/-- A change that was recorded when the names were F. -/
structure Chg.Fit (x : Chg) (F : Folder) : Prop where
  kind : x.kind ≤ 2
  name : x.name ≠ [] ∧ x.name.length ≤ 32
  oldl : x.old.length ≤ 32
  old : x.kind ≠ 1 → x.old = []
  ren : x.kind = 1 → x.old ≠ [] ∧ F.get? x.old = some x.file

theorem apply_wth {x : Chg} {F : Folder} (h : x.Fit F) : F.apply x = F.wth x.toR := by
  obtain ⟨kd, old, name, file⟩ := x
  obtain ⟨h1, ⟨h2, _⟩, _, h4, h5⟩ := h
  simp only at h1 h2 h4 h5
  have : kd = 0 ∨ kd = 1 ∨ kd = 2 := by omega
  rcases this with rfl | rfl | rfl
  · have ho := h4 (by decide)
    subst ho
    simp [Folder.apply, Folder.wth, Chg.toR, h2]
  · obtain ⟨h6, h7⟩ := h5 rfl
    simp [Folder.apply, Folder.wth, Chg.toR, h2, h6, h7]
  · simp [Folder.apply, Folder.wth, Chg.toR, h2]

/-- The names behind j changes. -/
def Cab.names_ (c : Cab) (j : Nat) : Folder := (c.waiting.take j).foldl Folder.apply c.sure

theorem mem_ins {k : Txt} {v : Nat} {y : Txt × Nat} : ∀ {F : Folder}, y ∈ Folder.ins k v F → y = (k, v) ∨ y ∈ F
  | [], h => by simpa [Folder.ins] using h
  | z :: r, h => by
    unfold Folder.ins at h
    split at h
    · rcases List.mem_cons.1 h with h | h
      · exact .inl h
      · exact .inr h
    · rcases List.mem_cons.1 h with h | h
      · exact .inr (List.mem_cons.2 (.inl h))
      · rcases mem_ins h with h | h
        · exact .inl h
        · exact .inr (List.mem_cons.2 (.inr h))
theorem mem_del {k : Txt} {y : Txt × Nat} {F : Folder} (h : y ∈ F.del k) : y ∈ F ∧ ¬ y.1 = k := by
  unfold Folder.del at h
  rw [List.mem_filter] at h
  exact ⟨h.1, by simpa using h.2⟩
theorem mem_put {k : Txt} {v : Nat} {y : Txt × Nat} {F : Folder} (h : y ∈ F.put k v) : y = (k, v) ∨ (y ∈ F ∧ ¬ y.1 = k) := by
  rcases mem_ins h with h | h
  · exact .inl h
  · exact .inr (mem_del h)
theorem mem_of_get {F : Folder} {k : Txt} {n : Nat} (h : F.get? k = some n) : (k, n) ∈ F := by
  unfold Folder.get? at h
  cases hf : F.find? fun p => p.1 == k with
  | none => rw [hf] at h; cases h
  | some y =>
    rw [hf] at h
    injection h with h
    have h1 := List.mem_of_find?_eq_some hf
    have h2 := List.find?_some hf
    simp at h2
    rw [← h2, ← h]
    exact h1
/-- Whatever stands behind a change stood there before, or is the change's own. -/
theorem mem_apply {x : Chg} {F : Folder} (hx : x.Fit F) {y : Txt × Nat} (h : y ∈ F.apply x) : y ∈ F ∨ (y.1 = x.name ∧ y.2 = x.file) := by
  obtain ⟨kd, old, name, file⟩ := x
  obtain ⟨h1, _, _, _, h5⟩ := hx
  simp only at h1 h5 ⊢
  have : kd = 0 ∨ kd = 1 ∨ kd = 2 := by omega
  rcases this with rfl | rfl | rfl
  · simp only [Folder.apply, if_true] at h
    rcases mem_put h with h | h
    · exact .inr (by rw [h]; exact ⟨rfl, rfl⟩)
    · exact .inl h.1
  · obtain ⟨_, h7⟩ := h5 rfl
    simp only [Folder.apply, h7, Option.getD_some] at h
    rcases mem_put h with h | h
    · exact .inr (by rw [h]; exact ⟨rfl, rfl⟩)
    · exact .inl (mem_del h.1).1
  · simp only [Folder.apply] at h
    exact .inl (mem_del h).1

/-- Names, each once. -/
def Folder.Once (F : Folder) : Prop := F.keys.Nodup
theorem keys_ins {k : Txt} {v : Nat} {y : Txt} : ∀ {F : Folder}, y ∈ (Folder.ins k v F).keys → y = k ∨ y ∈ F.keys := by
  intro F h
  unfold Folder.keys at h ⊢
  rw [List.mem_map] at h
  obtain ⟨z, hz, rfl⟩ := h
  rcases mem_ins hz with h | h
  · exact .inl (by rw [h])
  · exact .inr (List.mem_map.2 ⟨z, h, rfl⟩)
theorem once_ins {k : Txt} {v : Nat} : ∀ {F : Folder}, F.Once → k ∉ F.keys → (Folder.ins k v F).Once
  | [], _, _ => by simp [Folder.Once, Folder.ins, Folder.keys]
  | z :: r, h, hk => by
    unfold Folder.ins
    unfold Folder.Once Folder.keys at h ⊢
    simp only [Folder.keys, List.map_cons, List.mem_cons, not_or] at hk
    split
    · rw [List.map_cons, List.nodup_cons]
      exact ⟨by simpa [not_or] using hk, h⟩
    · rw [List.map_cons, List.nodup_cons] at h ⊢
      refine ⟨fun e => ?_, once_ins h.2 hk.2⟩
      rcases keys_ins (F := r) e with e | e
      · exact hk.1 e.symm
      · exact h.1 e
theorem once_del {k : Txt} {F : Folder} (h : F.Once) : (F.del k).Once ∧ k ∉ (F.del k).keys := by
  refine ⟨?_, fun e => ?_⟩
  · unfold Folder.Once Folder.keys Folder.del at *
    exact h.sublist ((List.filter_sublist).map _)
  · unfold Folder.keys at e
    rw [List.mem_map] at e
    obtain ⟨z, hz, rfl⟩ := e
    exact (mem_del hz).2 rfl
theorem once_put {k : Txt} {v : Nat} {F : Folder} (h : F.Once) : (F.put k v).Once := once_ins (once_del h).1 (once_del h).2
theorem once_apply {F : Folder} (h : F.Once) (x : Chg) : (F.apply x).Once := by
  unfold Folder.apply
  split
  · exact once_put h
  · split
    · exact once_put (once_del h).1
    · split
      · exact (once_del h).1
      · exact h
theorem once_get {F : Folder} (h : F.Once) {j : Nat} {y : Txt × Nat} (hj : F[j]? = some y) : F.get? y.1 = some y.2 := by
  induction F generalizing j with
  | nil => simp at hj
  | cons z r ih =>
    unfold Folder.Once Folder.keys at h
    rw [List.map_cons, List.nodup_cons] at h
    cases j with
    | zero =>
      simp at hj
      subst hj
      simp [Folder.get?]
    | succ j =>
      rw [List.getElem?_cons_succ] at hj
      have hne : ¬ z.1 = y.1 := fun e => h.1 (by rw [e]; exact List.mem_map.2 ⟨y, List.mem_of_getElem? hj, rfl⟩)
      have := ih h.2 hj
      unfold Folder.get? at this ⊢
      rw [List.find?_cons_of_neg (by simpa using hne)]
      exact this

structure Sim (B : Nat) (c : Cab) (r : RCab) : Prop where
  quota : r.quota = c.quota
  q0 : 1 ≤ c.quota
  q1 : c.quota ≤ 1073741824
  off : r.off = c.off
  pow : (r.timed = false ∧ c.after = -1) ∨ (r.timed = true ∧ c.after = r.after ∧ 0 ≤ r.after)
  after1 : r.after ≤ 9223372036854775807
  now : r.now = c.now
  sure : r.sure = c.sure
  wait : r.waiting = c.waiting.map Chg.toR
  fit : ∀ (j : Nat) (x : Chg), c.waiting[j]? = some x → x.Fit (c.names_ j) ∧ x.file < c.files.length
  nows : c.now = c.names_ c.waiting.length
  once : c.sure.Once
  sures : ∀ y ∈ c.sure, y.2 < c.files.length ∧ y.1 ≠ [] ∧ y.1.length ≤ 32
  len : r.files.length = c.files.length
  files : ∀ i, i ∈ r.taken → r.files[i]? = c.files[i]?
  rest : ∀ i f, c.files[i]? = some f → i ∉ r.taken → f.all = []
  all : ∀ f ∈ c.files, f.all.length ≤ 1048576 ∧ f.sure ≤ f.all.length
  rall : ∀ f ∈ r.files, f.all.length ≤ 1048576 ∧ f.sure ≤ f.all.length
  b1 : c.files.length ≤ B
  b2 : c.sure.length + c.waiting.length ≤ B
  b3 : c.now.length ≤ B
  b4 : c.sure.length ≤ B
end Chart

/- What follows of the two cabinets' being alike. -/
namespace Chart
open Go (bytesBefore)

theorem names_zero (c : Cab) : c.names_ 0 = c.sure := rfl
theorem names_succ {c : Cab} {j : Nat} {x : Chg} (h : c.waiting[j]? = some x) : c.names_ (j + 1) = (c.names_ j).apply x := by
  unfold Cab.names_
  rw [List.take_add_one, h, List.foldl_append]
  rfl
theorem mem_vals {F : Folder} {n : Nat} : n ∈ F.vals ↔ ∃ k, (k, n) ∈ F := by
  unfold Folder.vals
  rw [List.mem_map]
  constructor
  · rintro ⟨y, hy, rfl⟩
    exact ⟨y.1, hy⟩
  · rintro ⟨k, hk⟩
    exact ⟨_, hk, rfl⟩

section
variable {B : Nat} {c : Cab} {r : RCab}
theorem Sim.names (h : Sim B c r) : ∀ j, j ≤ c.waiting.length → (c.names_ j).Once ∧ (∀ y ∈ c.names_ j, y.2 < c.files.length ∧ y.1 ≠ [] ∧ y.1.length ≤ 32 ∧ y.2 ∈ r.taken) ∧ (c.names_ j) = (r.waiting.take j).foldl Folder.wth r.sure
  | 0, _ => by
    refine ⟨h.once, fun y hy => ?_, by rw [h.sure]; rfl⟩
    obtain ⟨h1, h2, h3⟩ := h.sures y hy
    refine ⟨h1, h2, h3, ?_⟩
    unfold RCab.taken
    rw [h.sure]
    exact List.mem_append_left _ (List.mem_map.2 ⟨y, hy, rfl⟩)
  | j + 1, hj => by
    obtain ⟨i1, i2, i3⟩ := h.names j (by omega)
    obtain ⟨x, hx⟩ : ∃ x, c.waiting[j]? = some x := ⟨_, List.getElem?_eq_getElem (by omega)⟩
    obtain ⟨f1, f2⟩ := h.fit j x hx
    rw [names_succ hx]
    refine ⟨once_apply i1 x, fun y hy => ?_, ?_⟩
    · rcases mem_apply f1 hy with hy | ⟨e1, e2⟩
      · exact i2 y hy
      · rw [e1, e2]
        refine ⟨f2, f1.name.1, f1.name.2, ?_⟩
        unfold RCab.taken
        refine List.mem_append_right _ ?_
        rw [h.wait, List.map_map]
        refine List.mem_map.2 ⟨x, List.mem_of_getElem? hx, ?_⟩
        simp only [Function.comp, Chg.toR]
        split <;> rfl
    · rw [apply_wth f1, i3]
      have hw : r.waiting[j]? = some x.toR := by rw [h.wait, List.getElem?_map, hx]; rfl
      rw [List.take_add_one, hw, List.foldl_append]
      rfl
theorem Sim.nowOk (h : Sim B c r) : c.now.Once ∧ ∀ y ∈ c.now, y.2 < c.files.length ∧ y.1 ≠ [] ∧ y.1.length ≤ 32 ∧ y.2 ∈ r.taken := by
  have := h.names c.waiting.length (Nat.le_refl _)
  rw [← h.nows] at this
  exact ⟨this.1, this.2.1⟩
theorem taken_lt (h : Sim B c r) {i : Nat} (hi : i ∈ r.taken) : i < c.files.length := by
  unfold RCab.taken at hi
  rcases List.mem_append.1 hi with hi | hi
  · rw [h.sure] at hi
    obtain ⟨k, hk⟩ := mem_vals.1 hi
    exact (h.sures _ hk).1
  · rw [h.wait, List.map_map] at hi
    obtain ⟨x, hx, rfl⟩ := List.mem_map.1 hi
    obtain ⟨j, hj⟩ := List.getElem?_of_mem hx
    have := (h.fit j x hj).2
    simp only [Function.comp, Chg.toR]
    split <;> exact this

/-- The bytes that are taken are all that lie there. -/
theorem usedFrom_all (t : List Nat) : ∀ (fs gs : List FileS) (i : Nat), fs.length = gs.length → (∀ k, i + k ∈ t → fs[k]? = gs[k]?) → (∀ k f, gs[k]? = some f → i + k ∉ t → f.all = []) → RCab.usedFrom t i fs = (gs.map fun f => f.all.length).sum
  | [], [], _, _, _, _ => rfl
  | [], _ :: _, _, h, _, _ => by simp at h
  | _ :: _, [], _, h, _, _ => by simp at h
  | f :: fs, g :: gs, i, h, h1, h2 => by
    have ih := usedFrom_all t fs gs (i + 1) (by simpa using h) (fun k hk => by
      have := h1 (k + 1) (by rw [← Nat.add_assoc, Nat.add_right_comm]; exact hk)
      simpa using this) (fun k x hx hk => h2 (k + 1) x (by simpa using hx) (by rw [← Nat.add_assoc, Nat.add_right_comm]; exact hk))
    simp only [RCab.usedFrom, List.map_cons, List.sum_cons, ih]
    by_cases hc : i ∈ t
    · have := h1 0 (by simpa using hc)
      simp at this
      subst this
      have : t.contains i = true := by rw [List.contains_iff_mem]; exact hc
      rw [if_pos this]
    · have := h2 0 g (by simp) (by simpa using hc)
      have hn : ¬ t.contains i = true := by rw [List.contains_iff_mem]; exact hc
      rw [if_neg hn, this]
      simp
theorem foldl_sum (l : List Nat) : ∀ a, l.foldl (· + ·) a = a + l.sum := by
  induction l with
  | nil => intro a; simp
  | cons x r ih =>
    intro a
    simp only [List.foldl_cons, List.sum_cons]
    rw [ih]
    omega
theorem Sim.used (h : Sim B c r) : r.used = c.used := by
  unfold RCab.used Cab.used
  rw [foldl_sum, Nat.zero_add]
  exact usedFrom_all r.taken r.files c.files 0 h.len (fun k hk => h.files k (by simpa using hk)) (fun k f hf hk => h.rest k f hf (by simpa using hk))
theorem Sim.spend (h : Sim B c r) : r.power.2 = c.spend.2 ∧ Sim B c.spend.1 r.power.1 ∧ (c.spend.2 = 0 → c.spend.1.off = c.off) := by
  have ho := h.off
  unfold RCab.power Cab.spend
  rcases h.pow with ⟨p1, p2⟩ | ⟨p1, p2, p3⟩
  · have hc : ¬ (c.after = 0) := by omega
    have hc2 : ¬ (0 < c.after) := by omega
    simp only [p1, hc, hc2, if_false, Bool.false_eq_true, false_and]
    exact ⟨trivial, h, fun _ => trivial⟩
  · by_cases h0 : r.after = 0
    · have hc : c.after = 0 := by omega
      simp only [p1, hc, h0, and_self, if_true]
      refine ⟨trivial, ?_, fun e => by simp at e⟩
      have hs := { h with off := rfl, pow := h.pow : Sim B { c with off := true } { r with off := true } }
      simpa [p1, hc, h0] using hs
    · have hc : ¬ c.after = 0 := by omega
      have hc2 : 0 < c.after := by omega
      simp only [p1, hc, h0, hc2, and_false, if_false, if_true]
      exact ⟨trivial, { h with pow := .inr ⟨by simp, by simp only; omega, by simp only; omega⟩, after1 := by have := h.after1; simp only; omega }, fun _ => trivial⟩
end
end Chart

/- The document's cabinet: plain lemmas of its crash; what its calls ask. -/
namespace Chart

/-- What a call of the document's cabinet asks. -/
structure RCab.Num (c : RCab) : Prop where
  after0 : c.timed = true → 0 ≤ c.after
  after1 : c.after ≤ 9223372036854775807
  files : c.files.length ≤ 100000
  now : c.now.length ≤ 100000
  sure : c.sure.length ≤ 100000
  waiting : c.waiting.length ≤ 100000
  nows : ∀ x ∈ c.now, x.2 < c.files.length
  sures : ∀ x ∈ c.sure, x.2 < c.files.length
  chg : ∀ x ∈ c.waiting, x.file < c.files.length
  all : ∀ f ∈ c.files, f.all.length ≤ 1048576
  quota0 : 1 ≤ c.quota
  quota1 : c.quota ≤ 1073741824

theorem rcrashFiles_append (keep : List Int) (turn : UInt8) : ∀ (a b : Folder) (i : Nat) (fs : List FileS), RCab.crashFiles keep turn (a ++ b) i fs = RCab.crashFiles keep turn b (i + a.length) (RCab.crashFiles keep turn a i fs)
  | [], b, i, fs => by simp [RCab.crashFiles]
  | x :: a, b, i, fs => by
    simp only [List.cons_append, RCab.crashFiles, List.length_cons]
    rw [rcrashFiles_append keep turn a b (i + 1)]
    congr 1
    omega
theorem rcrashFiles_length (keep : List Int) (turn : UInt8) : ∀ (a : Folder) (i : Nat) (fs : List FileS), (RCab.crashFiles keep turn a i fs).length = fs.length
  | [], _, _ => rfl
  | x :: a, i, fs => by
    simp only [RCab.crashFiles]
    rw [rcrashFiles_length keep turn a (i + 1)]
    simp
theorem rcrashFiles_step (keep : List Int) (turn : UInt8) (l : Folder) (j : Nat) (name : Txt) (n : Nat) (hk : l[j]? = some (name, n)) (fs : List FileS) (f : FileS) (hf : (RCab.crashFiles keep turn (l.take j) 0 fs)[n]? = some f) :
    RCab.crashFiles keep turn (l.take (j + 1)) 0 fs = (RCab.crashFiles keep turn (l.take j) 0 fs).set n (Cab.cut f (if j < keep.length then RCab.part (keep.getD j 0) ((f.all.length : Int) - (f.sure : Int)) else 0) turn) := by
  have hl : (l.take j).length = j := by
    have := (List.getElem?_eq_some_iff.1 hk).1
    rw [List.length_take]
    omega
  rw [take_snoc' l j _ hk, rcrashFiles_append]
  simp only [RCab.crashFiles, hl, Nat.zero_add]
  rw [List.getD_eq_getElem?_getD, hf]
  rfl
theorem rpart_le (n m : Int) (h : 0 ≤ m) : 0 ≤ RCab.part n m ∧ RCab.part n m ≤ m := by unfold RCab.part; split <;> (try split) <;> omega
theorem rcrashFiles_ok (keep : List Int) (turn : UInt8) : ∀ (a : Folder) (i : Nat) (fs : List FileS), (∀ f ∈ fs, FileOk f) → ∀ f ∈ RCab.crashFiles keep turn a i fs, FileOk f
  | [], _, _, h => h
  | x :: a, i, fs, h => by
    refine rcrashFiles_ok keep turn a (i + 1) _ fun f hf => ?_
    rcases List.mem_or_eq_of_mem_set hf with h1 | h1
    · exact h f h1
    · subst h1
      have hd : FileOk (fs.getD x.2 ⟨[], 0⟩) := by
        rw [List.getD_eq_getElem?_getD]
        cases hg : fs[x.2]? with
        | none => exact ⟨by simp, by simp⟩
        | some y => exact h _ (List.mem_of_getElem? hg)
      refine cut_ok hd _ _ ?_
      split
      · exact (rpart_le _ _ (by have := hd.2; omega)).2
      · have := hd.2; omega
theorem wth_length (l : Folder) (x : RChg) : (l.wth x).length ≤ l.length + 1 := by
  have hput : ∀ (F : Folder), (F.put x.name x.file).length ≤ F.length + 1 := fun F => by
    have h2 := del_length x.name F
    unfold Folder.put
    rw [ins_length]
    omega
  have h1 := del_length x.old l
  have h3 := hput l
  have h4 := hput (l.del x.old)
  unfold Folder.wth
  by_cases ho : x.old = [] <;> by_cases hm : x.name = [] <;> simp only [ho, hm, if_true, if_false] at * <;> omega
theorem wfold_length (xs : List RChg) : ∀ F : Folder, (xs.foldl Folder.wth F).length ≤ F.length + xs.length := by
  induction xs with
  | nil => intro F; simp
  | cons x r ih =>
    intro F
    have h1 := ih (F.wth x)
    have h2 := wth_length F x
    simp only [List.foldl_cons, List.length_cons]
    omega

structure RCrashOk (c : RCab) : Prop where
  num : c.Num
  rep : ∀ j, ∀ x ∈ (c.waiting.take j).foldl Folder.wth c.sure, x.2 < c.files.length
  all : ∀ f ∈ c.files, FileOk f

theorem at_cases (l : Folder) (k : Txt) : (l.get? k = none ∧ l.at_ k = -1) ∨ ∃ n : Nat, l.get? k = some n ∧ l.at_ k = n := by
  unfold Folder.at_
  cases h : l.get? k with
  | none => exact .inl ⟨rfl, rfl⟩
  | some n => exact .inr ⟨n, rfl, rfl⟩

end Chart

/- The two cabinets stay alike: a change is recorded, a file turned, the names settled. -/
namespace Chart
open Go (bytesBefore)

theorem names_rename {c : Cab} {x : Chg} {j : Nat} (hj : j ≤ c.waiting.length) : (c.rename x).names_ j = c.names_ j := by
  unfold Cab.names_ Cab.rename
  simp only
  rw [List.take_append_of_le_length hj]

section
variable {B : Nat} {c : Cab} {r : RCab}
theorem apply_length' {x : Chg} {F : Folder} : (F.apply x).length ≤ F.length + 1 := apply_length x F
theorem Sim.record (h : Sim B c r) (x : Chg) (hx : x.Fit c.now) (hf : x.file < c.files.length) (hfile : r.files[x.file]? = c.files[x.file]?) : Sim (B + 1) (c.rename x) (r.names x.toR) := by
  have ht : (r.names x.toR).taken = r.taken ++ [x.file] := by
    unfold RCab.taken RCab.names
    simp only [List.map_append, List.map_cons, List.map_nil, List.append_assoc]
    congr 3
    unfold Chg.toR
    split <;> rfl
  exact {
    quota := h.quota, q0 := h.q0, q1 := h.q1, off := h.off, pow := h.pow, after1 := h.after1
    now := by
      show r.now.wth x.toR = c.now.apply x
      rw [apply_wth hx, h.now]
    sure := h.sure
    wait := by
      show r.waiting ++ [x.toR] = (c.waiting ++ [x]).map Chg.toR
      rw [h.wait, List.map_append]
      rfl
    fit := fun j y hy => by
      have hy' : (c.waiting ++ [x])[j]? = some y := hy
      by_cases hj : j < c.waiting.length
      · rw [List.getElem?_append_left hj] at hy'
        obtain ⟨f1, f2⟩ := h.fit j y hy'
        rw [names_rename (by omega)]
        exact ⟨f1, f2⟩
      · rw [List.getElem?_append_right (by omega)] at hy'
        have hj2 : j = c.waiting.length := by
          have := (List.getElem?_eq_some_iff.1 hy').1
          simp at this
          omega
        subst hj2
        simp at hy'
        subst hy'
        rw [names_rename (Nat.le_refl _), ← h.nows]
        exact ⟨hx, hf⟩
    nows := by
      have e : (c.rename x).waiting.length = c.waiting.length + 1 := by simp [Cab.rename]
      have hg : (c.rename x).waiting[c.waiting.length]? = some x := by simp [Cab.rename]
      rw [e, names_succ hg, names_rename (Nat.le_refl _), ← h.nows]
      rfl
    once := h.once
    sures := h.sures
    len := h.len
    files := fun i hi => by
      rw [ht] at hi
      rcases List.mem_append.1 hi with hi | hi
      · exact h.files i hi
      · rw [List.mem_singleton] at hi
        subst hi
        exact hfile
    rest := fun i f hi hn => h.rest i f hi (fun e => hn (by rw [ht]; exact List.mem_append_left _ e))
    all := h.all
    rall := h.rall
    b1 := Nat.le_succ_of_le h.b1
    b2 := by
      have := h.b2
      show c.sure.length + (c.waiting ++ [x]).length ≤ B + 1
      rw [List.length_append]
      simp
      omega
    b3 := by
      have := h.b3
      have h2 := @apply_length' x c.now
      show (c.now.apply x).length ≤ B + 1
      omega
    b4 := Nat.le_succ_of_le h.b4 }

theorem Sim.addFile (h : Sim B c r) : Sim (B + 1) { c with files := c.files ++ [FileS.mk [] 0] } { r with files := r.files ++ [FileS.mk [] 0] } where
  quota := h.quota
  q0 := h.q0
  q1 := h.q1
  off := h.off
  pow := h.pow
  after1 := h.after1
  now := h.now
  sure := h.sure
  wait := h.wait
  fit := fun j x hx => by
    obtain ⟨f1, f2⟩ := h.fit j x hx
    exact ⟨f1, by rw [List.length_append]; exact Nat.lt_add_right _ f2⟩
  nows := h.nows
  once := h.once
  sures := fun y hy => by
    obtain ⟨h1, h2⟩ := h.sures y hy
    exact ⟨by rw [List.length_append]; exact Nat.lt_add_right _ h1, h2⟩
  len := by simp [h.len]
  files := fun i hi => by
    have hl := taken_lt h (i := i) hi
    rw [List.getElem?_append_left (by rw [h.len]; exact hl), List.getElem?_append_left hl]
    exact h.files i hi
  rest := fun i f hf hn => by
    by_cases hl : i < c.files.length
    · rw [List.getElem?_append_left hl] at hf
      exact h.rest i f hf hn
    · rw [List.getElem?_append_right (by omega)] at hf
      have := List.mem_of_getElem? hf
      simp at this
      subst this
      rfl
  all := fun f hf => by
    rcases List.mem_append.1 hf with hf | hf
    · exact h.all f hf
    · simp at hf
      subst hf
      exact ⟨by simp, by simp⟩
  rall := fun f hf => by
    rcases List.mem_append.1 hf with hf | hf
    · exact h.rall f hf
    · simp at hf
      subst hf
      exact ⟨by simp, by simp⟩
  b1 := by have := h.b1; simp; omega
  b2 := Nat.le_succ_of_le h.b2
  b3 := Nat.le_succ_of_le h.b3
  b4 := Nat.le_succ_of_le h.b4

theorem Sim.mono {B' : Nat} (h : Sim B c r) (hB : B ≤ B') : Sim B' c r := { h with b1 := Nat.le_trans h.b1 hB, b2 := Nat.le_trans h.b2 hB, b3 := Nat.le_trans h.b3 hB, b4 := Nat.le_trans h.b4 hB }

theorem Sim.setFile (h : Sim B c r) {n : Nat} (hn : n ∈ r.taken) (f : FileS) (hf : f.all.length ≤ 1048576 ∧ f.sure ≤ f.all.length) : Sim B (c.setFile n f) (r.setFile n f) where
  quota := h.quota
  q0 := h.q0
  q1 := h.q1
  off := h.off
  pow := h.pow
  after1 := h.after1
  now := h.now
  sure := h.sure
  wait := h.wait
  fit := fun j x hx => by
    obtain ⟨f1, f2⟩ := h.fit j x hx
    exact ⟨f1, by simpa [Cab.setFile] using f2⟩
  nows := h.nows
  once := h.once
  sures := fun y hy => by
    obtain ⟨h1, h2⟩ := h.sures y hy
    exact ⟨by simpa [Cab.setFile] using h1, h2⟩
  len := by simp [Cab.setFile, RCab.setFile, h.len]
  files := fun i hi => by
    have h1 := h.files i hi
    simp only [Cab.setFile, RCab.setFile, List.getElem?_set, h.len, h1]
  rest := fun i g hg hi => by
    have hne : ¬ n = i := fun e => hi (by subst e; exact hn)
    simp only [Cab.setFile, List.getElem?_set, if_neg hne] at hg
    exact h.rest i g hg hi
  all := fun g hg => by
    rcases List.mem_or_eq_of_mem_set hg with hg | hg
    · exact h.all g hg
    · subst hg
      exact hf
  rall := fun g hg => by
    rcases List.mem_or_eq_of_mem_set hg with hg | hg
    · exact h.rall g hg
    · subst hg
      exact hf
  b1 := by have := h.b1; simpa [Cab.setFile] using this
  b2 := h.b2
  b3 := h.b3
  b4 := h.b4

/-- The names are F from now on, with nothing waiting; what has no name is forgotten. -/
theorem Sim.settled (h : Sim B c r) {F : Folder} (h1 : F.Once) (h2 : ∀ y ∈ F, y.2 < c.files.length ∧ y.1 ≠ [] ∧ y.1.length ≤ 32 ∧ y.2 ∈ r.taken) (hF : F.length ≤ B) {fs rs : List FileS} (hl : fs.length = c.files.length) (hrl : rs.length = c.files.length)
    (hsame : ∀ i, i ∈ r.taken → rs[i]? = fs[i]?) (ha : ∀ f ∈ fs, f.all.length ≤ 1048576 ∧ f.sure ≤ f.all.length) (hra : ∀ f ∈ rs, f.all.length ≤ 1048576 ∧ f.sure ≤ f.all.length) :
    Sim B { c with now := F, sure := F, waiting := [], files := Cab.forget F 0 fs } { r with now := F, sure := F, waiting := [], files := rs } := by
  have ht : ∀ i, i ∈ ({ r with now := F, sure := F, waiting := [], files := rs } : RCab).taken → i ∈ F.vals := fun i hi => by
    simpa [RCab.taken] using hi
  have htk : ∀ i, i ∈ F.vals → i ∈ r.taken := fun i hi => by
    obtain ⟨k, hk⟩ := mem_vals.1 hi
    exact (h2 _ hk).2.2.2
  exact {
    quota := h.quota, q0 := h.q0, q1 := h.q1, off := h.off, pow := h.pow, after1 := h.after1
    now := rfl, sure := rfl, wait := rfl
    fit := fun j x hx => by simp at hx
    nows := rfl
    once := h1
    sures := fun y hy => by
      obtain ⟨i1, i2, i3, _⟩ := h2 y hy
      exact ⟨by rw [forget_length, hl]; exact i1, i2, i3⟩
    len := by rw [forget_length, hl]; exact hrl
    files := fun i hi => by
      have hi1 := ht i hi
      show rs[i]? = (Cab.forget F 0 fs)[i]?
      rw [hsame i (htk i hi1)]
      have hlt : i < fs.length := by
        obtain ⟨k, hk⟩ := mem_vals.1 hi1
        rw [hl]
        exact (h2 _ hk).1
      have := forget_get F fs 0 i _ (List.getElem?_eq_getElem hlt)
      rw [this, Nat.zero_add, if_pos (by rw [List.contains_iff_mem]; exact hi1)]
      exact List.getElem?_eq_getElem hlt
    rest := fun i f hf hi => by
      have hf' : (Cab.forget F 0 fs)[i]? = some f := hf
      have hlt : i < fs.length := by
        have := (List.getElem?_eq_some_iff.1 hf').1
        rw [forget_length] at this
        exact this
      have hg := forget_get F fs 0 i _ (List.getElem?_eq_getElem hlt)
      rw [Nat.zero_add, if_neg (fun e => hi (by simpa [RCab.taken] using e)), hf'] at hg
      injection hg with hg
      rw [hg]
    all := fun f hf => by
      obtain ⟨i, hi⟩ := List.getElem?_of_mem hf
      have hlt : i < fs.length := by
        have := (List.getElem?_eq_some_iff.1 hi).1
        rw [forget_length] at this
        exact this
      have hg := forget_get F fs 0 i _ (List.getElem?_eq_getElem hlt)
      have hi' : (Cab.forget F 0 fs)[i]? = some f := hi
      rw [hi'] at hg
      injection hg with hg
      rw [hg]
      split
      · exact ha _ (List.getElem_mem hlt)
      · exact ⟨by simp, by simp⟩
    rall := hra
    b1 := by have := h.b1; rw [forget_length, hl]; exact this
    b2 := hF
    b3 := hF
    b4 := hF }
end
end Chart
