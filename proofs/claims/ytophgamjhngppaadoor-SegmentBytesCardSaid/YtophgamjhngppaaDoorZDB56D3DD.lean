import Derived.Test.YtophgamjhngppaaDoorZ971164DF
import Derived.Lib.ConvBytes
import Derived.Test.YtophgamjhngppaaDoorZ0CA8B396
import Derived.ChangeSlices
import Derived.ChangeArms
import Derived.Deep.Slices
import Derived.SizedLaws
import Derived.OpenShut
import Derived.Test.YtophgamjhngppaaDoorRows
import Derived.ProofKit
import Derived.LaidMore
import Derived.Lay
import Derived.ReadAgain
import Derived.Carry
import Derived.ShutString
import Derived.Stop.Joined
/- The document's frames and names of files. -/
namespace Chart
open Go Go.RowKit Go.Proofs

theorem strbytes (w : World) (l : Txt) (hl : l.length ≤ maxLen) : ∃ c w', (convert 9 35 (.string (str l))).run Tryd.prog w = .ok (.slice (some ⟨w.heap.size, 0, none⟩) l.length c) w' ∧
    BytesSrc w' (.slice (some ⟨w.heap.size, 0, none⟩) l.length c) l ∧ Fr (fun _ => False) w w' := by
  have hr := Lib.run_convert_string_bytes (P := Tryd.prog) w 9 35 5 (str l) Tryd.underlying9 Tryd.underlying35 Tryd.underlying5
  have hc := fun j h => Lib.bytesWorld_cell w 5 (str l) j h
  have hge := grownCap_ge w (str l).size 0 5
  have hle := grownCap_le_maxLen w (str l).size 0 5 (by rw [str_size]; exact hl)
  simp only [str_size, str_toList] at hr hc hge hle
  refine ⟨_, _, hr, ⟨by rw [bytesV_length, Nat.mul_one], _, _, rfl, hge, hle, (fun h => nomatch h), fun a ha j u hu => ?_⟩, ⟨rfl, rfl, rfl, by rw [Lib.bytesWorld_size]; omega, fun k hk _ => Lib.bytesWorld_at_old w _ _ k hk⟩⟩
  cases ha
  have hj : j < l.length := by
    have := (List.getElem?_eq_some_iff.1 hu).1
    rwa [bytesV_length] at this
  rw [add_head, hc j hj]
  unfold bytesV bv at hu
  rw [List.getElem?_map, List.getElem?_eq_getElem hj] at hu
  rw [List.getD_eq_getElem?_getD, List.getElem?_eq_getElem hj]
  exact hu
theorem byte_cast (m : Nat) : ((UInt8.ofNat (m % 256)).toNat : Int) = (m : Int) % 256 := by
  rw [UInt8.toNat_ofNat']
  omega
set_option maxRecDepth 100000 in
set_option maxHeartbeats 1000000 in
theorem four_calls (n : Nat) (w : World) (hn : n < 4294967296) :
    Calls Tryd.prog 57 #[.int .u32 n] w fun e w' => e = .returned (.string (str (be 4 n))) ∧ Fr (fun _ => False) w w' := by
  obtain ⟨b3, h3, e3⟩ : ∃ b : UInt8, (n : Int) / 16777216 = (b.toNat : Int) ∧ b = UInt8.ofNat (n / 16777216 % 256) := ⟨_, by rw [byte_cast, Int.natCast_ediv]; show (n : Int) / 16777216 = (n : Int) / 16777216 % 256; omega, rfl⟩
  obtain ⟨b2, h2, e2⟩ : ∃ b : UInt8, (n : Int) / 65536 % 256 = (b.toNat : Int) ∧ b = UInt8.ofNat (n / 65536 % 256) := ⟨_, by rw [byte_cast]; rfl, rfl⟩
  obtain ⟨b1, h1, e1⟩ : ∃ b : UInt8, (n : Int) / 256 % 256 = (b.toNat : Int) ∧ b = UInt8.ofNat (n / 256 % 256) := ⟨_, by rw [byte_cast]; rfl, rfl⟩
  obtain ⟨b0, h0, e0⟩ : ∃ b : UInt8, (n : Int) % 256 = (b.toNat : Int) ∧ b = UInt8.ofNat (n % 256) := ⟨_, by rw [byte_cast], rfl⟩
  have hbe : be 4 n = [b3, b2, b1, b0] := by
    rw [e3, e2, e1, e0]
    simp [be]
  rw [hbe]
  clear e3 e2 e1 e0 hbe
  have hs : BytesSrc (w.alloc (.cells #[.int .u8 b3.toNat, .int .u8 b2.toNat, .int .u8 b1.toNat, .int .u8 b0.toNat] 5)) (.slice (some ⟨w.heap.size, 0, none⟩) 4 4) [b3, b2, b1, b0] :=
    Src.marked w 5 #[.int .u8 b3.toNat, .int .u8 b2.toNat, .int .u8 b1.toNat, .int .u8 b0.toNat] (0, 0) 4 rfl (by decide)
  have kt := text_of hs
  clear hs
  go_enter Tryd.func57, Tryd.ntmps57
  go_wp2
  go_ret
  exact ⟨rfl, (Fr.refl _ _).alloc _⟩

set_option maxRecDepth 100000 in
set_option maxHeartbeats 1000000 in
theorem refput_calls (l : Txt) (w : World) (hl : l.length ≤ 140737488355328) :
    Calls Tryd.prog 27 #[.string (str l)] w fun e w' => e = .returned (.tuple #[.string (str (if 16384 < l.length then [] else frameT l)), .int .i64 (if 16384 < l.length then 17 else 0)]) ∧ Fr (fun _ => False) w w' := by
  have hsz : (str l).size = l.length := str_size l
  by_cases h : 16384 < l.length
  · rw [if_pos h, if_pos h]
    have h2 : (16384 : Int) < ((str l).size : Int) := by omega
    clear hsz
    go_enter Tryd.func27, Tryd.ntmps27
    go_wp2
    go_ret2
    exact ⟨rfl, Fr.refl _ _⟩
  · rw [if_neg h, if_neg h]
    have h2 : ¬ (16384 : Int) < ((str l).size : Int) := by omega
    have H1 := Lib.hid (fun w => four_calls l.length w (by omega))
    have H2 := Lib.hid (fun w => four_calls (crcSum l) w (crcSum_lt l))
    go_enter Tryd.func27, Tryd.ntmps27
    go_wp2_with fail
    refine (H1.out _).mono ?_
    rintro e w1 ⟨rfl, f1⟩
    obtain ⟨c2, w2, kb, hb2, f2⟩ := strbytes w1 l (by simp only [maxLen]; omega)
    have HB2 := Lib.hid hb2
    have HF2 := Lib.hid f2
    have HFR := Lib.hid (show str (frameT l) = str (be 4 l.length) ++ str (be 4 (crcSum l)) ++ str l by rw [frameT, ← List.append_assoc, str_app, str_app])
    have hsa : (str (be 4 l.length)).size = 4 := by rw [str_size, be_length]
    have hsb : (str (be 4 (crcSum l))).size = 4 := by rw [str_size, be_length]
    clear hb2 f2
    go_wp2_with fail
    refine (refsum_calls _ l _ _ (Row.made w2 35 1 1 #[.slice (some ⟨w1.heap.size, 0, none⟩) l.length c2] rfl (by decide)).src (HB2.out.alloc _)).mono ?_
    rintro e w3 ⟨rfl, rfl⟩
    go_wp2_with fail
    refine (H2.out _).mono ?_
    rintro e w4 ⟨rfl, f4⟩
    go_wp2_with fail
    go_ret2
    have F4 : Fr (fun _ => False) w w4 := ((f1.trans HF2.out fun _ h => h.elim).alloc _).trans f4 fun _ h => h.elim
    rw [HFR.out]
    exact ⟨rfl, F4⟩

/-- The document's number as letters: the lowest digit first. -/
theorem digits_succ (k n : Nat) : digits (k + 1) n = digits k (n / 32) ++ [ranked (n % 32)] := by
  induction k with
  | zero => simp [digits]
  | succ k ih =>
    rw [digits, ih, digits, List.cons_append]
    congr 2
    rw [Nat.pow_succ, Nat.mul_comm, ← Nat.div_div_eq_div_mul]
theorem digits_low (k j n : Nat) : digits k (n / 32 ^ j) ++ digits j n = digits (k + j) n := by
  induction j generalizing n with
  | zero => simp [digits]
  | succ j ih =>
    rw [digits_succ j n, ← List.append_assoc, show n / 32 ^ (j + 1) = n / 32 / 32 ^ j by rw [Nat.pow_succ, Nat.mul_comm, ← Nat.div_div_eq_div_mul], ih, ← Nat.add_assoc, digits_succ (k + j) n]
theorem ranked_slice : ∀ (d : Fin 32), sixteen2.extract d (d + 1) = str [ranked d] := by decide
set_option maxRecDepth 100000 in
set_option maxHeartbeats 1000000 in
theorem refnumber_calls (n : Nat) (w : World) (hn : n < 18446744073709551616) :
    Calls Tryd.prog 59 #[.int .u64 n] w fun e w' => e = .returned (.string (str (numberT n))) ∧ w = w' := by
  go_enter Tryd.func59, Tryd.ntmps59
  go_wp2
  go_loop [0, 3, 4] (fun x u i => ∃ k : Nat, k ≤ 13 ∧ i = .int .i64 k ∧ x = .int .u64 (n / 32 ^ k : Nat) ∧ u = .string (str (digits k n))) (fun _ _ i => 13 - (RowKit.intOf i).toNat)
  case atStart => exact ⟨0, Nat.zero_le _, rfl, by simp, rfl⟩
  case round =>
    obtain ⟨k, hk, rfl, rfl, rfl⟩ := hrel
    have hxl : n / 32 ^ k < 18446744073709551616 := Nat.lt_of_le_of_lt (Nat.div_le_self _ _) hn
    by_cases hlt : k < 13
    · have hd : n / 32 ^ k % 32 < 32 := Nat.mod_lt _ (by decide)
      have hst : str (digits (k + 1) n) = str [ranked (n / 32 ^ k % 32)] ++ str (digits k n) := by rw [← str_app]; rfl
      have hdiv : n / 32 ^ (k + 1) = n / 32 ^ k / 32 := by rw [Nat.pow_succ, Nat.div_div_eq_div_mul]
      have hsl := ranked_slice ⟨n / 32 ^ k % 32, hd⟩
      have HST := Lib.hid hst
      have HDV := Lib.hid hdiv
      have HSL := Lib.hid hsl
      have hdl : (str (digits k n)).size = k := by rw [str_size, digits_length]
      clear hst hdiv hsl
      generalize n / 32 ^ k = x at *
      go_wp2
      refine ⟨⟨k + 1, by omega, by go_num, ?_, ?_⟩, by simp [RowKit.intOf]; omega⟩
      · rw [HDV.out]
        norm_cast
      · rw [HST.out, ← HSL.out]
        rfl
    · obtain rfl : k = 13 := by omega
      go_wp2
      go_ret
      exact ⟨rfl, rfl⟩

set_option maxRecDepth 100000 in
set_option maxHeartbeats 1000000 in
theorem refname_calls (n : Nat) (w : World) (hn : n < 18446744073709551616) :
    Calls Tryd.prog 29 #[.string { data := #[106] }, .int .u64 n] w fun e w' => e = .returned (.string (str (segName n))) ∧ w = w' := by
  have HN := Lib.hid (fun w => refnumber_calls n w hn)
  have hsz : (str (numberT n)).size = 13 := by rw [str_size, numberT_length]
  have HS := Lib.hid (show str (segName n) = { data := #[106] } ++ str (numberT n) by rw [show segName n = [106] ++ numberT n from rfl, str_app]; rfl)
  go_enter Tryd.func29, Tryd.ntmps29
  go_wp2_with fail
  refine (HN.out _).mono ?_
  rintro e w' ⟨rfl, rfl⟩
  go_wp2_with fail
  go_ret
  rw [HS.out]
  exact ⟨rfl, rfl⟩

/-- Strings of a slice. -/
def strVs (ls : List Txt) : List Value := ls.map fun l => .string (str l)
def Strs (w : World) (v : Value) (ls : List Txt) : Prop := Src w 1 v ls.length (strVs ls)
theorem str_eqS (a b : Txt) : ((str a).toList == (str b).toList) = (a == b) := by
  rw [ByteArray.toList_eq, ByteArray.toList_eq, str_toList, str_toList]
theorem str_sameS {a b : Txt} (h : a = b) : (!(str a).toList == (str b).toList) = false := by rw [str_eqS]; simpa using h
theorem str_otherS {a b : Txt} (h : ¬ a = b) : (!(str a).toList == (str b).toList) = true := by rw [str_eqS]; simpa using h
theorem texts_snoc (a b : List Txt) (k : Nat) (x y : Txt) (ha : a[k]? = some x) (hb : b[k]? = some y) (h : a.take k = b.take k) : (a.take (k + 1) = b.take (k + 1)) ↔ x = y := by
  rw [List.take_add_one, List.take_add_one, ha, hb, h]
  simp
set_option maxRecDepth 100000 in
set_option maxHeartbeats 2000000 in
theorem ltexts_calls (V1 V2 : Value) (l1 l2 : List Txt) (w : World) (B : Nat) (h1 : TextsAt w B V1 l1) (h2 : Strs w V2 l2) :
    Calls Tryd.prog 31 #[V1, V2] w fun e w' => e = .returned (.bool (decide (l1 = l2))) ∧ Fr (fun _ => False) w w' := by
  obtain ⟨vs, hs1, ht, -, -⟩ := h1
  obtain ⟨-, A1, c1, rfl, hvc1, hcm1, hA1, hcell1⟩ := id hs1
  obtain ⟨-, A2, c2, rfl, hvc2, hcm2, hA2, hcell2⟩ := id h2
  have hm1 : c1 ≤ 9223372036854775807 := by simp only [maxLen] at hcm1; omega
  have hm2 : c2 ≤ 9223372036854775807 := by simp only [maxLen] at hcm2; omega
  by_cases hl : l1.length = l2.length
  · have hb : ((l1.length : Int) != (l2.length : Int)) = false := by simp; omega
    have HC1 := Lib.hid hcell1
    have HC2 := Lib.hid hcell2
    have HA1 := Lib.hid hA1
    have HA2 := Lib.hid hA2
    have HT := Lib.hid ht
    have HL := Lib.hid hl
    clear hs1 h2 ht hcell1 hcell2 hA1 hA2 hl
    go_enter Tryd.func31, Tryd.ntmps31
    go_wp2
    go_loopw [5] (fun i wr => ∃ k : Nat, k ≤ l1.length ∧ i = .int .i64 k ∧ l1.take k = l2.take k ∧ Fr (fun _ => False) w wr) (fun i _ => l1.length - (RowKit.intOf i).toNat)
    case atStart => exact ⟨0, Nat.zero_le _, rfl, rfl, Fr.refl _ _⟩
    case round =>
      obtain ⟨k, hk, rfl, htk, hfr⟩ := hrel
      by_cases hlt : k < l1.length
      · obtain ⟨a1, rfl⟩ : ∃ a, A1 = some a := by
          cases A1 with
          | none => have := (HA1.out rfl).1; omega
          | some a => exact ⟨a, rfl⟩
        obtain ⟨a2, rfl⟩ : ∃ a, A2 = some a := by
          cases A2 with
          | none => have := (HA2.out rfl).1; have := HL.out; omega
          | some a => exact ⟨a, rfl⟩
        obtain ⟨x, hx⟩ : ∃ x, l1[k]? = some x := ⟨_, List.getElem?_eq_getElem hlt⟩
        obtain ⟨y, hy⟩ : ∃ y, l2[k]? = some y := ⟨_, List.getElem?_eq_getElem (by have := HL.out; omega)⟩
        obtain ⟨u, hu⟩ : ∃ u, vs[k]? = some u := ⟨_, List.getElem?_eq_getElem (by rw [HT.out.1]; exact hlt)⟩
        have hbs := (HT.out.2 k u x hu hx).fr hfr fun _ _ _ => id
        obtain ⟨-, AU, cU, rfl, -, -, -, -⟩ := id hbs
        have d1 := hfr.cell (HC1.out a1 rfl k _ hu) id
        have d2 := hfr.cell (HC2.out a2 rfl k (.string (str y)) (by unfold strVs; rw [List.getElem?_map, hy]; rfl)) id
        have kt := fun m : Nat => text_of (hbs.drewN m)
        have hsn := texts_snoc l1 l2 k x y hx hy htk
        have hlt2 : k < l2.length := by have := HL.out; omega
        have HTK := Lib.hid htk
        have HSN := Lib.hid hsn
        have hlti : (k : Int) < (l1.length : Int) := by omega
        have hlti2 : (k : Int) < (l2.length : Int) := by omega
        clear hx hy htk hsn hu hbs
        by_cases hxy : x = y
        · have hq := str_sameS hxy
          have HXY := Lib.hid hxy
          clear hxy
          go_wp2
          go_quiet (fail)
          go_wp2
          refine ⟨⟨k + 1, by omega, by go_num, HSN.out.2 HXY.out, hfr.drewN _⟩, by simp [RowKit.intOf]; omega⟩
        · have hq := str_otherS hxy
          go_wp2
          go_quiet (fail)
          go_wp2
          go_ret
          have hd : decide (l1 = l2) = false := by
            rw [decide_eq_false_iff_not]
            rintro rfl
            exact hxy (HSN.out.1 rfl)
          rw [hd]
          exact ⟨rfl, hfr.drewN _⟩
      · obtain rfl : k = l1.length := by omega
        have hd : decide (l1 = l2) = true := by
          rw [decide_eq_true_iff]
          rw [List.take_length, List.take_of_length_le (by have := HL.out; omega)] at htk
          exact htk
        have HD := Lib.hid hd
        clear htk hd
        go_wp2
        go_ret
        rw [HD.out]
        exact ⟨rfl, hfr⟩
  · have hd : decide (l1 = l2) = false := by
      rw [decide_eq_false_iff_not]
      rintro rfl
      exact hl rfl
    rw [hd]
    have hb : ((l1.length : Int) != (l2.length : Int)) = true := by simp; omega
    clear hs1 h2 hcell1 hcell2 hA1 hA2 hl hd
    go_enter Tryd.func31, Tryd.ntmps31
    go_wp2
    go_ret
    exact ⟨rfl, Fr.refl _ _⟩
end Chart

/- law 18's awake. -/
namespace Chart
open Go Go.RowKit Go.Proofs

theorem one_crash (q : Int) (k T : Txt) (n : Int) (keep : List Int) (t : UInt8) : (oneCab q k T).crash n keep t = oneCab q k T := by
  have hc : ∀ m : Int, m = 0 → Cab.cut ⟨T, T.length⟩ m t = ⟨T, T.length⟩ := fun m hm => by
    subst hm
    simp [Cab.cut]
  have hp : ∀ x : Int, Cab.part x ((T.length : Int) - (T.length : Int)) = 0 := fun x => by
    unfold Cab.part
    omega
  have hm : (if 0 < keep.length then Cab.part (keep.getD 0 0) ((T.length : Int) - (T.length : Int)) else 0) = 0 := by
    split
    · exact hp _
    · rfl
  unfold Cab.crash
  simp only [oneCab, List.take_nil, List.foldl_nil, Folder.keys, List.map_cons, List.map_nil, Cab.crashFiles, Folder.get?]
  simp only [List.find?_cons, beq_self_eq_true, Option.map_some, Option.getD_some, List.getD_cons_zero]
  rw [hc _ hm]
  simp [Cab.settle, Cab.forget, Folder.vals]
theorem one_sload (q : Int) (n : Nat) (bs : List Txt) (h : ∀ b ∈ bs, b.length ≤ 16384) : (oneCab q (segName n) (frames (headT n :: bs))).sload n = (bs, 0) := by
  unfold Cab.sload
  rw [one_read, if_neg (by simp)]
  simp only
  rw [scanF_all _ (fun b hb => by rcases List.mem_cons.1 hb with rfl | hb; exact headT_le n; exact h b hb)]
  simp
theorem frames_head (n : Nat) : frameT (headT n) = frames [headT n] := by simp [frames]
theorem frames_app (n : Nat) (bs : List Txt) (b : Txt) : frames (headT n :: bs) ++ frameT b = frames (headT n :: (bs ++ [b])) := by
  rw [← frames_snoc]
  rfl
theorem name_one : str (segName 1) = { data := #[106, 48, 48, 48, 48, 48, 48, 48, 48, 48, 48, 48, 48, 49] } := by decide
theorem COk.one (q : Int) (n : Nat) (h1 : 23 ≤ q) (h2 : q ≤ 1073741824) : COk 8 (oneCab q (segName n) (frames [headT n])) := by
  have := (COk.new q (by omega) h2).screate n
  rw [new_screate q n h1, frames_head] at this
  exact this
set_option maxRecDepth 100000 in
set_option maxHeartbeats 4000000 in
theorem awake18_calls (w : World) : Calls Tryd.prog 25 #[] w fun e w' => e = .returned (.bool true) ∧ Fr (fun _ => False) w w' := by
  have kc := fun (w : World) (C : Array Value) (n c : Nat) => Lib.run_convert_bytes_const (P := Tryd.prog) w 35 5 C n c Tryd.underlying35 Tryd.underlying5
  have HNEW := Lib.hid (fun w => new_calls 1000 w (by decide) (by decide))
  have HOK := Lib.hid (COk.one 1000 7 (by decide) (by decide))
  have HOK2 := Lib.hid (by have := HOK.out.swrite 7 [97]; rw [one_swrite 1000 7 _ [97] (by decide) (by decide) (by decide), frames_app] at this; exact this : COk 12 (oneCab 1000 (segName 7) (frames (headT 7 :: ([] ++ [[97]])))))
  have hnm := name_one
  go_enter Tryd.func25, Tryd.ntmps25
  go_wp2_with fail
  refine (HNEW.out _).mono ?_
  rintro e w1 ⟨rfl, ⟨D1, hc1, n1⟩, f1⟩
  have HC1 := Lib.hid hc1
  have HN1 := Lib.hid n1
  have HF1 := Lib.hid f1
  clear hc1 n1 f1
  go_wp2_with fail
  refine (screate_calls HC1.out (COk.new 1000 (by decide) (by decide)) (by decide) 7 (by decide)).mono ?_
  rw [new_screate 1000 7 (by decide), frames_head]
  rintro e w2 ⟨rfl, D2, h2⟩
  have A2 := Lib.hid h2
  clear h2
  go_wp2_with fail
  refine (sappend_calls (A2.out.at_.fr ((Fr.refl (fun _ => False) w2).alloc _) fun _ _ => id) HOK.out (by decide) 7 (by decide) [97] _ (Src.marked w2 5 _ _ 1 rfl (by decide))).mono ?_
  rw [one_swrite 1000 7 _ [97] (by decide) (by decide) (by decide), frames_app]
  rintro e w3 ⟨rfl, D3, h3⟩
  have A3 := Lib.hid ((A2.out.on ((Fr.refl (fun _ => False) w2).alloc _)).trans h3)
  clear h3
  go_wp2_with fail
  refine (crashC A3.out.at_ HOK2.out (by decide) 0 (by decide) (by decide) (.slice none 0 0) [] (Src.nil w3 1) (fun k hk => by simp [Value.ownBlock] at hk) 0).mono ?_
  rw [one_crash]
  rintro e w4 ⟨rfl, D4, h4⟩
  have A4 := Lib.hid (A3.out.trans h4)
  clear h4
  go_wp2_with fail
  refine (sload_calls A4.out.at_ HOK2.out 7 (by decide)).mono ?_
  rw [one_sload 1000 7 _ (by decide)]
  rintro e w5 ⟨v5, rfl, ht5, f5⟩
  obtain ⟨vs, hs, hts, -, -⟩ := ht5
  obtain ⟨-, A5, c5, rfl, hc51, hc52, hA5, hcell5⟩ := hs
  obtain ⟨a5, rfl⟩ : ∃ a, A5 = some a := by
    cases A5 with
    | none => have := (hA5 rfl).1; simp at this
    | some a => exact ⟨a, rfl⟩
  obtain ⟨u5, hu5⟩ : ∃ u, vs[0]? = some u := ⟨_, List.getElem?_eq_getElem (by rw [hts.1]; decide)⟩
  have hb5 := hts.2 0 u5 [97] hu5 rfl
  obtain ⟨-, AU, cU, rfl, -, -, -, -⟩ := id hb5
  have d5 := hcell5 a5 rfl 0 _ hu5
  rw [show a5.add 0 = a5 from rfl] at d5
  have kt := text_of hb5
  replace kt : (convert 35 9 (.slice AU 1 cU)).run Tryd.prog w5 = .ok (.string { data := #[97] }) w5 := kt
  replace d5 : w5.cell? a5 = some (.slice AU 1 cU) := d5
  have HF5 := Lib.hid f5
  have HNM := Lib.hid (fun w => segname_calls 1 w (by decide))
  simp only [List.nil_append, List.length_cons, List.length_nil, Nat.zero_add] at hc51
  simp only [maxLen] at hc52
  clear hA5 hcell5 hu5 hb5 hts f5
  go_wp2_with (go_at_call 32; refine (HNM.out _).mono ?_; rintro e w6 ⟨rfl, f6⟩)
  go_ret
  have hA : After w1 D1 (w.heap.size + 2) _ D4 w4 := A4.out
  have hD : ∀ k, D1 k → w.heap.size ≤ k := HN1.out
  have F4 : Fr (fun _ => False) w w4 := HF1.out.trans hA.fr fun k hk => .inr (hD k hk)
  exact ⟨rfl, (F4.trans HF5.out fun _ h => h.elim).trans f6 fun _ h => h.elim⟩
end Chart

/- Arguments, opened: bytes, numbers, texts, slices of anything, structs; what their sizes bear. Of whatever program. -/
namespace Chart
open Go Go.RowKit Go.ChangeShapes Go.WideShapes

/-- Whatever an argument of type t is read from is good. -/
def Reads (P : Program) (w : World) (t : TypeId) (good : List Value → Prop) : Prop :=
  ∀ (H : Type) (enc : TypeId × Value → H) (fuel : Nat) (cs : List Value) (x : DataW H × List MemPlace), DataW.trod enc P w 0 (fun _ => true) true fuel t cs = some x →
    (∀ n ∈ x.1.weights P t, n ≤ reachBytes) → good cs

section
variable {P : Program} {w : World} {t e : TypeId} {good : List Value → Prop}
theorem Reads.mono (h : Reads P w t good) {good' : List Value → Prop} (k : ∀ cs, good cs → good' cs) : Reads P w t good' := fun H enc f cs x hx hn => k cs (h H enc f cs x hx hn)
theorem reads_bool (ht : P.underlying t = some .bool) : Reads P w t fun cs => ∃ b, cs = [.bool b] := fun H enc f cs x hx _ => by
  obtain ⟨b, rfl, _⟩ := DataW.trod_bool ht hx
  exact ⟨b, rfl⟩
theorem reads_int {k : IntKind} (ht : P.underlying t = some (.int k)) : Reads P w t fun cs => ∃ n, cs = [.int k n] ∧ (Lit.int k n).wf = true := fun H enc f cs x hx _ => by
  obtain ⟨n, rfl, _, h⟩ := DataW.trod_int ht hx
  exact ⟨n, rfl, h⟩
theorem reads_string (ht : P.underlying t = some .string) : Reads P w t fun cs => ∃ s : ByteArray, cs = [.string s] ∧ s.size ≤ reachBytes := fun H enc f cs x hx hn => by
  obtain ⟨s, rfl, rfl, _⟩ := DataW.trod_string ht hx
  refine ⟨s, rfl, ?_⟩
  have := hn s.data.toList.length (by simp [DataW.weights])
  simpa using this

/-- A slice at whose places there are good cells. -/
def Many (w : World) (size bytes : Nat) (good : List Value → Prop) (cs : List Value) : Prop :=
  ∃ A n c, cs = [.slice A n c] ∧ n ≤ c ∧ c ≤ maxLen ∧ c * bytes ≤ reachBytes ∧ (A = none → n = 0 ∧ c = 0) ∧
    ∀ a, A = some a → ∀ i, i < n → ∃ xs : List Value, xs.length = size ∧ good xs ∧ ∀ j u, xs[j]? = some u → w.cell? (a.add (i * size + j)) = some u

theorem weightsAll_mem {H : Type} {P : Program} {e : TypeId} {d : DataW H} : ∀ {l : List (DataW H)}, d ∈ l → ∀ n ∈ d.weights P e, n ∈ DataW.weightsAll P e l
  | y :: r, hd, n, hn => by
    unfold DataW.weightsAll
    rcases List.mem_cons.1 hd with rfl | hd
    · exact List.mem_append_left _ hn
    · exact List.mem_append_right _ (weightsAll_mem hd n hn)
theorem reads_slice (ht : P.underlying t = some (.slice e)) (h : Reads P w e good) (size bytes : Nat) (hs : P.cellsOf e = size) (hb : P.bytesOf e = bytes) : Reads P w t (Many w size bytes good) := fun H enc f cs x hx hn => by
  subst hs hb
  rcases Deep.open_slice ht hx with ⟨rfl, rfl⟩ | ⟨a, len, cap, m, n, D, Pl, rfl, _, hl, hm, hmm, rfl, hel⟩
  · exact ⟨none, 0, 0, rfl, Nat.le_refl _, Nat.zero_le _, by simp, fun _ => ⟨rfl, rfl⟩, fun _ h => by cases h⟩
  · simp only [if_true] at hmm
    subst hmm
    refine ⟨some a, len, m, rfl, hl, hm, ?_, (fun h => by cases h), fun a' ha i hi => ?_⟩
    · have := hn ((len + (m - len)) * P.bytesOf e) (by simp [DataW.weights, ht])
      rwa [Nat.add_sub_cancel' hl] at this
    · cases ha
      obtain ⟨cs', h1, h2⟩ := hel i (by omega)
      obtain ⟨_, h3, h4⟩ := World.cells?_some h1
      refine ⟨cs', h3, h H enc n cs' _ h2 fun k hk => hn k ?_, fun j u hu => ?_⟩
      · simp only [DataW.weights, ht]
        exact List.mem_cons_of_mem _ (List.mem_append_left _ (weightsAll_mem (List.mem_map.2 ⟨i, List.mem_range.2 hi, rfl⟩) k hk))
      · have hj : j < P.cellsOf e := by
          have := (List.getElem?_eq_some_iff.1 hu).1
          omega
        have := h4 j hj
        rw [← Deep.add_add, this]
        exact hu
theorem weightsEach_mem {H : Type} {P : Program} : ∀ {ts : List TypeId} {ds : List (DataW H)} {j : Nat} {t : TypeId} {d : DataW H}, ts[j]? = some t → ds[j]? = some d → ∀ n ∈ d.weights P t, n ∈ DataW.weightsEach P ts ds := fun h1 h2 => DataW.weights_mem_each h1 h2
/-- A field of a struct: its cells are good. -/
theorem reads_field {fs : Array Field} (ht : P.underlying t = some (.struct fs)) {i : Nat} {fd : Field} (hf : fs[i]? = some fd) (h : Reads P w fd.type good) (n : Nat) (hn : P.cellsOf fd.type = n) : Reads P w t fun cs => good ((cs.drop fd.offset).take n) := fun H enc f cs x hx hw => by
  subst hn
  obtain ⟨xs, m, rfl, rfl, _, hl, hel⟩ := DataW.trod_struct ht hx
  have h1 := hel i fd hf
  have hi : i < xs.length := by
    have := (Array.getElem?_eq_some_iff.1 hf).1
    omega
  rw [List.getElem?_eq_getElem hi] at h1
  refine h H enc m _ _ h1 fun k hk => hw k ?_
  simp only [DataW.weights, ht]
  refine DataW.weights_mem_each (j := i) (t := fd.type) (d := (xs[i]).1) ?_ ?_ k hk
  · rw [List.getElem?_map, Array.getElem?_toList, hf]
    rfl
  · rw [List.getElem?_map, List.getElem?_eq_getElem hi]
    rfl
theorem reads_size {fs : Array Field} (ht : P.underlying t = some (.struct fs)) : Reads P w t fun cs => cs.length = P.cellsOf t := fun H enc f cs x hx _ => by
  obtain ⟨xs, m, rfl, rfl, h, _, _⟩ := DataW.trod_struct ht hx
  exact h
theorem Reads.and {good' : List Value → Prop} (h : Reads P w t good) (k : Reads P w t good') : Reads P w t fun cs => good cs ∧ good' cs := fun H enc f cs x hx hn => ⟨h H enc f cs x hx hn, k H enc f cs x hx hn⟩
end

theorem reads_arg {H : Type} {enc : TypeId × Value → H} {P : Program} {w : World} {t : TypeId} {good : List Value → Prop} (hr : Reads P w t good) {v : Value} {d : DataW H} {p : List MemPlace} (h : DataW.Trod enc P w 0 (fun _ => true) true t v d p)
    {ts : List TypeId} {ds : List (DataW H)} (hsz : (DataW.weightsEach P ts ds).all (· ≤ reachBytes) = true) {j : Nat} (ht : ts[j]? = some t) (hd : ds[j]? = some d) : good v.cells.toList := by
  obtain ⟨f, hf⟩ := h
  exact hr H enc f _ _ hf fun n hn => by simpa using List.all_eq_true.1 hsz n (DataW.weights_mem_each ht hd n hn)
theorem slice_cells {A : Option Addr} {n c : Nat} : (Value.slice A n c).cells.toList = [.slice A n c] := rfl

/-- A later cell of an element, as a walk spells it. -/
theorem add_field (a : Addr) (m j : Nat) (h : 0 < j) : a.add (m + j) = ⟨(a.add m).block, (a.add m).off + j, none⟩ := by
  unfold Addr.add
  by_cases hm : m = 0
  · subst hm
    rw [if_neg (by omega), if_pos rfl, Nat.zero_add]
  · rw [if_neg (by omega), if_neg hm]
    simp [Nat.add_assoc]

/-! ### Numbers -/
theorem many_ints {w : World} {k : IntKind} {bytes : Nat} {cs : List Value} (h : Many w 1 bytes (fun cs => ∃ n, cs = [.int k n] ∧ (Lit.int k n).wf = true) cs) :
    ∃ (v : Value) (zs : List Int), cs = [v] ∧ Src w 1 v zs.length (zs.map (Value.int k)) ∧ (∀ n ∈ zs, (Lit.int k n).wf = true) ∧ zs.length * bytes ≤ reachBytes ∧ ∀ q, v.ownBlock = some q → 0 < zs.length → q < w.heap.size := by
  obtain ⟨A, n, c, rfl, h1, h2, h3, h4, h5⟩ := h
  cases A with
  | none =>
    obtain ⟨rfl, rfl⟩ := h4 rfl
    exact ⟨_, [], rfl, Src.nil w 1, by simp, by simp, fun q hq => by simp [Value.ownBlock] at hq⟩
  | some a =>
    have hex : ∀ i, i < n → ∃ z : Int, w.cell? (a.add i) = some (.int k z) ∧ (Lit.int k z).wf = true := fun i hi => by
      obtain ⟨xs, _, ⟨z, rfl, hz⟩, h6⟩ := h5 a rfl i hi
      exact ⟨z, by have := h6 0 _ rfl; simpa using this, hz⟩
    obtain ⟨Z, hZ⟩ := Deep.choose_lt hex
    refine ⟨_, (List.range n).map Z, rfl, ⟨by simp, some a, c, by simp, by simpa using h1, h2, (fun h => by cases h), fun a' ha j u hu => ?_⟩, fun z hz => ?_, ?_, fun q hq h0 => ?_⟩
    · cases ha
      have hj : j < n := by
        have := (List.getElem?_eq_some_iff.1 hu).1
        simpa using this
      rw [List.getElem?_map, List.getElem?_map, List.getElem?_range hj] at hu
      simp at hu
      subst hu
      exact (hZ j hj).1
    · rw [List.mem_map] at hz
      obtain ⟨i, hi, rfl⟩ := hz
      exact (hZ i (List.mem_range.1 hi)).2
    · have : n * bytes ≤ c * bytes := Nat.mul_le_mul_right _ h1
      simp
      omega
    · simp at h0
      have := World.block_lt_of_cell? w _ (hZ 0 h0).1
      rw [Chart.block_add] at this
      simp [Value.ownBlock] at hq
      omega
end Chart

/- SegmentBytes: the walk. -/
namespace Chart
open Go Go.RowKit Go.Proofs
attribute [local go_sem ↓] Go.wp_at_zero Go.wp_at_succ

/-- Bytes that came in. -/
theorem many_bytesS {w : World} {cs : List Value} (h : Many w 1 1 (fun cs => ∃ n, cs = [.int .u8 n] ∧ (Lit.int .u8 n).wf = true) cs) :
    ∃ (v : Value) (l : Txt), cs = [v] ∧ BytesSrc w v l ∧ l.length ≤ reachBytes ∧ ∀ q, v.ownBlock = some q → 0 < l.length → q < w.heap.size := by
  obtain ⟨v, zs, rfl, h1, h2, h3, h4⟩ := many_ints h
  have e : zs.map (Value.int .u8) = bytesV (zs.map fun n => UInt8.ofNat n.toNat) := by
    unfold bytesV bv
    rw [List.map_map]
    refine List.map_congr_left fun n hn => ?_
    have hb := bounds_u8 (h2 n hn)
    simp only [Function.comp, UInt8.toNat_ofNat']
    congr 1
    omega
  refine ⟨v, zs.map fun n => UInt8.ofNat n.toNat, rfl, ?_, by simpa using h3, fun q hq h0 => h4 q hq (by simpa using h0)⟩
  unfold BytesSrc
  rw [← e, List.length_map]
  exact h1
def GoodBytes (w : World) (cs : List Value) : Prop := ∃ (v : Value) (l : Txt), cs = [v] ∧ BytesSrc w v l ∧ l.length ≤ reachBytes ∧ ∀ q, v.ownBlock = some q → 0 < l.length → q < w.heap.size
theorem bytesS_reads (w : World) : Reads Tryd.prog w 35 (GoodBytes w) :=
  (reads_slice Tryd.underlying35 (reads_int Tryd.underlying5) 1 1 (by kernel_rfl) (by kernel_rfl)).mono fun _ h => many_bytesS h
theorem bss_reads (w : World) : Reads Tryd.prog w 56 (Many w 1 24 (GoodBytes w)) :=
  reads_slice Tryd.underlying56 (bytesS_reads w) 1 24 (by kernel_rfl) (by kernel_rfl)
/-- Texts that came in. -/
structure TextsIn (w : World) (v : Value) (ls : List Txt) (vs : List Value) : Prop where
  src : Src w 1 v ls.length vs
  texts : Texts w vs ls
  small : ∀ l ∈ ls, l.length ≤ reachBytes
  old : ∀ (i : Nat) (u : Value) (l : Txt), vs[i]? = some u → ls[i]? = some l → ∀ q, u.ownBlock = some q → 0 < l.length → q < w.heap.size
theorem many_texts {w : World} {v : Value} (h : Many w 1 24 (GoodBytes w) [v]) : ∃ ls vs, TextsIn w v ls vs := by
  obtain ⟨A, n, c, hv, h1, h2, h3, h4, h5⟩ := h
  obtain rfl : v = .slice A n c := by simpa using hv
  cases A with
  | none =>
    obtain ⟨rfl, rfl⟩ := h4 rfl
    exact ⟨[], [], Src.nil w 1, ⟨rfl, fun i v l h => by simp at h⟩, by simp, fun i u l h => by simp at h⟩
  | some a =>
    have hex : ∀ i, i < n → ∃ x : Value × Txt, w.cell? (a.add i) = some x.1 ∧ BytesSrc w x.1 x.2 ∧ x.2.length ≤ reachBytes ∧ ∀ q, x.1.ownBlock = some q → 0 < x.2.length → q < w.heap.size := fun i hi => by
      obtain ⟨xs, _, ⟨u, l, rfl, hb, hl, hq⟩, h6⟩ := h5 a rfl i hi
      exact ⟨(u, l), by have := h6 0 _ rfl; simpa using this, hb, hl, hq⟩
    haveI : Inhabited (Value × Txt) := ⟨(undef, [])⟩
    obtain ⟨Z, hZ⟩ := Deep.choose_lt hex
    have get : ∀ i (f : Value × Txt → Value) u, ((List.range n).map fun i => f (Z i))[i]? = some u → i < n ∧ u = f (Z i) := fun i f u hu => by
      have hi : i < n := by
        have := (List.getElem?_eq_some_iff.1 hu).1
        simpa using this
      rw [List.getElem?_map, List.getElem?_range hi] at hu
      simp at hu
      exact ⟨hi, hu.symm⟩
    have getT : ∀ i u, ((List.range n).map fun i => (Z i).2)[i]? = some u → u = (Z i).2 := fun i u hu => by
      have hi : i < n := by
        have := (List.getElem?_eq_some_iff.1 hu).1
        simpa using this
      rw [List.getElem?_map, List.getElem?_range hi] at hu
      simp at hu
      exact hu.symm
    refine ⟨(List.range n).map fun i => (Z i).2, (List.range n).map fun i => (Z i).1, ⟨by simp, some a, c, by simp, by simpa using h1, h2, (fun h => nomatch h), fun b hb j u hu => ?_⟩, ⟨by simp, fun i u l h6 h7 => ?_⟩, fun l hl => ?_, fun i u l h6 h7 => ?_⟩
    · cases hb
      obtain ⟨hj, rfl⟩ := get j Prod.fst u hu
      exact (hZ j hj).1
    · obtain ⟨hj, rfl⟩ := get i Prod.fst u h6
      obtain rfl := getT i l h7
      exact (hZ i hj).2.1
    · rw [List.mem_map] at hl
      obtain ⟨i, hi, rfl⟩ := hl
      exact (hZ i (List.mem_range.1 hi)).2.2.1
    · obtain ⟨hj, rfl⟩ := get i Prod.fst u h6
      obtain rfl := getT i l h7
      exact (hZ i hj).2.2.2

def fits (l : Txt) : Bool := decide (l.length ≤ 16384)
theorem filt_snoc {L : List Txt} {k : Nat} {l : Txt} (h : L[k]? = some l) : (L.take (k + 1)).filter fits = (L.take k).filter fits ++ (if fits l then [l] else []) := by
  rw [List.take_add_one, h, List.filter_append]
  simp [List.filter_cons]
theorem filt_le (L : List Txt) (k : Nat) : ∀ b ∈ (L.take k).filter fits, b.length ≤ 16384 := fun b hb => by
  rw [List.mem_filter] at hb
  simpa [fits] using hb.2
theorem filt_len (L : List Txt) (k : Nat) : ((L.take k).filter fits).length ≤ k := by
  have h1 := List.length_filter_le fits (L.take k)
  rw [List.length_take] at h1
  omega
theorem frames_len (bs : List Txt) (h : ∀ b ∈ bs, b.length ≤ 16384) : (frames bs).length ≤ 16392 * bs.length := by
  induction bs with
  | nil => simp [frames]
  | cons b t ih =>
    have e : frames (b :: t) = frameT b ++ frames t := by simp [frames]
    have := ih fun x hx => h x (by simp [hx])
    have := h b (by simp)
    rw [e, List.length_append, frameT_length, List.length_cons]
    omega
theorem frames_head_len (n : Nat) (bs : List Txt) (h : ∀ b ∈ bs, b.length ≤ 16384) : (frames (headT n :: bs)).length ≤ 23 + 16392 * bs.length := by
  have e : frames (headT n :: bs) = frameT (headT n) ++ frames bs := by simp [frames]
  have := frames_len bs h
  rw [e, List.length_append, frameT_length, headT_length]
  omega
theorem be_snoc (n j : Nat) (hj : j ≤ 7) : (be 8 n).take (8 - j) = (be 8 n).take (7 - j) ++ [UInt8.ofNat (n / 256 ^ j % 256)] := by
  have e : 8 - j = (7 - j) + 1 := by omega
  have h : (be 8 n)[7 - j]? = some (UInt8.ofNat (n / 256 ^ j % 256)) := by
    rw [be_range, List.getElem?_map, List.getElem?_range (by omega)]
    show some (UInt8.ofNat (n / 256 ^ (8 - 1 - (7 - j)) % 256)) = _
    rw [show 8 - 1 - (7 - j) = j by omega]
  rw [e, List.take_add_one, h]
  rfl
/-- The cabinet with the segment, in memory of the call's own. -/
def SegHere (w0 w : World) (p : Nat) (q : Int) (n : Nat) (bs : List Txt) (B : Nat) (D : Nat → Prop) : Prop :=
  CabAt w p (oneCab q (segName n) (frames (headT n :: bs))) D ∧ COk B (oneCab q (segName n) (frames (headT n :: bs))) ∧ (∀ k, D k → w0.heap.size ≤ k) ∧ Fr (fun _ => False) w0 w
theorem SegHere.on {w0 w w' : World} {p : Nat} {q : Int} {n : Nat} {bs : List Txt} {B : Nat} {D : Nat → Prop} (h : SegHere w0 w p q n bs B D) (hf : Fr (fun _ => False) w w') : SegHere w0 w' p q n bs B D :=
  ⟨h.1.fr hf fun _ _ => id, h.2.1, h.2.2.1, h.2.2.2.trans hf fun _ h => h.elim⟩
theorem SegHere.step {w0 w w' : World} {p : Nat} {q : Int} {n : Nat} {bs bs' : List Txt} {B B' : Nat} {D D' : Nat → Prop} (h : SegHere w0 w p q n bs B D) (k : After w D p (oneCab q (segName n) (frames (headT n :: bs'))) D' w') (ok : COk B' (oneCab q (segName n) (frames (headT n :: bs')))) : SegHere w0 w' p q n bs' B' D' :=
  ⟨k.at_, ok, fun i hi => by
      rcases k.new i hi with h1 | h1
      · exact h.2.2.1 i h1
      · exact Nat.le_trans h.2.2.2.size h1, h.2.2.2.trans k.fr fun i hi => .inr (h.2.2.1 i hi)⟩
theorem large_swrite (c : Cab) (n : Nat) (b : Txt) (h : 16384 < b.length) : c.swrite n b = (c, 17) := by
  unfold Cab.swrite
  rw [if_pos h]
end Chart

/- SegmentBytes: the walk. -/
namespace Chart
open Go Go.RowKit Go.Proofs
attribute [local go_sem ↓] Go.wp_at_zero Go.wp_at_succ

theorem string_infoS : (Tryd.prog.info? 9).map (fun i => (i.zero, i.size, i.bytes)) = some (some (.string ⟨#[]⟩), 1, 16) := by kernel_rfl
theorem ltexts_same (V1 V2 : Value) (l : List Txt) (w : World) (B : Nat) (h1 : TextsAt w B V1 l) (h2 : Strs w V2 l) :
    Calls Tryd.prog 31 #[V1, V2] w fun e w' => e = .returned (.bool true) ∧ Fr (fun _ => False) w w' := by
  have h := ltexts_calls V1 V2 l l w B h1 h2
  have e : decide (l = l) = true := by simp
  rw [e] at h
  exact h
set_option maxRecDepth 100000 in
set_option maxHeartbeats 8000000 in
theorem segbytes_calls (n : Nat) (hn : n < 18446744073709551616) (V : Value) (L : List Txt) (vs : List Value) (w : World) (hL : TextsIn w V L vs) :
    Calls Tryd.prog 6 #[.int .u64 n, V] w fun e w' => e = .returned (.bool true) ∧ Fr (fun _ => False) w w' := by
  obtain ⟨-, A, cp, rfl, hvc, hcm, hA, hcell⟩ := id hL.src
  have hm : cp ≤ 9223372036854775807 := by simp only [maxLen] at hcm; omega
  have HL := Lib.hid hL
  obtain ⟨i0, hi0, hz0, hz1', hz2'⟩ := info_parts string_infoS
  have HNEW := Lib.hid (fun w => new_calls 1048576 w (by decide) (by decide))
  have HRP := Lib.hid (fun w => refput_calls (headT n) w (by rw [headT_length]; decide))
  have HNM := Lib.hid (fun w => segname_calls n w hn)
  have HRN := Lib.hid (fun w => refname_calls n w hn)
  clear hL hA hcell
  go_enter Tryd.func6, Tryd.ntmps6
  go_wp2_with fail
  refine (HNEW.out _).mono ?_
  rintro e w1 ⟨rfl, ⟨D1, hc1, n1⟩, f1⟩
  have HC1 := Lib.hid hc1
  have HN1 := Lib.hid n1
  have HF1 := Lib.hid f1
  clear hc1 n1 f1
  go_wp2_with fail
  refine (awake18_calls _).mono ?_
  rintro e w2 ⟨rfl, f2⟩
  have HF2 := Lib.hid (HF1.out.trans f2 fun _ h => h.elim)
  have HC2 := Lib.hid (HC1.out.fr f2 fun _ _ => id)
  clear f2
  go_wp2_with fail
  refine (screate_calls HC2.out (COk.new 1048576 (by decide) (by decide)) (by decide) n hn).mono ?_
  rw [new_screate 1048576 n (by decide), frames_head]
  rintro e w3 ⟨rfl, D3, h3⟩
  have hsh : SegHere w w3 (w.heap.size + 2) 1048576 n [] 8 D3 := ⟨h3.at_, COk.one 1048576 n (by decide) (by decide), fun k hk => by
      rcases h3.new k hk with h | h
      · exact HN1.out k h
      · exact Nat.le_trans HF2.out.size h, HF2.out.trans h3.fr fun k hk => .inr (HN1.out k hk)⟩
  have HS3 := Lib.hid hsh
  clear h3 hsh
  go_wp2_with fail
  go_loopw [7, 8] (fun u i wr => ((∃ j : Nat, j ≤ 7 ∧ i = .int .i64 j ∧ u = .string (str (journalT ++ (be 8 n).take (7 - j)))) ∨ (i = .int .i64 (-1) ∧ u = .string (str (headT n)))) ∧ Fr (fun _ => False) w3 wr) (fun _ i _ => ((RowKit.intOf i) + 1).toNat)
  case atStart => exact ⟨.inl ⟨7, Nat.le_refl _, rfl, rfl⟩, Fr.refl _ _⟩
  case round =>
    obtain ⟨hrel, hfr⟩ := hrel
    rcases hrel with ⟨j, hj, rfl, rfl⟩ | ⟨rfl, rfl⟩
    · obtain ⟨b, hbd⟩ : ∃ b : UInt8, b = UInt8.ofNat (n / 256 ^ j % 256) := ⟨_, rfl⟩
      have hb : ((n : Int) / 2 ^ (8 * j)) % 256 = (b.toNat : Int) := by
        rw [hbd, byte_cast, show (2 : Int) ^ (8 * j) = ((2 ^ (8 * j) : Nat) : Int) by norm_cast, Nat.pow_mul]
        norm_cast
      have hsn := be_snoc n j hj
      rw [← hbd] at hsn
      have hst : str (journalT ++ (be 8 n).take (8 - j)) = str (journalT ++ (be 8 n).take (7 - j)) ++ str [b] := by
        rw [hsn, ← str_app, List.append_assoc]
      have hsz : (str (journalT ++ (be 8 n).take (7 - j))).size ≤ 15 := by
        rw [str_size, List.length_append, List.length_take, be_length]
        simp only [journalT, List.length_cons, List.length_nil]
        omega
      have HST := Lib.hid hst
      have kt := text_of (show BytesSrc (wr.alloc (.cells #[.int .u8 b.toNat] 5)) (.slice (some ⟨wr.heap.size, 0, none⟩) 1 1) [b] from Src.marked wr 5 #[.int .u8 b.toNat] (0, 0) 1 rfl (by decide))
      have hsb : (str [b]).size = 1 := str_size [b]
      clear hbd hsn hst
      generalize str (journalT ++ (be 8 n).take (7 - j)) = uu at *
      go_wp2
      refine ⟨⟨?_, hfr.alloc _⟩, by simp [RowKit.intOf] <;> omega⟩
      cases j with
      | zero =>
        refine .inr ⟨by go_num, ?_⟩
        have := HST.out
        rw [List.take_of_length_le (by rw [be_length]; omega)] at this
        rw [show headT n = journalT ++ be 8 n from rfl, this]
      | succ j =>
        refine .inl ⟨j, by omega, by go_num, ?_⟩
        rw [show 7 - j = 8 - (j + 1) by omega, HST.out]
    · go_wp2_with fail
      refine (HRP.out _).mono ?_
      rw [if_neg (by rw [headT_length]; decide), if_neg (by rw [headT_length]; decide), frames_head]
      rintro e w4 ⟨rfl, f4⟩
      have HS4 := Lib.hid (HS3.out.on (hfr.trans f4 fun _ h => h.elim))
      clear hfr f4
      go_wp2_with fail
      have HR0 := Lib.hid (Row.made w4 9 1 0 #[] rfl (Nat.zero_le _))
      go_loopw [9, 11, 12] (fun wt tl i wr => ∃ (k : Nat) (D : Nat → Prop), k ≤ L.length ∧ k ≤ 12 ∧ i = .int .i64 k ∧ wt = .string (str (frames (headT n :: (L.take k).filter fits))) ∧ Row wr 9 1 tl ((L.take k).filter fits).length (strVs ((L.take k).filter fits)) ∧ (∀ q, tl.ownBlock = some q → w.heap.size ≤ q ∧ ¬ D q) ∧ SegHere w wr (w.heap.size + 2) 1048576 n ((L.take k).filter fits) (8 + 4 * k) D) (fun _ _ i _ => L.length - (RowKit.intOf i).toNat)
      case atStart =>
        refine ⟨0, D3, Nat.zero_le _, Nat.zero_le _, rfl, by simp, HR0.out, fun q hq => ?_, HS4.out.on ((Fr.refl (fun _ => False) w4).alloc _)⟩
        simp [Value.ownBlock] at hq
        subst hq
        exact ⟨HS4.out.2.2.2.size, fun hd => by have := HS4.out.1.below hd; omega⟩
      case round =>
        obtain ⟨k, D, hk, hk12, rfl, rfl, hrow, hown, hsh⟩ := hrel
        have hbs := filt_le L k
        have hbl := filt_len L k
        have hfl := frames_head_len n _ hbs
        by_cases hlt : k < L.length ∧ k < 12
        · obtain ⟨hlt, hk11⟩ := hlt
          obtain ⟨l, hl⟩ : ∃ l, L[k]? = some l := ⟨_, List.getElem?_eq_getElem hlt⟩
          obtain ⟨u, hu⟩ : ∃ u, vs[k]? = some u := ⟨_, List.getElem?_eq_getElem (by rw [HL.out.texts.1]; exact hlt)⟩
          have hsn := filt_snoc hl
          have hb0 := HL.out.texts.2 k u l hu hl
          obtain ⟨-, _, _, hv1, -, -, hA1, hcells⟩ := id HL.out.src
          injection hv1 with e1 _ e3
          subst e1 e3
          obtain ⟨a, rfl⟩ : ∃ a, A = some a := by
            cases A with
            | none => have := (hA1 rfl).1; omega
            | some a => exact ⟨a, rfl⟩
          have d0 := hcells a rfl k _ hu
          obtain ⟨-, AU, cU, rfl, -, -, -, -⟩ := id hb0
          have HB0 := Lib.hid hb0
          have HD0 := Lib.hid d0
          have d1 := hsh.2.2.2.cell d0 id
          have HSH := Lib.hid hsh
          have HROW := Lib.hid hrow
          have HOWN := Lib.hid hown
          generalize (L.take k).filter fits = bs at *
          clear hA1 hcells hu hb0 d0 hsh hrow hown
          by_cases hbig : 16384 < l.length
          · have hft : fits l = false := by simp [fits]; omega
            rw [hft] at hsn
            simp only [Bool.false_eq_true, if_false, List.append_nil] at hsn
            have HSN := Lib.hid hsn
            have hbi : (16384 : Int) < (l.length : Int) := by omega
            clear hsn hft hl
            go_wp2_with fail
            refine (sappend_calls HSH.out.1 HSH.out.2.1 (by omega) n hn l (.slice AU l.length cU) (HB0.out.fr HSH.out.2.2.2 fun _ _ _ => id)).mono ?_
            rw [large_swrite _ n l hbig]
            rintro e w5 ⟨rfl, D5, h5⟩
            have HS5 := Lib.hid (HSH.out.step h5 (HSH.out.2.1.mono (Nat.le_add_right _ 4)))
            have HR5 := Lib.hid (HROW.out.fr h5.fr fun q hq e => (HOWN.out q hq).2 e)
            have HO5 := Lib.hid (fun q hq => (⟨(HOWN.out q hq).1, fun e => by
              rcases h5.new q e with h | h
              · exact (HOWN.out q hq).2 h
              · have := HROW.out.lt hq
                omega⟩ : w.heap.size ≤ q ∧ ¬ D5 q))
            have d5 := HS5.out.2.2.2.cell HD0.out id
            clear h5 d1
            go_wp2_with fail
            refine ⟨⟨k + 1, D5, by omega, by omega, by go_num, ?_, ?_, HO5.out, ?_⟩, by simp [RowKit.intOf]; omega⟩
            · rw [HSN.out]
            · rw [HSN.out]
              exact HR5.out
            · rw [HSN.out]
              exact HS5.out
          · have hft : fits l = true := by simp [fits]; omega
            rw [hft] at hsn
            simp only [if_true] at hsn
            have HSN := Lib.hid hsn
            have hbi : ¬ (16384 : Int) < (l.length : Int) := by omega
            have hsw := one_swrite 1048576 n (frames (headT n :: bs)) l (by omega) (by omega) (by omega)
            rw [frames_app] at hsw
            have hstr : str (frames (headT n :: (bs ++ [l]))) = str (frames (headT n :: bs)) ++ str (frameT l) := by rw [← frames_app, str_app]
            have hz1 : (str (frames (headT n :: bs))).size ≤ 1000000 := by rw [str_size]; omega
            have hz2 : (str (frameT l)).size ≤ 20000 := by rw [str_size, frameT_length]; omega
            have HSTR := Lib.hid hstr
            have HRP2 := Lib.hid (fun w => refput_calls l w (by omega))
            have hok5 := HSH.out.2.1.swrite n l
            rw [hsw] at hok5
            clear hsn hft hl hstr
            go_wp2_with fail
            refine (sappend_calls HSH.out.1 HSH.out.2.1 (by omega) n hn l (.slice AU l.length cU) (HB0.out.fr HSH.out.2.2.2 fun _ _ _ => id)).mono ?_
            rw [hsw]
            rintro e w5 ⟨rfl, D5, h5⟩
            have HS5 := Lib.hid (HSH.out.step h5 hok5)
            have HR5 := Lib.hid (HROW.out.fr h5.fr fun q hq e => (HOWN.out q hq).2 e)
            have HO5 := Lib.hid (fun q hq => (⟨(HOWN.out q hq).1, fun e => by
              rcases h5.new q e with h | h
              · exact (HOWN.out q hq).2 h
              · have := HROW.out.lt hq
                omega⟩ : w.heap.size ≤ q ∧ ¬ D5 q))
            have d5 := HS5.out.2.2.2.cell HD0.out id
            have kt5 := text_of (HB0.out.fr HS5.out.2.2.2 fun _ _ _ => id)
            clear h5 d1 hsw hok5
            go_wp2_with fail
            refine (HRP2.out _).mono ?_
            rw [if_neg (by omega), if_neg (by omega)]
            rintro e w6 ⟨rfl, f6⟩
            have HS6 := Lib.hid (HS5.out.on f6)
            have HR6 := Lib.hid (HR5.out.fr f6 fun _ _ => id)
            have d6 := HS6.out.2.2.2.cell HD0.out id
            have kt6 := text_of (HB0.out.fr HS6.out.2.2.2 fun _ _ _ => id)
            have hs6 := f6.size
            clear d5 kt5 f6
            go_wp2_with (at_builtin; refine wpList_append_row _ rfl (.tmp 93) (.tmp 99) 44 rfl 9 i0 _ 1 16 Tryd.underlying44 hi0 hz0 hz1' hz2' rfl (by decide) u11 _ _ rfl (HR6.out.alloc _) _ 1 _ rfl (Row.made w6 9 1 1 #[.string (str l)] rfl (by decide)).src (by intro u hu; simp at hu; subst hu; rfl) (by simp only [maxLen]; omega) (by omega) ?_; intro v7 w7 hrow7 hfr7 hwh7)
            have hlt6 : ∀ q, u11.ownBlock = some q → q < w6.heap.size := fun q hq => HR6.out.lt hq
            have hD6 : ∀ q, D5 q → q < w6.heap.size := fun q hq => HS6.out.1.below hq
            refine ⟨⟨k + 1, D5, by omega, by omega, by go_num, ?_, ?_, fun q hq => ?_, ?_⟩, by simp [RowKit.intOf]; omega⟩
            · rw [HSN.out, HSTR.out]
            · rw [HSN.out]
              have := hrow7
              simpa [strVs] using this
            · rcases hwh7 with h | h
              · rw [h] at hq
                exact HO5.out q hq
              · rw [h] at hq
                simp at hq
                exact ⟨by have := HS6.out.2.2.2.size; omega, fun hd => by have := hD6 q hd; omega⟩
            · rw [HSN.out]
              have hc7 : CabAt w7 (w.heap.size + 2) (oneCab 1048576 (segName n) (frames (headT n :: (bs ++ [l])))) D5 := (HS6.out.1.fr ((Fr.refl (fun _ => False) w6).alloc _) fun _ _ => id).fr hfr7 fun q hq e => (HO5.out q e).2 hq
              exact ⟨hc7, HS6.out.2.1.mono (by omega), HS6.out.2.2.1, (HS6.out.2.2.2.alloc _).trans hfr7 fun q hq => .inr (HO5.out q hq).1⟩
        · have HSH := Lib.hid hsh
          have HROW := Lib.hid hrow
          generalize (L.take k).filter fits = bs at *
          clear hsh hrow hown
          by_cases hn2 : k < L.length
          · have hk2 : ¬ (k : Int) < 12 := by omega
            have hk3 : ¬ k < 12 := by omega
            clear hlt
            go_wp2_with fail
            refine (HRN.out _).mono ?_
            rintro e w5 ⟨rfl, rfl⟩
            go_wp2_with fail
            refine (readC HSH.out.1 HSH.out.2.1 (segName n) (segName_max n)).mono ?_
            rw [one_read]
            rintro e w6 ⟨v6, rfl, hb6, -, f6⟩
            obtain ⟨A6, c6, rfl, -, -⟩ := hb6.shape
            have HS6 := Lib.hid (HSH.out.on f6)
            have HB6 := Lib.hid hb6
            have HR6 := Lib.hid (HROW.out.fr f6 fun _ _ => id)
            clear hb6 f6
            go_wp2_with fail
            refine (sload_calls HS6.out.1 HS6.out.2.1 n hn).mono ?_
            rw [one_sload 1048576 n _ hbs]
            rintro e w7 ⟨v7, rfl, ht7, f7⟩
            have HT7 := Lib.hid ht7
            have HS7 := Lib.hid (HS6.out.on f7)
            have HR7 := Lib.hid (HR6.out.fr f7 fun _ _ => id)
            have kt7 := text_of (HB6.out.fr f7 fun _ _ => id).src
            clear ht7 f7
            go_wp2_with (first
              | (go_at_call 31; refine (ltexts_same v7 u11 bs w7 _ HT7.out HR7.out.src).mono ?_; rintro e w8 ⟨rfl, f8⟩)
              | (go_at_call 32; refine (HNM.out _).mono ?_; rintro e w9 ⟨rfl, f9⟩)
              | (go_at_call 29; refine (HRN.out _).mono ?_; rintro e w10 ⟨rfl, rfl⟩))
            go_ret
            exact ⟨rfl, (HS7.out.2.2.2.trans f8 fun _ h => h.elim).trans f9 fun _ h => h.elim⟩
          · clear hlt
            go_wp2_with fail
            refine (HRN.out _).mono ?_
            rintro e w5 ⟨rfl, rfl⟩
            go_wp2_with fail
            refine (readC HSH.out.1 HSH.out.2.1 (segName n) (segName_max n)).mono ?_
            rw [one_read]
            rintro e w6 ⟨v6, rfl, hb6, -, f6⟩
            obtain ⟨A6, c6, rfl, -, -⟩ := hb6.shape
            have HS6 := Lib.hid (HSH.out.on f6)
            have HB6 := Lib.hid hb6
            have HR6 := Lib.hid (HROW.out.fr f6 fun _ _ => id)
            clear hb6 f6
            go_wp2_with fail
            refine (sload_calls HS6.out.1 HS6.out.2.1 n hn).mono ?_
            rw [one_sload 1048576 n _ hbs]
            rintro e w7 ⟨v7, rfl, ht7, f7⟩
            have HT7 := Lib.hid ht7
            have HS7 := Lib.hid (HS6.out.on f7)
            have HR7 := Lib.hid (HR6.out.fr f7 fun _ _ => id)
            have kt7 := text_of (HB6.out.fr f7 fun _ _ => id).src
            clear ht7 f7
            go_wp2_with (first
              | (go_at_call 31; refine (ltexts_same v7 u11 bs w7 _ HT7.out HR7.out.src).mono ?_; rintro e w8 ⟨rfl, f8⟩)
              | (go_at_call 32; refine (HNM.out _).mono ?_; rintro e w9 ⟨rfl, f9⟩)
              | (go_at_call 29; refine (HRN.out _).mono ?_; rintro e w10 ⟨rfl, rfl⟩))
            go_ret
            exact ⟨rfl, (HS7.out.2.2.2.trans f8 fun _ h => h.elim).trans f9 fun _ h => h.elim⟩
end Chart
namespace Chart
open Go Go.RowKit Go.Proofs
theorem segbytes_row (n : Int) (hn : (Lit.int .u64 n).wf = true) (V : Value) (w : World) (h : Many w 1 24 (GoodBytes w) [V]) :
    Calls Tryd.prog 6 #[.int .u64 n, V] w fun e w' => e = .returned (.bool true) ∧ Fr (fun _ => False) w w' := by
  obtain ⟨h0, h1⟩ := bounds_u64 hn
  obtain ⟨m, rfl⟩ := Int.eq_ofNat_of_zero_le h0
  obtain ⟨L, vs, hL⟩ := many_texts h
  exact segbytes_calls m (by omega) V L vs w hL
end Chart

/- What every law's row needs beside its walk: the arguments read as they did; the answer is true. -/
namespace Chart
open Go Go.ChangeShapes Go.WideShapes Go.ChangeAt Go.RowKit

section
variable {H : Type} {enc : TypeId × Value → H} {P : Program}
theorem trodAll_stays (hl : laidOutB P = true) {W W' : World} (hb : Below W.heap.size W W') {sp : Nat → Bool} : ∀ {ts : List TypeId} {vs : List Value} {ds : List (DataW H)} {ps : List MemPlace}, (∀ t ∈ ts, P.readableRec t = true ∧ t < P.types.size) →
    DataW.TrodAll enc P W 0 (fun _ => true) true ts vs ds ps → (∀ p ∈ ps, p.block < W.heap.size) → (∀ p ∈ ps, sp p.block = true) → DataW.TrodAll enc P W' 0 sp true ts vs ds ps
  | [], [], [], _, _, h, _, _ => h
  | _ :: _, _ :: _, _ :: _, _, hT, ⟨p, q, h1, h2, e⟩, hlt, hs => ⟨p, q,
      WideElems.Trod_stays hl (hT _ (List.mem_cons.2 (Or.inl rfl))).1 (hT _ (List.mem_cons.2 (Or.inl rfl))).2 h1 (fun x hx => hb.same (hlt x (by rw [e]; exact List.mem_append_left _ hx))) (fun x hx => hs x (by rw [e]; exact List.mem_append_left _ hx)),
      trodAll_stays hl hb (fun t ht => hT t (List.mem_cons.2 (Or.inr ht))) h2 (fun x hx => hlt x (by rw [e]; exact List.mem_append_right _ hx)) (fun x hx => hs x (by rw [e]; exact List.mem_append_right _ hx)), e⟩

/-- A law's answer: true; the arguments read as they did; of what was there nothing has turned. -/
theorem post_true {f : Func} {s : ChangeSpec} {apart fresh : Bool} {b : TypeId} {W W' : World} {args : Array Value} {ds : List (DataW H)} {p q : List MemPlace}
    (hl : laidOutB P = true) (hb : P.underlying b = some .bool) (hres : f.resultTypes = #[b]) (hvars : s.vars = [])
    (hW : DataW.Whole enc P f.params.toList s.vars apart W args.toList ds [] (p ++ q)) (hA : DataW.TrodAll enc P W 0 (fun _ => true) true f.params.toList args.toList ds p) (hq : q = [])
    (hT : ∀ t ∈ f.params.toList, P.readableRec t = true ∧ t < P.types.size) (hB : Below W.heap.size W W')
    (hfn : s.fn H (ds ++ []) = { results := [.lit (.bool true)], args := ds }) : s.post enc P f apart fresh false false W args (.bool true) W' := by
  subst hq
  have hlt := hW.lt
  refine ⟨ds, [], p ++ [], [], p, [], hW, ?_, ?_, ?_, hB.frame _, fun h => by cases h⟩
  · rw [hfn, hres]
    exact trodAll_mk1 (shut_bool hb true)
  · rw [hfn]
    exact trodAll_stays hl hB hT hA (fun x hx => hlt x (by simpa using hx)) (fun x hx => by simpa using hlt x (by simpa using hx))
  · rw [hfn, hvars]
    rfl
end
end Chart
