import Derived.Test.YtophgamjhngppaaDoorZAF9DBE2F
import Derived.Lib.SmallJoins
import Derived.Lib.SlBytesConst
import Derived.Lib.BufferRead
import Derived.Laws.IdiomStrings
import Derived.Test.YtophgamjhngppaaDoorZD8A3E4A0
import Derived.Test.YtophgamjhngppaaDoorZ881F3962
import Derived.Laws.Strings
/- Crash: the walk. -/
namespace Chart
open Go Go.RowKit Go.Proofs
attribute [local go_sem ↓] Go.wp_at_zero Go.wp_at_succ


section
variable {w : World} {p : Nat} {c : Cab} {D : Nat → Prop}
set_option maxRecDepth 100000 in
set_option maxHeartbeats 8000000 in
theorem crash_calls (h : CabAt w p c D) (ok : CrashOk c) (names : Int) (n0 : -9223372036854775808 ≤ names) (n1 : names ≤ 9223372036854775807) (KV : Value) (keep : List Int) (hK : Src w 1 KV keep.length (keep.map (Value.int .i64))) (hKD : ∀ k, KV.ownBlock = some k → 0 < keep.length → ¬ D k) (turn : UInt8) :
    Calls Tryd.prog 15 #[.pointer (some ⟨p, 0, none⟩), .int .i64 names, KV, .int .u8 turn.toNat] w fun e w' => e = .returned (.tuple #[]) ∧ ∃ D', After w D p (c.crash names keep turn) D' w' := by
  obtain ⟨fv, avs, nb, sb, wv, hi, hD, hlt⟩ := id h
  obtain ⟨_, _, _, k3, _, _, _⟩ := hi.cells
  have HC := Lib.hid (clone_calls sb c.sure w hi.sure)
  obtain ⟨_, AK, cK, rfl, hKc, hKm, _⟩ := id hK
  obtain ⟨AW, cW, rfl, hWc, hWm⟩ := hi.waiting.shape
  obtain ⟨A, cp, rfl, hcp, hcp2⟩ := hi.files.shape
  have hp := hi.blk.lt
  have okw := ok.waiting
  go_enter Tryd.func15, Tryd.ntmps15
  go_wp2_with (go_at_call 42; refine HC.out.mono ?_; rintro e w1 ⟨rfl, hF1, hB1⟩; have hb1 := hi.blk.fr (Fr.of_below (fun _ => False) hB1) id; have q1 := hb1.frozen 2; have q3 : w1.cell? ⟨p, 2, none⟩ = some (.map (some nb)) := hb1.cell 2)
  have hm := crash_mid hi hF1 hB1
  have F1 : Fr (fun k => k = p) w (w1.setCell ⟨p, 2, none⟩ (.map (some w.heap.size))) := (Fr.of_below (fun k => k = p) hB1).setCell (p := ⟨p, 2, none⟩) (.inl rfl) _
  generalize (w1.setCell ⟨p, 2, none⟩ (.map (some w.heap.size))) = W at *
  clear q1 q3 hb1 hF1 hB1 HC k3
  obtain ⟨S, hS⟩ : ∃ S, S = w.heap.size := ⟨_, rfl⟩
  rw [← hS] at hm ⊢
  have HS := Lib.hid hS
  clear hS
  have m4 : W.cell? ⟨p, 4, none⟩ = some (.slice AW c.waiting.length cW) := hm.blk.cell 4
  have hpt : 0 ≤ Cab.part names c.waiting.length ∧ Cab.part names c.waiting.length ≤ c.waiting.length := by unfold Cab.part; omega
  obtain ⟨kn, hkn⟩ : ∃ kn : Nat, Cab.part names c.waiting.length = kn := ⟨_, (Int.toNat_of_nonneg hpt.1).symm⟩
  have hkl : kn ≤ c.waiting.length := by omega
  have HP := Lib.hid (part_calls names (c.waiting.length : Nat))
  rw [hkn] at HP
  have HKN := Lib.hid hkn
  clear hkn hpt
  have i1 : (kn : Int) ≤ (cW : Int) := by omega
  have i2 : (0 : Int) ≤ (kn : Int) := by omega
  go_region_held3 (fun w' => w'.cell? ⟨p, 4, none⟩ = some (.slice AW c.waiting.length cW)) (go_keep) ((go_at_call 43; refine (HP.out _).mono ?_; rintro e w2 ⟨rfl, rfl⟩))
  go_wp2_with fail
  have hmd : CabIn W.drew p { c with now := c.sure } (.slice A c.files.length cp) avs S sb (.slice AW c.waiting.length cW) := hm.fr ((Fr.refl (fun _ => False) W).drew) fun _ _ => id
  have F1d := F1.drew
  generalize W.drew = W1 at *
  clear hm F1 m4 W hi
  have OK := Lib.hid ok
  have HD := Lib.hid hD
  clear ok hD
  obtain ⟨FF, hFF⟩ : ∃ FF : Nat → Folder, FF = fun j => (c.waiting.take j).foldl Folder.apply c.sure := ⟨_, rfl⟩
  have HFF := Lib.hid hFF
  have hF0 : FF 0 = c.sure := by rw [hFF]; rfl
  have hmd0 : CabIn W1 p { c with now := FF 0 } (.slice A c.files.length cp) avs S sb (.slice AW c.waiting.length cW) := by rw [hF0]; exact hmd
  clear hFF hF0 hmd
  go_loopw [38] (fun i wr => ∃ k : Nat, k ≤ kn ∧ i = .int .i64 k ∧ CabIn wr p { c with now := FF k } (.slice A c.files.length cp) avs S sb (.slice AW c.waiting.length cW) ∧ Fr (· = S) W1 wr) (fun i _ => kn - (RowKit.intOf i).toNat)
  case atStart => exact ⟨0, Nat.zero_le _, rfl, hmd0, Fr.refl _ _⟩
  case round =>
    obtain ⟨k, hk, rfl, hin, hfr⟩ := hrel
    by_cases hlt2 : k < kn
    · have hkw : k < c.waiting.length := by omega
      have hx := List.getElem?_eq_getElem hkw
      generalize c.waiting[k] = x at hx
      obtain ⟨d0, d1, d2, d3⟩ := chgCells_get c.waiting k x hx
      obtain ⟨gW, cW', hv, _, _, hcell, _, hgl⟩ := hin.waiting.form (show 0 < c.waiting.length by omega)
      obtain ⟨rfl, rfl⟩ : AW = some ⟨gW, 0, none⟩ ∧ cW = cW' := by simpa using hv
      obtain ⟨kd, old, name, file⟩ := x
      have e0 := hcell _ _ d0
      have e1 := hcell _ _ d1
      have e2 := hcell _ _ d2
      have e3 := hcell _ _ d3
      simp only at e0 e1 e2 e3
      have HX := Lib.hid hx
      clear hx d0 d1 d2 d3 hcell hv
      go_wp2_with fail
      have hiB := hin.fr ((Fr.refl (fun _ => False) wr).alloc (.cells #[.int .i64 kd, .string (str old), .string (str name), .int .i64 file] 94)) (fun _ _ => id)
      have hbox := Blk.new wr 94 #[.int .i64 kd, .string (str old), .string (str name), .int .i64 file]
      have hfr0 : Fr (fun _ => False) wr (wr.alloc (.cells #[.int .i64 kd, .string (str old), .string (str name), .int .i64 file] 94)) := (Fr.refl (fun _ => False) wr).alloc _
      generalize wr.alloc (.cells #[.int .i64 kd, .string (str old), .string (str name), .int .i64 file] 94) = V at *
      generalize wr.heap.size = B at *
      have hb0 : V.cell? ⟨B, 0, none⟩ = some (.int .i64 kd) := hbox.cell 0
      have hb1 : V.cell? ⟨B, 1, none⟩ = some (.string (str old)) := hbox.cell 1
      have hb2 : V.cell? ⟨B, 2, none⟩ = some (.string (str name)) := hbox.cell 2
      have hb3 : V.cell? ⟨B, 3, none⟩ = some (.int .i64 file) := hbox.cell 3
      have k2 : V.cell? ⟨p, 2, none⟩ = some (.map (some S)) := hiB.blk.cell 2
      have hnow := hiB.now
      simp only at hnow
      have hpn : ¬ p = S := hiB.blk.ne_map hnow
      have hBn : ¬ B = S := hbox.ne_map hnow
      have hchg := OK.out.chg _ (List.mem_of_getElem? HX.out)
      simp only at hchg
      obtain ⟨g1, g2, g3, g4⟩ := hchg
      have hl1 : (FF k).length < 1000000000 := by
        rw [HFF.out]
        have h1 := foldl_length (c.waiting.take k) c.sure
        have h2 := OK.out.sure
        have h3 : (c.waiting.take k).length ≤ c.waiting.length := by rw [List.length_take]; omega
        have h4 := OK.out.waiting
        simp only
        omega
      have hl2 : ((FF k).get? old).getD 0 ≤ 9223372036854775807 := by
        have h1 := get_le (F := FF k) (N := c.files.length) (fun x hx => (OK.out.rep k x (by rw [HFF.out] at hx; exact hx)).1) old
        have h2 := OK.out.files
        omega
      go_region_held3 (fun w' => w'.cell? ⟨p, 2, none⟩ = some (.map (some S)) ∧ w'.cell? ⟨B, 0, none⟩ = some (.int .i64 kd) ∧ w'.cell? ⟨B, 1, none⟩ = some (.string (str old)) ∧ w'.cell? ⟨B, 2, none⟩ = some (.string (str name)) ∧ w'.cell? ⟨B, 3, none⟩ = some (.int .i64 file)) (first | go_keep | exact ⟨hfr1.undrew.cell (a := ⟨p, 2, none⟩) k2 hpn, hfr1.undrew.cell (a := ⟨B, 0, none⟩) hb0 hBn, hfr1.undrew.cell (a := ⟨B, 1, none⟩) hb1 hBn, hfr1.undrew.cell (a := ⟨B, 2, none⟩) hb2 hBn, hfr1.undrew.cell (a := ⟨B, 3, none⟩) hb3 hBn⟩) ((go_at_call 44; refine (with_calls S (FF k) ⟨kd, old, name, file⟩ _ hnow.drew hl1 g1 g2 g3 g4 hl2).mono ?_; rintro e w3 ⟨rfl, hF3, hfr1⟩))
      go_wp2_with fail
      have hx := HX.out
      have hin4 : CabIn w3 p { c with now := FF (k + 1) } (.slice A c.files.length cp) avs S sb (.slice (some ⟨gW, 0, none⟩) c.waiting.length cW) := by
        have e : FF (k + 1) = (FF k).apply ⟨kd, old, name, file⟩ := by
          rw [HFF.out]
          simp only
          rw [take_snoc' _ _ _ HX.out, List.foldl_append]
          rfl
        rw [e]
        exact hiB.newNow hfr1.undrew hF3
      refine ⟨⟨k + 1, by omega, by go_num, hin4, (hfr.trans (hfr0.mono fun _ _ h => h.elim) fun i hi => .inl hi).trans hfr1.undrew fun i hi => .inl hi⟩, by simp [RowKit.intOf]; omega⟩
    · obtain rfl : k = kn := by omega
      have HI := Lib.hid hin
      have hnow := hin.now
      simp only at hnow
      have k2 : wr.cell? ⟨p, 2, none⟩ = some (.map (some S)) := hin.blk.cell 2
      have hl1 : (FF k).length ≤ 100000000 := by
        rw [HFF.out]
        have h1 := foldl_length (c.waiting.take k) c.sure
        have h2 := OK.out.sure
        have h3 : (c.waiting.take k).length ≤ c.waiting.length := by rw [List.length_take]; omega
        have h4 := OK.out.waiting
        simp only
        omega
      have HSrt := Lib.hid (sorted_calls S (FF k) wr hnow hl1)
      have HRep : ∀ x ∈ FF k, x.2 < c.files.length ∧ x.1.length ≤ maxLen := by
        rw [HFF.out]
        exact OK.out.rep k
      have HRep := Lib.hid HRep
      have hNF : FF k = (c.waiting.take k).foldl Folder.apply c.sure := by rw [HFF.out]
      have HNF := Lib.hid hNF
      clear hNF
      clear hin
      generalize FF k = NF at *
      go_wp2_with (first
        | (go_at_call 46; refine (keys_calls _ _).mono ?_; rintro e w1 ⟨rfl, rfl⟩)
        | (go_at_call 45; refine HSrt.out.mono ?_; rintro e w2 ⟨vs, rfl, hrow, hown, hfrS⟩; obtain ⟨AN, cN, rfl, hcN, hmN⟩ := hrow.shape))
      have FT : Fr D w w2 := ((F1d.mono fun q _ e => by subst e; exact HD.out _ (.inl rfl)).trans hfr fun q e => .inr (by rw [show q = S from e, HS.out]; exact Nat.le_refl _)).trans hfrS fun _ h => h.elim
      have hK2 := hK.frl FT hKD
      have hin2 := HI.out.fr hfrS fun _ _ => id
      clear hK HI hnow k2 HSrt hmd0 F1d h hfrS
      have HKD := Lib.hid hKD
      have HOWN := Lib.hid hown
      have HCN := Lib.hid hcN
      clear hKD hown
      obtain ⟨CF, hCF⟩ : ∃ CF : Nat → List FileS, CF = fun j => Cab.crashFiles NF keep turn (NF.keys.take j) 0 c.files := ⟨_, rfl⟩
      have HCF := Lib.hid hCF
      have hC0 : CF 0 = c.files := by rw [hCF]; rfl
      have hCl : ∀ j, (CF j).length = c.files.length := by intro j; rw [hCF]; exact crashFiles_length _ _ _ _ _ _
      have hin20 : CabIn w2 p { c with now := NF, files := CF 0 } (.slice A c.files.length cp) avs S sb (.slice AW c.waiting.length cW) := by rw [hC0]; exact hin2
      have HCl := Lib.hid hCl
      clear hCF hC0 hCl hin2
      go_loopw [56] (fun i wv => ∃ (j : Nat) (avs' : List Value), j ≤ NF.keys.length ∧ i = .int .i64 j ∧ CabIn wv p { c with now := NF, files := CF j } (.slice A c.files.length cp) avs' S sb (.slice AW c.waiting.length cW) ∧ (∀ u ∈ avs', ∀ q, u.ownBlock = some q → ∃ v ∈ avs, v.ownBlock = some q) ∧ Fr D w2 wv ∧ Row wv 9 1 (.slice AN NF.keys.length cN) NF.keys.length (strV NF.keys) ∧ Src wv 1 (.slice AK keep.length cK) keep.length (keep.map (Value.int .i64))) (fun i _ => NF.keys.length - (RowKit.intOf i).toNat)
      case atStart => exact ⟨0, avs, Nat.zero_le _, rfl, hin20, fun u hu q hq => ⟨u, hu, hq⟩, Fr.refl _ _, hrow, hK2⟩
      case round =>
        clear hrow hK2
        obtain ⟨j, avs', hj, rfl, hin, hsub, hfr2, hrow, hKs⟩ := hrel
        by_cases hlt3 : j < NF.keys.length
        · have hNj : j < NF.length := by simpa [Folder.keys] using hlt3
          obtain ⟨⟨name, m⟩, hmem⟩ : ∃ y, NF[j]? = some y := ⟨_, List.getElem?_eq_getElem hNj⟩
          have hkey : NF.keys[j]? = some name := by unfold Folder.keys; rw [List.getElem?_map, hmem]; rfl
          obtain ⟨gN, cN', hv, _, _, hcell, _, _⟩ := hrow.form (by omega)
          obtain ⟨rfl, rfl⟩ : AN = some ⟨gN, 0, none⟩ ∧ cN = cN' := by simpa using hv
          have hname := hcell j (.string (str name)) (by unfold strV; rw [List.getElem?_map, hkey]; rfl)
          obtain ⟨n, hget, hnlt⟩ : ∃ n, NF.get? name = some n ∧ n < c.files.length := by
            obtain ⟨n, hn⟩ := get_some (List.mem_of_getElem? hmem)
            exact ⟨n, hn, (HRep.out _ (get_mem hn)).1⟩
          have hnl : n < (CF j).length := by rw [HCl.out]; exact hnlt
          obtain ⟨g, cp', v, f, hv2, _, hav, hfn, hg, c0, c1, hb⟩ := hin.file (k := n) hnl
          obtain ⟨rfl, hq, rfl⟩ : A = some ⟨g, 0, none⟩ ∧ c.files.length = (CF j).length ∧ cp = cp' := by simpa using hv2
          have hlook := fun m0 : Nat => (hin.now.drewN m0).look_run Tryd.underlying9 Tryd.underlying77 Tryd.underlying3 (zero_int _) name (HRep.out _ (List.mem_of_getElem? hmem)).2
          simp only [hget, Option.getD_some] at hlook
          have b1 : wr.cell? ⟨p, 1, none⟩ = some (.slice (some ⟨g, 0, none⟩) c.files.length cp) := hin.blk.cell 1
          have b2 : wr.cell? ⟨p, 2, none⟩ = some (.map (some S)) := hin.blk.cell 2
          have i3 : (n : Int) < (c.files.length : Int) := by omega
          have i4 : (0 : Int) ≤ (n : Int) := by omega
          have HM := Lib.hid hmem
          have HK := Lib.hid hkey
          have HG := Lib.hid hget
          have HV := Lib.hid hav
          have HF := Lib.hid hfn
          have hfn0 := hfn
          simp only at hfn0
          rw [HCF.out] at hfn0
          have HFC := Lib.hid hfn0
          clear hfn0
          clear hv hv2 hq hcell hmem hkey hget hav hfn
          have hFO : FileOk f := by
            have h1 := crashFiles_ok NF keep turn (NF.keys.take j) 0 c.files OK.out.all
            exact h1 f (List.mem_of_getElem? HFC.out)
          obtain ⟨hf1, hf2⟩ := hFO
          obtain ⟨AV, cV, rfl, hcV, hcV2⟩ := hb.shape
          by_cases hkk : j < keep.length
          · obtain ⟨kj, hkj⟩ : ∃ kj, keep[j]? = some kj := ⟨_, List.getElem?_eq_getElem hkk⟩
            obtain ⟨_, A2, c2, hv3, _, _, hAn, hcell2⟩ := id hKs
            obtain ⟨rfl, rfl⟩ : AK = A2 ∧ cK = c2 := by simpa using hv3
            cases AK with
            | none => have := (hAn rfl).1; omega
            | some aK =>
            have rk : wr.cell? (aK.add j) = some (.int .i64 kj) := hcell2 aK rfl j _ (by rw [List.getElem?_map, hkj]; rfl)
            obtain ⟨mo, hmo⟩ : ∃ mo : Nat, Cab.part kj ((f.all.length : Int) - (f.sure : Int)) = mo := ⟨_, (Int.toNat_of_nonneg (part_le kj _ (by omega)).1).symm⟩
            have hmo2 : f.sure + mo ≤ f.all.length := by have := (part_le kj ((f.all.length : Int) - (f.sure : Int)) (by omega)).2; omega
            have HPA := part_calls kj ((f.all.length : Int) - (f.sure : Int))
            simp only [hmo] at HPA
            have HPA := Lib.hid HPA
            have HMO : (if j < keep.length then Cab.part (keep.getD j 0) ((f.all.length : Int) - (f.sure : Int)) else 0) = (mo : Int) := by
              rw [if_pos hkk, List.getD_eq_getElem?_getD, hkj]
              exact hmo
            have HMO := Lib.hid HMO
            have HKJ := Lib.hid hkj
            clear hv3 hAn hcell2 hmo hkj
            go_wp2_with fail
            go_quiet (fail)
            have hinV := hin.fr ((Fr.refl (fun _ => False) wr).drewN nq) fun _ _ => id
            have hfrV : Fr D w2 (wr.drewN nq) := hfr2.drewN nq
            have hrowV := hrow.drewN nq
            have hKsV := hKs.drewN nq
            have hbV := hb.drewN nq
            replace c0 : (wr.drewN nq).cell? _ = _ := c0
            replace c1 : (wr.drewN nq).cell? _ = _ := c1
            replace rk : (wr.drewN nq).cell? _ = _ := rk
            clear hin hfr2 hrow hKs hb b1 b2 hlook hname
            generalize wr.drewN nq = V at *
            go_wp2_with fail
            go_quiet ((go_at_call 43; exact Calls.quiet_of_same ((HPA.out _).mono fun _ _ h => ⟨h.1, h.2.symm⟩)))
            have hinW := hinV.fr ((Fr.refl (fun _ => False) V).drewN nq) fun _ _ => id
            have hfrW : Fr D w2 (V.drewN nq) := hfrV.drewN nq
            have hrowW := hrowV.drewN nq
            have hKsW := hKsV.drewN nq
            have hbW := hbV.drewN nq
            replace c0 : (V.drewN nq).cell? _ = _ := c0
            replace c1 : (V.drewN nq).cell? _ = _ := c1
            clear hinV hfrV hrowV hKsV hbV rk
            generalize V.drewN nq = V2 at *
            by_cases htu : turn = 0
            · have hmu : Cab.cut f ((mo : Nat) : Int) turn = ⟨f.all.take (f.sure + mo), (f.sure + mo)⟩ := by unfold Cab.cut; simp [htu]
              have htu2 : ¬ ¬ ((turn.toNat : Int) = 0) := by rw [htu]; decide
              clear htu
              have hcut := Bytes.upto hbW (f.sure + mo) hmo2
              have rf0 := rowfree hinW.files (n * 2)
              have rf1 := rowfree hinW.files (n * 2 + 1)
              have HMU := Lib.hid hmu
              have HIN := Lib.hid hinW
              clear hmu hinW
              go_wp2_with (go_at_call 47; refine (clip_calls _ _ _ hcut).mono ?_; rintro e V3 ⟨v3, rfl, hb3, ho3, rfl⟩; obtain ⟨A3, c3, hv3, _, _⟩ := hb3.shape; rw [List.length_take, Nat.min_eq_left hmo2] at hv3; subst hv3)
              have hCF := crashFiles_step NF keep turn NF.keys j name n HK.out HG.out c.files f HFC.out
              rw [HMO.out, HMU.out] at hCF
              have HR := crash_round (n := n) (v := .slice AV f.all.length cV) (v' := .slice A3 (f.sure + mo) c3) (f' := ⟨f.all.take (f.sure + mo), (f.sure + mo)⟩) HIN.out (HCl.out j) HV.out hb3 (ho3.trans (by cases AV <;> rfl)) (Fr.refl _ _) hsub HD.out hfrW hrowW hKsW HKD.out
              have hCF2 : CF (j + 1) = (CF j).set n ⟨f.all.take (f.sure + mo), (f.sure + mo)⟩ := by rw [HCF.out]; exact hCF
              rw [← hCF2] at HR
              obtain ⟨r1, r2, r3, r4, r5⟩ := HR
              exact ⟨⟨j + 1, _, by omega, by go_num, r1, r2, r3, r4, r5⟩, by simp [RowKit.intOf]; omega⟩
            · have htu2 : ¬ ((turn.toNat : Int) = 0) := by
                intro e
                apply htu
                apply UInt8.toNat_inj.1
                have : turn.toNat = 0 := by omega
                simpa using this
              by_cases hel : (f.sure + mo) < f.all.length
              · have hel2 : ((f.sure : Int) + (mo : Int)) < (f.all.length : Int) := by omega
                obtain ⟨gv, cv2, hvv, _, _, hcv, hfz, _⟩ := hbW.form (by omega)
                obtain ⟨rfl, rfl⟩ : AV = some ⟨gv, 0, none⟩ ∧ cV = cv2 := by simpa using hvv
                obtain ⟨b, hbb⟩ : ∃ b, f.all[(f.sure + mo)]? = some b := ⟨_, List.getElem?_eq_getElem hel⟩
                have rb : V2.cell? ⟨gv, (f.sure + mo), none⟩ = some (.int .u8 b.toNat) := hcv (f.sure + mo) _ (by unfold bytesV; rw [List.getElem?_map, hbb]; rfl)
                have rbf := hfz ((f.sure + mo))
                have hmu : Cab.cut f ((mo : Nat) : Int) turn = ⟨f.all.take (f.sure + mo) ++ [b ^^^ turn], (f.sure + mo) + 1⟩ := by
                  unfold Cab.cut
                  have hnt : turn ≠ 0 ∧ f.sure + (((mo : Nat) : Int)).toNat < f.all.length := ⟨htu, by simpa using hel⟩
                  simp only []
                  rw [if_pos hnt]
                  have e1 : f.sure + (((mo : Nat) : Int)).toNat = (f.sure + mo) := by simp
                  rw [e1, List.getD_eq_getElem?_getD, hbb]
                  rfl
                have hX := xor_bv b turn
                have hcut := Bytes.upto (Bytes.turn hbW (f.sure + mo) (b ^^^ turn)) ((f.sure + mo) + 1) (by rw [List.length_set]; omega)
                rw [← hX, take_turned _ _ _ hel] at hcut
                have hcl : (f.all.take (f.sure + mo) ++ [b ^^^ turn]).length = (f.sure + mo) + 1 := by rw [List.length_append, List.length_take, Nat.min_eq_left (by omega)]; rfl
                have hgg : gv ≠ g := fun e => hbW.ne_row hinW.files (by decide) (k := gv) rfl (by rw [e]; rfl)
                have c0t : (V2.setCell ⟨gv, (f.sure + mo), none⟩ (.int .u8 (bits BinOp.xor IntKind.u8 (b.toNat : Int) (turn.toNat : Int)))).cell? ⟨g, n * 2, none⟩ = some (.slice (some ⟨gv, 0, none⟩) f.all.length cV) := by
                  rw [World.cell?_setCell_other V2 _ _ _ (fun e => by injection e with e; exact hgg e)]
                  exact c0
                have c1t : (V2.setCell ⟨gv, (f.sure + mo), none⟩ (.int .u8 (bits BinOp.xor IntKind.u8 (b.toNat : Int) (turn.toNat : Int)))).cell? ⟨g, n * 2 + 1, none⟩ = some (.int .i64 f.sure) := by
                  rw [World.cell?_setCell_other V2 _ _ _ (fun e => by injection e with e; exact hgg e)]
                  exact c1
                have rf0 := rowfree hinW.files (n * 2)
                have rf1 := rowfree hinW.files (n * 2 + 1)
                have HIN := Lib.hid hinW
                have HBB := Lib.hid hbb
                have HFZ := Lib.hid hfz
                have HMU := Lib.hid hmu
                have HCL := Lib.hid hcl
                have HXX := Lib.hid hX
                have F3 : Fr (fun k => (Value.slice (some ⟨gv, 0, none⟩) f.all.length cV).ownBlock = some k) V2 (V2.setCell ⟨gv, (f.sure + mo), none⟩ (.int .u8 (bits BinOp.xor IntKind.u8 (b.toNat : Int) (turn.toNat : Int)))) := (Fr.refl (fun k => (Value.slice (some ⟨gv, 0, none⟩) f.all.length cV).ownBlock = some k) V2).setCell (p := ⟨gv, (f.sure + mo), none⟩) (.inl rfl) _
                clear hinW hvv hcv hbb hfz hmu hX hcl hgg
                go_wp2_with (go_at_call 47; refine (clip_calls _ _ _ hcut).mono ?_; rintro e V3 ⟨v3, rfl, hb3, ho3, rfl⟩; obtain ⟨A3, c3, hv3, _, _⟩ := hb3.shape; rw [HCL.out] at hv3; subst hv3)
                have hCF := crashFiles_step NF keep turn NF.keys j name n HK.out HG.out c.files f HFC.out
                rw [HMO.out, HMU.out] at hCF
                have HR := crash_round (n := n) (v := .slice (some ⟨gv, 0, none⟩) f.all.length cV) (v' := .slice A3 ((f.sure + mo) + 1) c3) (f' := ⟨f.all.take (f.sure + mo) ++ [b ^^^ turn], (f.sure + mo) + 1⟩) HIN.out (HCl.out j) HV.out hb3 ho3 F3 hsub HD.out hfrW hrowW hKsW HKD.out
                have hCF2 : CF (j + 1) = (CF j).set n ⟨f.all.take (f.sure + mo) ++ [b ^^^ turn], (f.sure + mo) + 1⟩ := by rw [HCF.out]; exact hCF
                rw [← hCF2] at HR
                obtain ⟨r1, r2, r3, r4, r5⟩ := HR
                exact ⟨⟨j + 1, _, by omega, by go_num, r1, r2, r3, r4, r5⟩, by simp [RowKit.intOf]; omega⟩
              · have hel2 : ¬ ((f.sure : Int) + (mo : Int)) < (f.all.length : Int) := by omega
                have hmu : Cab.cut f ((mo : Nat) : Int) turn = ⟨f.all.take (f.sure + mo), (f.sure + mo)⟩ := by unfold Cab.cut; simp [hel]
                have hcut := Bytes.upto hbW (f.sure + mo) hmo2
                have rf0 := rowfree hinW.files (n * 2)
                have rf1 := rowfree hinW.files (n * 2 + 1)
                have HMU := Lib.hid hmu
                have HIN := Lib.hid hinW
                clear hmu hinW
                go_wp2_with (go_at_call 47; refine (clip_calls _ _ _ hcut).mono ?_; rintro e V3 ⟨v3, rfl, hb3, ho3, rfl⟩; obtain ⟨A3, c3, hv3, _, _⟩ := hb3.shape; rw [List.length_take, Nat.min_eq_left hmo2] at hv3; subst hv3)
                have hCF := crashFiles_step NF keep turn NF.keys j name n HK.out HG.out c.files f HFC.out
                rw [HMO.out, HMU.out] at hCF
                have HR := crash_round (n := n) (v := .slice AV f.all.length cV) (v' := .slice A3 (f.sure + mo) c3) (f' := ⟨f.all.take (f.sure + mo), (f.sure + mo)⟩) HIN.out (HCl.out j) HV.out hb3 (ho3.trans (by cases AV <;> rfl)) (Fr.refl _ _) hsub HD.out hfrW hrowW hKsW HKD.out
                have hCF2 : CF (j + 1) = (CF j).set n ⟨f.all.take (f.sure + mo), (f.sure + mo)⟩ := by rw [HCF.out]; exact hCF
                rw [← hCF2] at HR
                obtain ⟨r1, r2, r3, r4, r5⟩ := HR
                exact ⟨⟨j + 1, _, by omega, by go_num, r1, r2, r3, r4, r5⟩, by simp [RowKit.intOf]; omega⟩
          · have HMO : (if j < keep.length then Cab.part (keep.getD j 0) ((f.all.length : Int) - (f.sure : Int)) else 0) = ((0 : Nat) : Int) := by
              rw [if_neg hkk]
              rfl
            have HMO := Lib.hid HMO
            go_wp2_with fail
            go_quiet (fail)
            have hinW := hin.fr ((Fr.refl (fun _ => False) wr).drewN nq) fun _ _ => id
            have hfrW : Fr D w2 (wr.drewN nq) := hfr2.drewN nq
            have hrowW := hrow.drewN nq
            have hKsW := hKs.drewN nq
            have hbW := hb.drewN nq
            replace c0 : (wr.drewN nq).cell? _ = _ := c0
            replace c1 : (wr.drewN nq).cell? _ = _ := c1
            clear hin hfr2 hrow hKs hb b1 b2 hlook hname
            generalize wr.drewN nq = V2 at *
            by_cases htu : turn = 0
            · have hmu : Cab.cut f ((0 : Nat) : Int) turn = ⟨f.all.take (f.sure), (f.sure)⟩ := by unfold Cab.cut; simp [htu]
              have htu2 : ¬ ¬ ((turn.toNat : Int) = 0) := by rw [htu]; decide
              clear htu
              have hcut := Bytes.upto hbW (f.sure) hf2
              have rf0 := rowfree hinW.files (n * 2)
              have rf1 := rowfree hinW.files (n * 2 + 1)
              have HMU := Lib.hid hmu
              have HIN := Lib.hid hinW
              clear hmu hinW
              go_wp2_with (go_at_call 47; refine (clip_calls _ _ _ hcut).mono ?_; rintro e V3 ⟨v3, rfl, hb3, ho3, rfl⟩; obtain ⟨A3, c3, hv3, _, _⟩ := hb3.shape; rw [List.length_take, Nat.min_eq_left hf2] at hv3; subst hv3)
              have hCF := crashFiles_step NF keep turn NF.keys j name n HK.out HG.out c.files f HFC.out
              rw [HMO.out, HMU.out] at hCF
              have HR := crash_round (n := n) (v := .slice AV f.all.length cV) (v' := .slice A3 (f.sure) c3) (f' := ⟨f.all.take (f.sure), (f.sure)⟩) HIN.out (HCl.out j) HV.out hb3 (ho3.trans (by cases AV <;> rfl)) (Fr.refl _ _) hsub HD.out hfrW hrowW hKsW HKD.out
              have hCF2 : CF (j + 1) = (CF j).set n ⟨f.all.take (f.sure), (f.sure)⟩ := by rw [HCF.out]; exact hCF
              rw [← hCF2] at HR
              obtain ⟨r1, r2, r3, r4, r5⟩ := HR
              exact ⟨⟨j + 1, _, by omega, by go_num, r1, r2, r3, r4, r5⟩, by simp [RowKit.intOf]; omega⟩
            · have htu2 : ¬ ((turn.toNat : Int) = 0) := by
                intro e
                apply htu
                apply UInt8.toNat_inj.1
                have : turn.toNat = 0 := by omega
                simpa using this
              by_cases hel : (f.sure) < f.all.length
              · have hel2 : (f.sure : Int) < (f.all.length : Int) := by omega
                obtain ⟨gv, cv2, hvv, _, _, hcv, hfz, _⟩ := hbW.form (by omega)
                obtain ⟨rfl, rfl⟩ : AV = some ⟨gv, 0, none⟩ ∧ cV = cv2 := by simpa using hvv
                obtain ⟨b, hbb⟩ : ∃ b, f.all[(f.sure)]? = some b := ⟨_, List.getElem?_eq_getElem hel⟩
                have rb : V2.cell? ⟨gv, (f.sure), none⟩ = some (.int .u8 b.toNat) := hcv (f.sure) _ (by unfold bytesV; rw [List.getElem?_map, hbb]; rfl)
                have rbf := hfz ((f.sure))
                have hmu : Cab.cut f ((0 : Nat) : Int) turn = ⟨f.all.take (f.sure) ++ [b ^^^ turn], (f.sure) + 1⟩ := by
                  unfold Cab.cut
                  have hnt : turn ≠ 0 ∧ f.sure + (((0 : Nat) : Int)).toNat < f.all.length := ⟨htu, by simpa using hel⟩
                  simp only []
                  rw [if_pos hnt]
                  have e1 : f.sure + (((0 : Nat) : Int)).toNat = (f.sure) := by simp
                  rw [e1, List.getD_eq_getElem?_getD, hbb]
                  rfl
                have hX := xor_bv b turn
                have hcut := Bytes.upto (Bytes.turn hbW (f.sure) (b ^^^ turn)) ((f.sure) + 1) (by rw [List.length_set]; omega)
                rw [← hX, take_turned _ _ _ hel] at hcut
                have hcl : (f.all.take (f.sure) ++ [b ^^^ turn]).length = (f.sure) + 1 := by rw [List.length_append, List.length_take, Nat.min_eq_left (by omega)]; rfl
                have hgg : gv ≠ g := fun e => hbW.ne_row hinW.files (by decide) (k := gv) rfl (by rw [e]; rfl)
                have c0t : (V2.setCell ⟨gv, (f.sure), none⟩ (.int .u8 (bits BinOp.xor IntKind.u8 (b.toNat : Int) (turn.toNat : Int)))).cell? ⟨g, n * 2, none⟩ = some (.slice (some ⟨gv, 0, none⟩) f.all.length cV) := by
                  rw [World.cell?_setCell_other V2 _ _ _ (fun e => by injection e with e; exact hgg e)]
                  exact c0
                have c1t : (V2.setCell ⟨gv, (f.sure), none⟩ (.int .u8 (bits BinOp.xor IntKind.u8 (b.toNat : Int) (turn.toNat : Int)))).cell? ⟨g, n * 2 + 1, none⟩ = some (.int .i64 f.sure) := by
                  rw [World.cell?_setCell_other V2 _ _ _ (fun e => by injection e with e; exact hgg e)]
                  exact c1
                have rf0 := rowfree hinW.files (n * 2)
                have rf1 := rowfree hinW.files (n * 2 + 1)
                have HIN := Lib.hid hinW
                have HBB := Lib.hid hbb
                have HFZ := Lib.hid hfz
                have HMU := Lib.hid hmu
                have HCL := Lib.hid hcl
                have HXX := Lib.hid hX
                have F3 : Fr (fun k => (Value.slice (some ⟨gv, 0, none⟩) f.all.length cV).ownBlock = some k) V2 (V2.setCell ⟨gv, (f.sure), none⟩ (.int .u8 (bits BinOp.xor IntKind.u8 (b.toNat : Int) (turn.toNat : Int)))) := (Fr.refl (fun k => (Value.slice (some ⟨gv, 0, none⟩) f.all.length cV).ownBlock = some k) V2).setCell (p := ⟨gv, (f.sure), none⟩) (.inl rfl) _
                clear hinW hvv hcv hbb hfz hmu hX hcl hgg
                go_wp2_with (go_at_call 47; refine (clip_calls _ _ _ hcut).mono ?_; rintro e V3 ⟨v3, rfl, hb3, ho3, rfl⟩; obtain ⟨A3, c3, hv3, _, _⟩ := hb3.shape; rw [HCL.out] at hv3; subst hv3)
                have hCF := crashFiles_step NF keep turn NF.keys j name n HK.out HG.out c.files f HFC.out
                rw [HMO.out, HMU.out] at hCF
                have HR := crash_round (n := n) (v := .slice (some ⟨gv, 0, none⟩) f.all.length cV) (v' := .slice A3 ((f.sure) + 1) c3) (f' := ⟨f.all.take (f.sure) ++ [b ^^^ turn], (f.sure) + 1⟩) HIN.out (HCl.out j) HV.out hb3 ho3 F3 hsub HD.out hfrW hrowW hKsW HKD.out
                have hCF2 : CF (j + 1) = (CF j).set n ⟨f.all.take (f.sure) ++ [b ^^^ turn], (f.sure) + 1⟩ := by rw [HCF.out]; exact hCF
                rw [← hCF2] at HR
                obtain ⟨r1, r2, r3, r4, r5⟩ := HR
                exact ⟨⟨j + 1, _, by omega, by go_num, r1, r2, r3, r4, r5⟩, by simp [RowKit.intOf]; omega⟩
              · have hel2 : ¬ (f.sure : Int) < (f.all.length : Int) := by omega
                have hmu : Cab.cut f ((0 : Nat) : Int) turn = ⟨f.all.take (f.sure), (f.sure)⟩ := by unfold Cab.cut; simp [hel]
                have hcut := Bytes.upto hbW (f.sure) hf2
                have rf0 := rowfree hinW.files (n * 2)
                have rf1 := rowfree hinW.files (n * 2 + 1)
                have HMU := Lib.hid hmu
                have HIN := Lib.hid hinW
                clear hmu hinW
                go_wp2_with (go_at_call 47; refine (clip_calls _ _ _ hcut).mono ?_; rintro e V3 ⟨v3, rfl, hb3, ho3, rfl⟩; obtain ⟨A3, c3, hv3, _, _⟩ := hb3.shape; rw [List.length_take, Nat.min_eq_left hf2] at hv3; subst hv3)
                have hCF := crashFiles_step NF keep turn NF.keys j name n HK.out HG.out c.files f HFC.out
                rw [HMO.out, HMU.out] at hCF
                have HR := crash_round (n := n) (v := .slice AV f.all.length cV) (v' := .slice A3 (f.sure) c3) (f' := ⟨f.all.take (f.sure), (f.sure)⟩) HIN.out (HCl.out j) HV.out hb3 (ho3.trans (by cases AV <;> rfl)) (Fr.refl _ _) hsub HD.out hfrW hrowW hKsW HKD.out
                have hCF2 : CF (j + 1) = (CF j).set n ⟨f.all.take (f.sure), (f.sure)⟩ := by rw [HCF.out]; exact hCF
                rw [← hCF2] at HR
                obtain ⟨r1, r2, r3, r4, r5⟩ := HR
                exact ⟨⟨j + 1, _, by omega, by go_num, r1, r2, r3, r4, r5⟩, by simp [RowKit.intOf]; omega⟩
        · obtain rfl : j = NF.keys.length := by omega
          have hst := settle_calls (w := wr) (p := p) (c := { c with now := NF, files := CF NF.keys.length }) (D := CabOwn p (.slice A c.files.length cp) avs' S sb (.slice AW c.waiting.length cW)) ⟨_, _, _, _, _, hin, fun _ h => h, hin.lt⟩ (by have h1 := OK.out.files; have h2 := HCl.out NF.keys.length; simp only; omega)
          have HST := Lib.hid hst
          have HIN := Lib.hid hin
          clear hst hin
          go_wp2_with (go_at_call 48; refine HST.out.mono ?_; rintro e w5 ⟨rfl, D5, hA5⟩; obtain ⟨fv5, avs5, nb5, sb5, wv5, hi5, hD5, hlt5⟩ := id hA5.at_; have q5 : w5.cell? ⟨p, 5, none⟩ = some (.int .i64 c.after) := hi5.blk.cell 5; have q6 : w5.cell? ⟨p, 6, none⟩ = some (.bool c.off) := hi5.blk.cell 6; have q7 := hi5.blk.frozen 5; have q8 := hi5.blk.frozen 6)
          go_end0
          refine ⟨rfl, D5, ?_⟩
          have hE := (hi5.after (-1)).setOff false
          have hcr : { ({ c with now := NF, files := CF NF.keys.length } : Cab).settle with after := -1, off := false } = c.crash names keep turn := by
            unfold Cab.crash
            simp only []
            rw [HKN.out, Int.toNat_natCast, ← HNF.out]
            have e : CF NF.keys.length = Cab.crashFiles NF keep turn NF.keys 0 c.files := by
              rw [HCF.out]
              simp only []
              rw [List.take_length]
            rw [e]
          rw [← hcr]
          have FE : Fr (fun k => k = p) w5 ((w5.setCell ⟨p, 5, none⟩ (.int .i64 (-1))).setCell ⟨p, 6, none⟩ (.bool false)) := ((Fr.refl (fun k => k = p) w5).setCell (p := ⟨p, 5, none⟩) (.inl rfl) _).setCell (p := ⟨p, 6, none⟩) (.inl rfl) _
          have hown5 : ∀ k, CabOwn p (.slice A c.files.length cp) avs' S sb (.slice AW c.waiting.length cW) k → D k ∨ w.heap.size ≤ k := by
            rintro k (rfl | hk | ⟨v, hv, hk⟩ | rfl | rfl | hk)
            · exact .inl (HD.out _ (.inl rfl))
            · exact .inl (HD.out _ (.inr (.inl hk)))
            · obtain ⟨u, hu, huk⟩ := hsub v hv _ hk
              exact .inl (HD.out _ (.inr (.inr (.inl ⟨u, hu, huk⟩))))
            · exact .inr (Nat.le_of_eq HS.out.symm)
            · exact .inl (HD.out _ (.inr (.inr (.inr (.inr (.inl rfl))))))
            · exact .inl (HD.out _ (.inr (.inr (.inr (.inr (.inr hk))))))
          have hsz := FT.size
          have hsz2 := hfr2.size
          have hp5 : D5 p := hD5 _ (.inl rfl)
          have hnew5 : ∀ k, D5 k → D k ∨ w.heap.size ≤ k := fun k hk => by
            rcases hA5.new k hk with h | h
            · exact hown5 k h
            · exact .inr (by omega)
          refine ⟨⟨_, _, _, _, _, hE, hD5, fun k hk => Nat.lt_of_lt_of_le (hlt5 k hk) FE.size⟩, ?_, hnew5⟩
          exact ((FT.trans hfr2 fun _ h => .inl h).trans hA5.fr hown5).trans FE fun k hk => by subst hk; exact hnew5 _ hp5
end
end Chart

/- No cabinet: each call answers so. -/
namespace Chart
open Go Go.RowKit Go.Proofs

set_option maxHeartbeats 400000 in
theorem create_nil (s : ByteArray) (w : World) : Calls Tryd.prog 19 #[.pointer none, .string s] w fun e w' => e = .returned (.int .i64 1) ∧ w = w' := by
  go_enter Tryd.func19, Tryd.ntmps19
  go_wp2_with (go_at_call 51; refine (ready_nil _).mono ?_; rintro e w' ⟨rfl, rfl⟩)
  go_ret
  exact ⟨rfl, rfl⟩
set_option maxHeartbeats 400000 in
theorem append_nil (s : ByteArray) (v : Value) (w : World) : Calls Tryd.prog 20 #[.pointer none, .string s, v] w fun e w' => e = .returned (.int .i64 1) ∧ w = w' := by
  go_enter Tryd.func20, Tryd.ntmps20
  go_wp2_with (go_at_call 49; refine (find_nil _ _).mono ?_; rintro e w' ⟨rfl, rfl⟩)
  go_ret
  exact ⟨rfl, rfl⟩
set_option maxHeartbeats 400000 in
theorem sync_nil (s : ByteArray) (w : World) : Calls Tryd.prog 21 #[.pointer none, .string s] w fun e w' => e = .returned (.int .i64 1) ∧ w = w' := by
  go_enter Tryd.func21, Tryd.ntmps21
  go_wp2_with (go_at_call 49; refine (find_nil _ _).mono ?_; rintro e w' ⟨rfl, rfl⟩)
  go_ret
  exact ⟨rfl, rfl⟩
set_option maxHeartbeats 400000 in
theorem rename_nil (s t : ByteArray) (w : World) : Calls Tryd.prog 22 #[.pointer none, .string s, .string t] w fun e w' => e = .returned (.int .i64 1) ∧ w = w' := by
  go_enter Tryd.func22, Tryd.ntmps22
  go_wp2_with (go_at_call 49; refine (find_nil _ _).mono ?_; rintro e w' ⟨rfl, rfl⟩)
  go_ret
  exact ⟨rfl, rfl⟩
set_option maxHeartbeats 400000 in
theorem remove_nil (s : ByteArray) (w : World) : Calls Tryd.prog 23 #[.pointer none, .string s] w fun e w' => e = .returned (.int .i64 1) ∧ w = w' := by
  go_enter Tryd.func23, Tryd.ntmps23
  go_wp2_with (go_at_call 49; refine (find_nil _ _).mono ?_; rintro e w' ⟨rfl, rfl⟩)
  go_ret
  exact ⟨rfl, rfl⟩
set_option maxHeartbeats 400000 in
theorem turn_nil  (w : World) : Calls Tryd.prog 24 #[.pointer none] w fun e w' => e = .returned (.int .i64 1) ∧ w = w' := by
  go_enter Tryd.func24, Tryd.ntmps24
  go_wp2_with (go_at_call 51; refine (ready_nil _).mono ?_; rintro e w' ⟨rfl, rfl⟩)
  go_ret
  exact ⟨rfl, rfl⟩
set_option maxHeartbeats 400000 in
theorem read_nil (s : ByteArray) (w : World) : Calls Tryd.prog 16 #[.pointer none, .string s] w fun e w' => e = .returned (.tuple #[.slice none 0 0, .int .i64 1]) ∧ w = w' := by
  go_enter Tryd.func16, Tryd.ntmps16
  go_wp2_with (go_at_call 49; refine (find_nil _ _).mono ?_; rintro e w' ⟨rfl, rfl⟩)
  go_ret2
  exact ⟨rfl, rfl⟩
set_option maxHeartbeats 400000 in
theorem names_nil  (w : World) : Calls Tryd.prog 17 #[.pointer none] w fun e w' => e = .returned (.tuple #[.slice none 0 0, .int .i64 1]) ∧ w = w' := by
  go_enter Tryd.func17, Tryd.ntmps17
  go_wp2_with (go_at_call 51; refine (ready_nil _).mono ?_; rintro e w' ⟨rfl, rfl⟩)
  go_ret2
  exact ⟨rfl, rfl⟩
set_option maxRecDepth 100000 in
set_option maxHeartbeats 1000000 in
theorem crash_nil (n : Value) (k : Value) (t : Value) (w : World) : Calls Tryd.prog 15 #[.pointer none, n, k, t] w fun e w' => e = .returned (.tuple #[]) ∧ w = w' := by
  go_enter Tryd.func15, Tryd.ntmps15
  go_wp2
  refine bodyPost_ret (results_none rfl _ _ _) rfl ?_
  exact ⟨rfl, rfl⟩
end Chart

/- awake: a cabinet with one file, through a crash. -/
namespace Chart
open Go Go.RowKit Go.Proofs

def wake0 : Cab := Cab.new 100
def wake1 : Cab := { quota := 100, files := [⟨[], 0⟩], now := [([97], 0)], waiting := [⟨0, [], [97], 0⟩] }
def wake2 : Cab := { quota := 100, files := [⟨[120, 121], 0⟩], now := [([97], 0)], waiting := [⟨0, [], [97], 0⟩] }
def wake3 : Cab := { quota := 100, files := [⟨[120, 121], 0⟩], now := [([97], 0)], sure := [([97], 0)] }
def wake4 : Cab := { quota := 100, files := [⟨[120], 1⟩], now := [([97], 0)], sure := [([97], 0)] }
theorem wake1_eq : wake0.create [97] = (wake1, 0) := by decide
theorem wake2_eq : wake1.append [97] [120, 121] = (wake2, 0) := by decide
theorem wake3_eq : wake2.turn = (wake3, 0) := by decide
theorem wake4_eq : wake3.crash 0 [1] 0 = wake4 := by decide
theorem wake5_eq : wake4.read [97] = ([120], 0) := by decide

theorem CabAt.below {w : World} {p : Nat} {c : Cab} {D : Nat → Prop} (h : CabAt w p c D) {k : Nat} (hk : D k) : k < w.heap.size := by
  obtain ⟨_, _, _, _, _, _, _, h3⟩ := h
  exact h3 k hk
section
variable {w : World} {p : Nat} {D : Nat → Prop}
theorem wake1_calls (h : CabAt w p wake0 D) : Calls Tryd.prog 19 #[.pointer (some ⟨p, 0, none⟩), .string (str [97])] w fun e w' => e = .returned (.int .i64 0) ∧ ∃ D', After w D p wake1 D' w' := by
  have := create_calls h [97] (by decide) (by decide) (by decide) (by decide) (by decide) (fun k => by simp [wake0, Cab.new, Folder.get?])
  rw [wake1_eq] at this
  exact this
theorem wake2_calls (h : CabAt w p wake1 D) (B : Value) (hB : BytesSrc w B [120, 121]) (hBD : ∀ k, B.ownBlock = some k → ¬ D k) : Calls Tryd.prog 20 #[.pointer (some ⟨p, 0, none⟩), .string (str [97]), B] w fun e w' => e = .returned (.int .i64 0) ∧ ∃ D', After w D p wake2 D' w' := by
  have := append_calls h [97] (by decide) (by decide) (by decide) (by decide) (by decide) (by decide) (by decide) (by decide) [120, 121] B hB (fun k hk _ => hBD k hk)
  rw [wake2_eq] at this
  exact this
theorem wake3_calls (h : CabAt w p wake2 D) : Calls Tryd.prog 24 #[.pointer (some ⟨p, 0, none⟩)] w fun e w' => e = .returned (.int .i64 0) ∧ ∃ D', After w D p wake3 D' w' := by
  have := turn_calls h (by decide) (by decide) (by decide)
  rw [wake3_eq] at this
  exact this
theorem wake3_ok : CrashOk wake3 where
  files := by decide
  waiting := by decide
  sure := by decide
  chg := by decide
  rep := fun j => by
    have e : wake3.waiting.take j = [] := by simp [wake3]
    rw [e]
    decide
  all := by decide
theorem wake4_calls (h : CabAt w p wake3 D) (KV : Value) (hK : Src w 1 KV 1 [.int .i64 1]) (hKD : ∀ k, KV.ownBlock = some k → ¬ D k) : Calls Tryd.prog 15 #[.pointer (some ⟨p, 0, none⟩), .int .i64 0, KV, .int .u8 0] w fun e w' => e = .returned (.tuple #[]) ∧ ∃ D', After w D p wake4 D' w' := by
  have := crash_calls h wake3_ok 0 (by decide) (by decide) KV [1] hK (fun k hk _ => hKD k hk) 0
  rw [wake4_eq] at this
  exact this
theorem wake5_calls (h : CabAt w p wake4 D) : Calls Tryd.prog 16 #[.pointer (some ⟨p, 0, none⟩), .string (str [97])] w fun e w' => ∃ v', e = .returned (.tuple #[v', .int .i64 0]) ∧ Bytes w' v' [120] ∧ (∀ q, v'.ownBlock = some q → w.heap.size ≤ q) ∧ Fr (fun _ => False) w w' := by
  have := read_calls h [97] (by decide) (by decide) (by decide)
  rw [wake5_eq] at this
  exact this
theorem wake6_calls (h : CabAt w p wake4 D) : Calls Tryd.prog 18 #[.pointer (some ⟨p, 0, none⟩)] w fun e w' => e = .returned (.tuple #[.int .i64 1, .int .i64 100]) ∧ Fr (fun _ => False) w w' := h.used (by decide) (by decide)
end

theorem Src.marked (w : World) (e : TypeId) (cs : Array Value) (fr : Nat × Nat) (n : Nat) (hn : cs.size = n) (hm : n ≤ maxLen) : Src (w.alloc (.cells cs e fr)) 1 (.slice (some ⟨w.heap.size, 0, none⟩) n n) n cs.toList := by
  refine ⟨by simp [hn], _, _, rfl, Nat.le_refl _, hm, (fun h => nomatch h), fun a ha j u hu => ?_⟩
  injection ha with ha
  subst ha
  rw [add_head, World.cell?_alloc_mark]
  simpa using hu
theorem text_of {w : World} {v : Value} {l : Txt} (h : BytesSrc w v l) : (convert 35 9 v).run Tryd.prog w = .ok (.string (str l)) w := by
  obtain ⟨_, A, c, rfl, _, _, hA, hc⟩ := h
  cases A with
  | none =>
    obtain ⟨h0, rfl⟩ := hA rfl
    obtain rfl : l = [] := List.eq_nil_of_length_eq_zero h0
    exact Lib.run_convert_nil_bytes w _ _ 5 0 Tryd.underlying35 Tryd.underlying5 Tryd.underlying9
  | some a =>
    refine run_convert_bytes_back w _ _ 5 a c l Tryd.underlying35 Tryd.underlying5 Tryd.underlying9 fun j hj => hc a rfl j _ ?_
    unfold bytesV
    rw [List.getElem?_map, List.getElem?_eq_getElem hj]
    rfl
set_option maxRecDepth 100000 in
set_option maxHeartbeats 1000000 in
theorem awake_calls (w : World) : Calls Tryd.prog 12 #[] w fun e w' => e = .returned (.bool true) ∧ Fr (fun _ => False) w w' := by
  have kc := fun (w : World) (C : Array Value) (n c : Nat) => Lib.run_convert_bytes_const (P := Tryd.prog) w 35 5 C n c Tryd.underlying35 Tryd.underlying5
  go_enter Tryd.func12, Tryd.ntmps12
  go_wp2_with (first
    | (go_at_call 10; refine (new_calls 100 _ (by decide) (by decide)).mono ?_; rintro e w1 ⟨rfl, ⟨D1, h1, n1⟩, f1⟩)
    | (go_at_call 19; refine (wake1_calls h1).mono ?_; rintro e w2 ⟨rfl, D2, h2⟩)
    | (go_at_call 20; refine (wake2_calls (h2.at_.fr ((Fr.refl (fun _ => False) w2).alloc _) (fun _ _ => id)) _ (Src.marked w2 5 _ _ 2 rfl (by decide)) ?_).mono ?_; (intro k hk hd; have h9 := h2.at_.below hd; simp [Value.ownBlock] at hk; omega); rintro e w3 ⟨rfl, D3, h3⟩)
    | (go_at_call 24; refine (wake3_calls h3.at_).mono ?_; rintro e w4 ⟨rfl, D4, h4⟩)
    | (go_at_call 15; refine (wake4_calls (h4.at_.fr ((Fr.refl (fun _ => False) w4).alloc _) (fun _ _ => id)) _ (Row.made w4 3 1 1 _ rfl (by decide)).src ?_).mono ?_; (intro k hk hd; have h9 := h4.at_.below hd; simp [Value.ownBlock] at hk; omega); rintro e w5 ⟨rfl, D5, h5⟩)
    | (go_at_call 16; refine (wake5_calls h5.at_).mono ?_; rintro e w6 ⟨v6, rfl, hb6, n6, f6⟩; obtain ⟨g6, cp6, rfl, _, _, hc6, _, _⟩ := hb6.form (by decide))
    | (go_at_call 18; refine (wake6_calls (h5.at_.fr f6 (fun _ _ => id))).mono ?_; rintro e w7 ⟨rfl, f7⟩; have kt : (convert 35 9 (.slice (some ⟨g6, 0, none⟩) 1 cp6)).run Tryd.prog w7 = .ok (.string { data := #[120] }) w7 := text_of (hb6.fr f7 fun _ _ => id).src))
  go_ret
  have g2 : Fr (fun _ => False) w w2 := f1.trans h2.fr fun k hk => .inr (n1 k hk)
  have n2 : ∀ k, D2 k → w.heap.size ≤ k := fun k hk => (h2.new k hk).elim (n1 k) (fun h => Nat.le_trans f1.size h)
  have g3 : Fr (fun _ => False) w w3 := (g2.alloc _).trans h3.fr fun k hk => .inr (n2 k hk)
  have n3 : ∀ k, D3 k → w.heap.size ≤ k := fun k hk => (h3.new k hk).elim (n2 k) (fun h => Nat.le_trans (g2.alloc _).size h)
  have g4 : Fr (fun _ => False) w w4 := g3.trans h4.fr fun k hk => .inr (n3 k hk)
  have n4 : ∀ k, D4 k → w.heap.size ≤ k := fun k hk => (h4.new k hk).elim (n3 k) (fun h => Nat.le_trans g3.size h)
  have g5 : Fr (fun _ => False) w w5 := (g4.alloc _).trans h5.fr fun k hk => .inr (n4 k hk)
  exact ⟨rfl, (g5.trans f6 fun _ h => h.elim).trans f7 fun _ h => h.elim⟩
end Chart

/- The document's cabinet in memory. -/
namespace Chart
open Go Go.RowKit Go.Proofs

def rfileCells : List FileS → List Value
  | [] => []
  | f :: r => .string (str f.all) :: .int .i64 f.sure :: rfileCells r
def entCells : Folder → List Value
  | [] => []
  | y :: r => .string (str y.1) :: .int .i64 y.2 :: entCells r
def rchgCells : List RChg → List Value
  | [] => []
  | x :: r => .string (str x.old) :: .string (str x.name) :: .int .i64 x.file :: rchgCells r

theorem rfileCells_get : ∀ (l : List FileS) (k : Nat) (f : FileS), l[k]? = some f → (rfileCells l)[k * 2]? = some (.string (str f.all)) ∧ (rfileCells l)[k * 2 + 1]? = some (.int .i64 f.sure)
  | [], _, _, h => by simp at h
  | y :: r, 0, x, h => by simp at h; subst h; exact ⟨rfl, rfl⟩
  | y :: r, k + 1, x, h => by
    simp only [List.getElem?_cons_succ] at h
    have ih := rfileCells_get r k x h
    have e : (k + 1) * 2 = k * 2 + 1 + 1 := by omega
    simp only [rfileCells, e, List.getElem?_cons_succ]
    exact ih
theorem entCells_get : ∀ (l : Folder) (k : Nat) (y : Txt × Nat), l[k]? = some y → (entCells l)[k * 2]? = some (.string (str y.1)) ∧ (entCells l)[k * 2 + 1]? = some (.int .i64 y.2)
  | [], _, _, h => by simp at h
  | y :: r, 0, x, h => by simp at h; subst h; exact ⟨rfl, rfl⟩
  | y :: r, k + 1, x, h => by
    simp only [List.getElem?_cons_succ] at h
    have ih := entCells_get r k x h
    have e : (k + 1) * 2 = k * 2 + 1 + 1 := by omega
    simp only [entCells, e, List.getElem?_cons_succ]
    exact ih
theorem rchgCells_get : ∀ (l : List RChg) (k : Nat) (x : RChg), l[k]? = some x → (rchgCells l)[k * 3]? = some (.string (str x.old)) ∧ (rchgCells l)[k * 3 + 1]? = some (.string (str x.name)) ∧ (rchgCells l)[k * 3 + 2]? = some (.int .i64 x.file)
  | [], _, _, h => by simp at h
  | y :: r, 0, x, h => by simp at h; subst h; exact ⟨rfl, rfl, rfl⟩
  | y :: r, k + 1, x, h => by
    simp only [List.getElem?_cons_succ] at h
    have ih := rchgCells_get r k x h
    have e : (k + 1) * 3 = k * 3 + 1 + 1 + 1 := by omega
    simp only [rchgCells, e, List.getElem?_cons_succ]
    exact ih
theorem rfileCells_append : ∀ (a b : List FileS), rfileCells (a ++ b) = rfileCells a ++ rfileCells b
  | [], _ => rfl
  | f :: r, b => by simp [rfileCells, rfileCells_append r b]
theorem entCells_append : ∀ (a b : Folder), entCells (a ++ b) = entCells a ++ entCells b
  | [], _ => rfl
  | f :: r, b => by
    have h := entCells_append r b
    simp only [List.cons_append, entCells, h]
theorem rchgCells_append : ∀ (a b : List RChg), rchgCells (a ++ b) = rchgCells a ++ rchgCells b
  | [], _ => rfl
  | f :: r, b => by simp [rchgCells, rchgCells_append r b]

abbrev Ents (w : World) (v : Value) (l : Folder) : Prop := Row w 128 2 v l.length (entCells l)

structure RefIn (w : World) (p : Nat) (c : RCab) (fv nv sv wv : Value) : Prop where
  blk : Blk w p 86 #[.int .i64 c.quota, fv, nv, sv, wv, .int .i64 c.after, .bool c.timed, .bool c.off]
  files : Row w 126 2 fv c.files.length (rfileCells c.files)
  now : Ents w nv c.now
  sure : Ents w sv c.sure
  waiting : Row w 124 3 wv c.waiting.length (rchgCells c.waiting)
def RefOwn (p : Nat) (fv nv sv wv : Value) (k : Nat) : Prop :=
  k = p ∨ fv.ownBlock = some k ∨ nv.ownBlock = some k ∨ sv.ownBlock = some k ∨ wv.ownBlock = some k
def RefAt (w : World) (p : Nat) (c : RCab) (D : Nat → Prop) : Prop :=
  ∃ fv nv sv wv, RefIn w p c fv nv sv wv ∧ (∀ k, RefOwn p fv nv sv wv k → D k) ∧ ∀ k, D k → k < w.heap.size
structure RAfter (w : World) (D : Nat → Prop) (p : Nat) (c : RCab) (D' : Nat → Prop) (w' : World) : Prop where
  at_ : RefAt w' p c D'
  fr : Fr D w w'
  new : ∀ k, D' k → D k ∨ w.heap.size ≤ k

section
variable {w w' : World} {p : Nat} {c : RCab} {fv nv sv wv : Value} {D : Nat → Prop}
theorem RefIn.fr {E : Nat → Prop} (h : RefIn w p c fv nv sv wv) (hf : Fr E w w') (hn : ∀ k, RefOwn p fv nv sv wv k → ¬ E k) : RefIn w' p c fv nv sv wv where
  blk := h.blk.fr hf (hn p (.inl rfl))
  files := h.files.fr hf fun k hk => hn k (.inr (.inl hk))
  now := h.now.fr hf fun k hk => hn k (.inr (.inr (.inl hk)))
  sure := h.sure.fr hf fun k hk => hn k (.inr (.inr (.inr (.inl hk))))
  waiting := h.waiting.fr hf fun k hk => hn k (.inr (.inr (.inr (.inr hk))))
theorem RefIn.lt (h : RefIn w p c fv nv sv wv) : ∀ k, RefOwn p fv nv sv wv k → k < w.heap.size := by
  rintro k (rfl | hk | hk | hk | hk)
  · exact h.blk.lt
  · exact h.files.lt hk
  · exact h.now.lt hk
  · exact h.sure.lt hk
  · exact h.waiting.lt hk
theorem RefAt.fr {E : Nat → Prop} (h : RefAt w p c D) (hf : Fr E w w') (hn : ∀ k, D k → ¬ E k) : RefAt w' p c D := by
  obtain ⟨fv, nv, sv, wv, h1, h2, h3⟩ := h
  exact ⟨fv, nv, sv, wv, h1.fr hf fun k hk => hn k (h2 k hk), h2, fun k hk => Nat.lt_of_lt_of_le (h3 k hk) hf.size⟩
theorem RefAt.below (h : RefAt w p c D) {k : Nat} (hk : D k) : k < w.heap.size := by
  obtain ⟨_, _, _, _, _, _, h3⟩ := h
  exact h3 k hk
theorem RAfter.same (h : RefAt w p c D) : RAfter w D p c D w := ⟨h, Fr.refl _ _, fun _ h => .inl h⟩
theorem RAfter.trans {w1 w2 : World} {D1 D2 : Nat → Prop} {c1 c2 : RCab} (h : RAfter w D p c1 D1 w1) (k : RAfter w1 D1 p c2 D2 w2) : RAfter w D p c2 D2 w2 :=
  ⟨k.at_, h.fr.trans k.fr h.new, fun i hi => by
    rcases k.new i hi with hi | hi
    · exact h.new i hi
    · exact .inr (Nat.le_trans h.fr.size hi)⟩
theorem RefAt.drew (h : RefAt w p c D) : RefAt w.drew p c D := h.fr ((Fr.refl (fun _ => False) w).drew) fun _ _ => id
theorem RefAt.drewN (h : RefAt w p c D) (n : Nat) : RefAt (w.drewN n) p c D := h.fr ((Fr.refl (fun _ => False) w).drewN n) fun _ _ => id
theorem RAfter.drew {D' : Nat → Prop} (h : RAfter w D p c D' w') : RAfter w D p c D' w'.drew := ⟨h.at_.drew, h.fr.drew, h.new⟩
theorem RAfter.drewN {D' : Nat → Prop} (h : RAfter w D p c D' w') (n : Nat) : RAfter w D p c D' (w'.drewN n) := ⟨h.at_.drewN n, h.fr.drewN n, h.new⟩
theorem RefIn.cells (h : RefIn w p c fv nv sv wv) : w.cell? ⟨p, 0, none⟩ = some (.int .i64 c.quota) ∧ w.cell? ⟨p, 1, none⟩ = some fv ∧ w.cell? ⟨p, 2, none⟩ = some nv ∧
    w.cell? ⟨p, 3, none⟩ = some sv ∧ w.cell? ⟨p, 4, none⟩ = some wv ∧ w.cell? ⟨p, 5, none⟩ = some (.int .i64 c.after) ∧ w.cell? ⟨p, 6, none⟩ = some (.bool c.timed) ∧ w.cell? ⟨p, 7, none⟩ = some (.bool c.off) := by
  refine ⟨?_, ?_, ?_, ?_, ?_, ?_, ?_, ?_⟩ <;> rw [h.blk.cell] <;> rfl
end
end Chart

/- The document's cabinet: part, find, good, power. -/
namespace Chart
open Go Go.RowKit Go.Proofs
attribute [local go_sem ↓] Go.wp_at_zero Go.wp_at_succ

set_option maxHeartbeats 1000000 in
theorem rpart_calls (n m : Int) (w : World) : Calls Tryd.prog 73 #[.int .i64 n, .int .i64 m] w fun e w' => e = .returned (.int .i64 (RCab.part n m)) ∧ w = w' := by
  unfold RCab.part
  go_enter Tryd.func73, Tryd.ntmps73
  go_wp2
  all_goals
    go_ret
    refine ⟨?_, rfl⟩
    first | (simp [*]; done) | (congr 2; split <;> omega)

theorem str_eqb (a b : Txt) : ((str a).toList == (str b).toList) = (a == b) := by
  rw [ByteArray.toList_eq, ByteArray.toList_eq, str_toList, str_toList]
theorem str_same {a b : Txt} (h : a = b) : ((str a).toList == (str b).toList) = true := by rw [str_eqb]; simpa using h
theorem str_other {a b : Txt} (h : ¬ a = b) : ((str a).toList == (str b).toList) = false := by rw [str_eqb]; simpa using h

theorem at_none {l : Folder} {k : Txt} (h : ∀ y ∈ l, ¬ y.1 = k) : l.at_ k = -1 := by
  unfold Folder.at_ Folder.get?
  have : l.find? (fun p => p.1 == k) = none := by
    rw [List.find?_eq_none]
    intro y hy
    simpa using h y hy
  rw [this]
  rfl
theorem get_here {l : Folder} {k : Txt} {j m : Nat} (hj : l[j]? = some (k, m)) (h : ∀ y ∈ l.take j, ¬ y.1 = k) : l.get? k = some m := by
  have hl := (List.getElem?_eq_some_iff.1 hj).1
  have e : l = l.take j ++ (k, m) :: l.drop (j + 1) := by
    rw [← (List.getElem?_eq_some_iff.1 hj).2, List.getElem_cons_drop, List.take_append_drop]
  unfold Folder.get?
  rw [e, List.find?_append, List.find?_eq_none.2 (fun y hy => by simpa using h y hy)]
  simp

set_option maxHeartbeats 1000000 in
theorem rfind_calls (l : Folder) (v : Value) (k : Txt) (w : World) (h : Ents w v l) :
    Calls Tryd.prog 75 #[v, .string (str k)] w fun e w' => e = .returned (.int .i64 (l.at_ k)) ∧ w = w' := by
  obtain ⟨A, cp, rfl, hcp, hcp2⟩ := h.shape
  have hle := h.le
  have H := Lib.hid h
  clear h
  go_enter Tryd.func75, Tryd.ntmps75
  go_wp2
  go_loopw [5] (fun i wr => ∃ j : Nat, j ≤ l.length ∧ i = .int .i64 j ∧ wr = w ∧ ∀ y ∈ l.take j, ¬ y.1 = k) (fun i _ => l.length - (RowKit.intOf i).toNat)
  case atStart => exact ⟨0, Nat.zero_le _, rfl, rfl, fun y hy => by simp at hy⟩
  case round =>
    obtain ⟨j, hj, rfl, rfl, hno⟩ := hrel
    by_cases hlt : j < l.length
    · obtain ⟨⟨name, m⟩, hmem⟩ : ∃ y, l[j]? = some y := ⟨_, List.getElem?_eq_getElem hlt⟩
      obtain ⟨g, cp', hv, _, _, hcell, _, _⟩ := H.out.form (by omega)
      obtain ⟨rfl, rfl⟩ : A = some ⟨g, 0, none⟩ ∧ cp = cp' := by simpa using hv
      obtain ⟨d0, d1⟩ := entCells_get l j _ hmem
      have c0 := hcell _ _ d0
      have c1 := hcell _ _ d1
      simp only at c0 c1
      have HM := Lib.hid hmem
      have HN := Lib.hid hno
      clear hmem hv d0 d1 hcell hno
      by_cases hk : name = k
      · have he := str_same hk
        have HK := Lib.hid hk
        clear hk
        go_wp2
        go_ret
        have e : l.at_ k = (m : Int) := by
          have hkk := HK.out
          subst hkk
          unfold Folder.at_
          rw [get_here HM.out HN.out]
        exact ⟨by rw [e]; rfl, rfl⟩
      · have he := str_other hk
        have HK := Lib.hid hk
        clear hk
        go_wp2
        refine ⟨⟨j + 1, by omega, by go_num, by trivial, ?_⟩, by simp [RowKit.intOf]; omega⟩
        intro y hy
        rw [take_snoc' _ _ _ HM.out] at hy
        rcases List.mem_append.1 hy with hy | hy
        · exact HN.out y hy
        · simp at hy
          subst hy
          exact HK.out
    · obtain rfl : j = l.length := by omega
      have HN := Lib.hid hno
      clear hno
      go_wp2
      go_ret
      have := HN.out
      rw [List.take_length] at this
      exact ⟨by rw [at_none this]; rfl, rfl⟩

theorem nameByte_int (b : UInt8) : Cab.nameByte b = ((decide (97 ≤ (b.toNat : Int)) && decide ((b.toNat : Int) ≤ 122)) || (decide (48 ≤ (b.toNat : Int)) && decide ((b.toNat : Int) ≤ 57)) || decide ((b.toNat : Int) = 45) || decide ((b.toNat : Int) = 46)) := by
  have h : ∀ n : Fin 256, Cab.nameByte (UInt8.ofNat n) = ((decide (97 ≤ ((UInt8.ofNat n).toNat : Int)) && decide (((UInt8.ofNat n).toNat : Int) ≤ 122)) || (decide (48 ≤ ((UInt8.ofNat n).toNat : Int)) && decide (((UInt8.ofNat n).toNat : Int) ≤ 57)) || decide (((UInt8.ofNat n).toNat : Int) = 45) || decide (((UInt8.ofNat n).toNat : Int) = 46)) := by decide +kernel
  have := h ⟨b.toNat, b.toNat_lt⟩
  simpa using this

set_option maxHeartbeats 1000000 in
theorem rgood_calls (k : Txt) (w : World) (hk : k.length ≤ maxLen) :
    Calls Tryd.prog 88 #[.string (str k)] w fun e w' => e = .returned (.bool (Cab.nameOk k)) ∧ w = w' := by
  have hsz : (str k).size = k.length := str_size k
  simp only [maxLen] at hk
  by_cases h1 : k.length < 1
  · have h1' : ((str k).size : Int) < 1 := by omega
    have e : Cab.nameOk k = false := by
      have : k = [] := List.eq_nil_of_length_eq_zero (by omega)
      subst this
      rfl
    rw [e]
    clear hsz e
    go_enter Tryd.func88, Tryd.ntmps88
    go_wp2
    go_ret
    exact ⟨rfl, rfl⟩
  · by_cases h2 : 32 < k.length
    · have h1' : ¬ ((str k).size : Int) < 1 := by omega
      have h2' : (32 : Int) < ((str k).size : Int) := by omega
      have e : Cab.nameOk k = false := by
        unfold Cab.nameOk
        have : decide (k.length ≤ 32) = false := by simpa using h2
        rw [this]
        simp
      rw [e]
      clear hsz e
      go_enter Tryd.func88, Tryd.ntmps88
      go_wp2
      go_ret
      exact ⟨rfl, rfl⟩
    · have h1' : ¬ ((str k).size : Int) < 1 := by omega
      have h2' : ¬ (32 : Int) < ((str k).size : Int) := by omega
      have HS := Lib.hid hsz
      have e : Cab.nameOk k = k.all Cab.nameByte := by
        unfold Cab.nameOk
        have h3 : decide (k.length ≤ 32) = true := by simpa using h2
        have h4 : k.isEmpty = false := by
          cases k with
          | nil => simp at h1
          | cons => rfl
        rw [h3, h4]
        simp
      rw [e]
      clear hsz e
      go_enter Tryd.func88, Tryd.ntmps88
      go_wp2
      go_loopw [3] (fun i wr => ∃ j : Nat, j ≤ k.length ∧ i = .int .i64 j ∧ wr = w ∧ ∀ y ∈ k.take j, Cab.nameByte y = true) (fun i _ => k.length - (RowKit.intOf i).toNat)
      case atStart => exact ⟨0, Nat.zero_le _, rfl, rfl, fun y hy => by simp at hy⟩
      case round =>
        obtain ⟨j, hj, rfl, rfl, hno⟩ := hrel
        by_cases hlt : j < k.length
        · have hlt2 : (j : Int) < ((str k).size : Int) := by rw [HS.out]; omega
          have hb2 : ∀ (h : j < (str k).size), ((str k)[j]'h).toNat = (k[j]'hlt).toNat := fun h => by
            have : (str k)[j]'h = k[j]'hlt := rfl
            rw [this]
          have hsz : j < (str k).size := by rw [HS.out]; exact hlt
          have HB := Lib.hid (hb2 hsz)
          have HN := Lib.hid hno
          clear hb2 hno
          go_wp2
          all_goals first
            | (go_ret
               refine ⟨?_, rfl⟩
               have e : k.all Cab.nameByte = false := by
                 rw [List.all_eq_false]
                 refine ⟨_, List.getElem_mem hlt, ?_⟩
                 rw [nameByte_int, ← HB.out]
                 simp only [Bool.or_eq_true, Bool.and_eq_true, decide_eq_true_eq]
                 first | omega | (simp at *; omega)
               rw [e]
               rfl)
            | (refine ⟨⟨j + 1, by omega, by go_num, by trivial, ?_⟩, by simp [RowKit.intOf]; omega⟩
               intro y hy
               rw [take_snoc' _ _ _ (List.getElem?_eq_getElem hlt)] at hy
               rcases List.mem_append.1 hy with hy | hy
               · exact HN.out y hy
               · rw [List.mem_singleton] at hy
                 subst hy
                 rw [nameByte_int, ← HB.out]
                 simp only [Bool.or_eq_true, Bool.and_eq_true, decide_eq_true_eq]
                 first | omega | (simp at *; omega))
        · obtain rfl : j = k.length := by omega
          have hge : ¬ (k.length : Int) < ((str k).size : Int) := by rw [HS.out]; omega
          have HN := Lib.hid hno
          clear hno
          go_wp2
          go_ret
          have e : k.all Cab.nameByte = true := by
            have := HN.out
            rw [List.take_length] at this
            exact List.all_eq_true.2 this
          exact ⟨by rw [e]; rfl, rfl⟩
end Chart
