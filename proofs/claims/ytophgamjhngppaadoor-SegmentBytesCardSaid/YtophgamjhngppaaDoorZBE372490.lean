import Derived.Test.YtophgamjhngppaaDoorZAF9DBE2F
import Derived.Test.YtophgamjhngppaaDoorZ0CA8B396
import Derived.Laws.MakeOwn
/- Crash: the walk. -/
namespace Chart
open Go Go.RowKit Go.Proofs
attribute [local go_sem ↓] Go.wp_at_zero Go.wp_at_succ


section
variable {w : World} {p : Nat} {c : Cab} {D : Nat → Prop}
set_option maxRecDepth 100000 in
set_option maxHeartbeats 8000000 in
theorem crash_calls (h : CabAt w p c D) (ok : CrashOk c) (names : Int) (n0 : -9223372036854775808 ≤ names) (n1 : names ≤ 9223372036854775807) (KV : Value) (keep : List Int) (hK : Src w 1 KV keep.length (keep.map (Value.int .i64))) (hKD : ∀ k, KV.ownBlock = some k → 0 < keep.length → ¬ D k) (turn : UInt8) :
    Calls Tryd.prog 15 #[.pointer (some ⟨p, 0, none⟩), .int .i64 names, KV, .int .u8 turn.toNat] w fun e w' => e = .returned (.tuple #[]) ∧ ∃ D', After w D p (c.crash names keep turn) D' w' := by
  obtain ⟨fv, avs, nb, sb, wv, hi, hD, hlt⟩ := id h
  obtain ⟨_, _, _, k3, _, _, _⟩ := hi.cells
  have HC := Lib.hid (clone_calls sb c.sure w hi.sure)
  obtain ⟨_, AK, cK, rfl, hKc, hKm, _⟩ := id hK
  obtain ⟨AW, cW, rfl, hWc, hWm⟩ := hi.waiting.shape
  obtain ⟨A, cp, rfl, hcp, hcp2⟩ := hi.files.shape
  have hp := hi.blk.lt
  have okw := ok.waiting
  go_enter Tryd.func15, Tryd.ntmps15
  go_wp2_with (go_at_call 42; refine HC.out.mono ?_; rintro e w1 ⟨rfl, hF1, hB1⟩; have hb1 := hi.blk.fr (Fr.of_below (fun _ => False) hB1) id; have q1 := hb1.frozen 2; have q3 : w1.cell? ⟨p, 2, none⟩ = some (.map (some nb)) := hb1.cell 2)
  have hm := crash_mid hi hF1 hB1
  have F1 : Fr (fun k => k = p) w (w1.setCell ⟨p, 2, none⟩ (.map (some w.heap.size))) := (Fr.of_below (fun k => k = p) hB1).setCell (p := ⟨p, 2, none⟩) (.inl rfl) _
  generalize (w1.setCell ⟨p, 2, none⟩ (.map (some w.heap.size))) = W at *
  clear q1 q3 hb1 hF1 hB1 HC k3
  obtain ⟨S, hS⟩ : ∃ S, S = w.heap.size := ⟨_, rfl⟩
  rw [← hS] at hm ⊢
  have HS := Lib.hid hS
  clear hS
  have m4 : W.cell? ⟨p, 4, none⟩ = some (.slice AW c.waiting.length cW) := hm.blk.cell 4
  have hpt : 0 ≤ Cab.part names c.waiting.length ∧ Cab.part names c.waiting.length ≤ c.waiting.length := by unfold Cab.part; omega
  obtain ⟨kn, hkn⟩ : ∃ kn : Nat, Cab.part names c.waiting.length = kn := ⟨_, (Int.toNat_of_nonneg hpt.1).symm⟩
  have hkl : kn ≤ c.waiting.length := by omega
  have HP := Lib.hid (part_calls names (c.waiting.length : Nat))
  rw [hkn] at HP
  have HKN := Lib.hid hkn
  clear hkn hpt
  have i1 : (kn : Int) ≤ (cW : Int) := by omega
  have i2 : (0 : Int) ≤ (kn : Int) := by omega
  go_region_held3 (fun w' => w'.cell? ⟨p, 4, none⟩ = some (.slice AW c.waiting.length cW)) (go_keep) ((go_at_call 43; refine (HP.out _).mono ?_; rintro e w2 ⟨rfl, rfl⟩))
  go_wp2_with fail
  have hmd : CabIn W.drew p { c with now := c.sure } (.slice A c.files.length cp) avs S sb (.slice AW c.waiting.length cW) := hm.fr ((Fr.refl (fun _ => False) W).drew) fun _ _ => id
  have F1d := F1.drew
  generalize W.drew = W1 at *
  clear hm F1 m4 W hi
  have OK := Lib.hid ok
  have HD := Lib.hid hD
  clear ok hD
  obtain ⟨FF, hFF⟩ : ∃ FF : Nat → Folder, FF = fun j => (c.waiting.take j).foldl Folder.apply c.sure := ⟨_, rfl⟩
  have HFF := Lib.hid hFF
  have hF0 : FF 0 = c.sure := by rw [hFF]; rfl
  have hmd0 : CabIn W1 p { c with now := FF 0 } (.slice A c.files.length cp) avs S sb (.slice AW c.waiting.length cW) := by rw [hF0]; exact hmd
  clear hFF hF0 hmd
  go_loopw [38] (fun i wr => ∃ k : Nat, k ≤ kn ∧ i = .int .i64 k ∧ CabIn wr p { c with now := FF k } (.slice A c.files.length cp) avs S sb (.slice AW c.waiting.length cW) ∧ Fr (· = S) W1 wr) (fun i _ => kn - (RowKit.intOf i).toNat)
  case atStart => exact ⟨0, Nat.zero_le _, rfl, hmd0, Fr.refl _ _⟩
  case round =>
    obtain ⟨k, hk, rfl, hin, hfr⟩ := hrel
    by_cases hlt2 : k < kn
    · have hkw : k < c.waiting.length := by omega
      have hx := List.getElem?_eq_getElem hkw
      generalize c.waiting[k] = x at hx
      obtain ⟨d0, d1, d2, d3⟩ := chgCells_get c.waiting k x hx
      obtain ⟨gW, cW', hv, _, _, hcell, _, hgl⟩ := hin.waiting.form (show 0 < c.waiting.length by omega)
      obtain ⟨rfl, rfl⟩ : AW = some ⟨gW, 0, none⟩ ∧ cW = cW' := by simpa using hv
      obtain ⟨kd, old, name, file⟩ := x
      have e0 := hcell _ _ d0
      have e1 := hcell _ _ d1
      have e2 := hcell _ _ d2
      have e3 := hcell _ _ d3
      simp only at e0 e1 e2 e3
      have HX := Lib.hid hx
      clear hx d0 d1 d2 d3 hcell hv
      go_wp2_with fail
      have hiB := hin.fr ((Fr.refl (fun _ => False) wr).alloc (.cells #[.int .i64 kd, .string (str old), .string (str name), .int .i64 file] 94)) (fun _ _ => id)
      have hbox := Blk.new wr 94 #[.int .i64 kd, .string (str old), .string (str name), .int .i64 file]
      have hfr0 : Fr (fun _ => False) wr (wr.alloc (.cells #[.int .i64 kd, .string (str old), .string (str name), .int .i64 file] 94)) := (Fr.refl (fun _ => False) wr).alloc _
      generalize wr.alloc (.cells #[.int .i64 kd, .string (str old), .string (str name), .int .i64 file] 94) = V at *
      generalize wr.heap.size = B at *
      have hb0 : V.cell? ⟨B, 0, none⟩ = some (.int .i64 kd) := hbox.cell 0
      have hb1 : V.cell? ⟨B, 1, none⟩ = some (.string (str old)) := hbox.cell 1
      have hb2 : V.cell? ⟨B, 2, none⟩ = some (.string (str name)) := hbox.cell 2
      have hb3 : V.cell? ⟨B, 3, none⟩ = some (.int .i64 file) := hbox.cell 3
      have k2 : V.cell? ⟨p, 2, none⟩ = some (.map (some S)) := hiB.blk.cell 2
      have hnow := hiB.now
      simp only at hnow
      have hpn : ¬ p = S := hiB.blk.ne_map hnow
      have hBn : ¬ B = S := hbox.ne_map hnow
      have hchg := OK.out.chg _ (List.mem_of_getElem? HX.out)
      simp only at hchg
      obtain ⟨g1, g2, g3, g4⟩ := hchg
      have hl1 : (FF k).length < 1000000000 := by
        rw [HFF.out]
        have h1 := foldl_length (c.waiting.take k) c.sure
        have h2 := OK.out.sure
        have h3 : (c.waiting.take k).length ≤ c.waiting.length := by rw [List.length_take]; omega
        have h4 := OK.out.waiting
        simp only
        omega
      have hl2 : ((FF k).get? old).getD 0 ≤ 9223372036854775807 := by
        have h1 := get_le (F := FF k) (N := c.files.length) (fun x hx => (OK.out.rep k x (by rw [HFF.out] at hx; exact hx)).1) old
        have h2 := OK.out.files
        omega
      go_region_held3 (fun w' => w'.cell? ⟨p, 2, none⟩ = some (.map (some S)) ∧ w'.cell? ⟨B, 0, none⟩ = some (.int .i64 kd) ∧ w'.cell? ⟨B, 1, none⟩ = some (.string (str old)) ∧ w'.cell? ⟨B, 2, none⟩ = some (.string (str name)) ∧ w'.cell? ⟨B, 3, none⟩ = some (.int .i64 file)) (first | go_keep | exact ⟨hfr1.undrew.cell (a := ⟨p, 2, none⟩) k2 hpn, hfr1.undrew.cell (a := ⟨B, 0, none⟩) hb0 hBn, hfr1.undrew.cell (a := ⟨B, 1, none⟩) hb1 hBn, hfr1.undrew.cell (a := ⟨B, 2, none⟩) hb2 hBn, hfr1.undrew.cell (a := ⟨B, 3, none⟩) hb3 hBn⟩) ((go_at_call 44; refine (with_calls S (FF k) ⟨kd, old, name, file⟩ _ hnow.drew hl1 g1 g2 g3 g4 hl2).mono ?_; rintro e w3 ⟨rfl, hF3, hfr1⟩))
      go_wp2_with fail
      have hx := HX.out
      have hin4 : CabIn w3 p { c with now := FF (k + 1) } (.slice A c.files.length cp) avs S sb (.slice (some ⟨gW, 0, none⟩) c.waiting.length cW) := by
        have e : FF (k + 1) = (FF k).apply ⟨kd, old, name, file⟩ := by
          rw [HFF.out]
          simp only
          rw [take_snoc' _ _ _ HX.out, List.foldl_append]
          rfl
        rw [e]
        exact hiB.newNow hfr1.undrew hF3
      refine ⟨⟨k + 1, by omega, by go_num, hin4, (hfr.trans (hfr0.mono fun _ _ h => h.elim) fun i hi => .inl hi).trans hfr1.undrew fun i hi => .inl hi⟩, by simp [RowKit.intOf]; omega⟩
    · obtain rfl : k = kn := by omega
      have HI := Lib.hid hin
      have hnow := hin.now
      simp only at hnow
      have k2 : wr.cell? ⟨p, 2, none⟩ = some (.map (some S)) := hin.blk.cell 2
      have hl1 : (FF k).length ≤ 100000000 := by
        rw [HFF.out]
        have h1 := foldl_length (c.waiting.take k) c.sure
        have h2 := OK.out.sure
        have h3 : (c.waiting.take k).length ≤ c.waiting.length := by rw [List.length_take]; omega
        have h4 := OK.out.waiting
        simp only
        omega
      have HSrt := Lib.hid (sorted_calls S (FF k) wr hnow hl1)
      have HRep : ∀ x ∈ FF k, x.2 < c.files.length ∧ x.1.length ≤ maxLen := by
        rw [HFF.out]
        exact OK.out.rep k
      have HRep := Lib.hid HRep
      have hNF : FF k = (c.waiting.take k).foldl Folder.apply c.sure := by rw [HFF.out]
      have HNF := Lib.hid hNF
      clear hNF
      clear hin
      generalize FF k = NF at *
      go_wp2_with (first
        | (go_at_call 46; refine (keys_calls _ _).mono ?_; rintro e w1 ⟨rfl, rfl⟩)
        | (go_at_call 45; refine HSrt.out.mono ?_; rintro e w2 ⟨vs, rfl, hrow, hown, hfrS⟩; obtain ⟨AN, cN, rfl, hcN, hmN⟩ := hrow.shape))
      have FT : Fr D w w2 := ((F1d.mono fun q _ e => by subst e; exact HD.out _ (.inl rfl)).trans hfr fun q e => .inr (by rw [show q = S from e, HS.out]; exact Nat.le_refl _)).trans hfrS fun _ h => h.elim
      have hK2 := hK.frl FT hKD
      have hin2 := HI.out.fr hfrS fun _ _ => id
      clear hK HI hnow k2 HSrt hmd0 F1d h hfrS
      have HKD := Lib.hid hKD
      have HOWN := Lib.hid hown
      have HCN := Lib.hid hcN
      clear hKD hown
      obtain ⟨CF, hCF⟩ : ∃ CF : Nat → List FileS, CF = fun j => Cab.crashFiles NF keep turn (NF.keys.take j) 0 c.files := ⟨_, rfl⟩
      have HCF := Lib.hid hCF
      have hC0 : CF 0 = c.files := by rw [hCF]; rfl
      have hCl : ∀ j, (CF j).length = c.files.length := by intro j; rw [hCF]; exact crashFiles_length _ _ _ _ _ _
      have hin20 : CabIn w2 p { c with now := NF, files := CF 0 } (.slice A c.files.length cp) avs S sb (.slice AW c.waiting.length cW) := by rw [hC0]; exact hin2
      have HCl := Lib.hid hCl
      clear hCF hC0 hCl hin2
      go_loopw [56] (fun i wv => ∃ (j : Nat) (avs' : List Value), j ≤ NF.keys.length ∧ i = .int .i64 j ∧ CabIn wv p { c with now := NF, files := CF j } (.slice A c.files.length cp) avs' S sb (.slice AW c.waiting.length cW) ∧ (∀ u ∈ avs', ∀ q, u.ownBlock = some q → ∃ v ∈ avs, v.ownBlock = some q) ∧ Fr D w2 wv ∧ Row wv 9 1 (.slice AN NF.keys.length cN) NF.keys.length (strV NF.keys) ∧ Src wv 1 (.slice AK keep.length cK) keep.length (keep.map (Value.int .i64))) (fun i _ => NF.keys.length - (RowKit.intOf i).toNat)
      case atStart => exact ⟨0, avs, Nat.zero_le _, rfl, hin20, fun u hu q hq => ⟨u, hu, hq⟩, Fr.refl _ _, hrow, hK2⟩
      case round =>
        clear hrow hK2
        obtain ⟨j, avs', hj, rfl, hin, hsub, hfr2, hrow, hKs⟩ := hrel
        by_cases hlt3 : j < NF.keys.length
        · have hNj : j < NF.length := by simpa [Folder.keys] using hlt3
          obtain ⟨⟨name, m⟩, hmem⟩ : ∃ y, NF[j]? = some y := ⟨_, List.getElem?_eq_getElem hNj⟩
          have hkey : NF.keys[j]? = some name := by unfold Folder.keys; rw [List.getElem?_map, hmem]; rfl
          obtain ⟨gN, cN', hv, _, _, hcell, _, _⟩ := hrow.form (by omega)
          obtain ⟨rfl, rfl⟩ : AN = some ⟨gN, 0, none⟩ ∧ cN = cN' := by simpa using hv
          have hname := hcell j (.string (str name)) (by unfold strV; rw [List.getElem?_map, hkey]; rfl)
          obtain ⟨n, hget, hnlt⟩ : ∃ n, NF.get? name = some n ∧ n < c.files.length := by
            obtain ⟨n, hn⟩ := get_some (List.mem_of_getElem? hmem)
            exact ⟨n, hn, (HRep.out _ (get_mem hn)).1⟩
          have hnl : n < (CF j).length := by rw [HCl.out]; exact hnlt
          obtain ⟨g, cp', v, f, hv2, _, hav, hfn, hg, c0, c1, hb⟩ := hin.file (k := n) hnl
          obtain ⟨rfl, hq, rfl⟩ : A = some ⟨g, 0, none⟩ ∧ c.files.length = (CF j).length ∧ cp = cp' := by simpa using hv2
          have hlook := fun m0 : Nat => (hin.now.drewN m0).look_run Tryd.underlying9 Tryd.underlying77 Tryd.underlying3 (zero_int _) name (HRep.out _ (List.mem_of_getElem? hmem)).2
          simp only [hget, Option.getD_some] at hlook
          have b1 : wr.cell? ⟨p, 1, none⟩ = some (.slice (some ⟨g, 0, none⟩) c.files.length cp) := hin.blk.cell 1
          have b2 : wr.cell? ⟨p, 2, none⟩ = some (.map (some S)) := hin.blk.cell 2
          have i3 : (n : Int) < (c.files.length : Int) := by omega
          have i4 : (0 : Int) ≤ (n : Int) := by omega
          have HM := Lib.hid hmem
          have HK := Lib.hid hkey
          have HG := Lib.hid hget
          have HV := Lib.hid hav
          have HF := Lib.hid hfn
          have hfn0 := hfn
          simp only at hfn0
          rw [HCF.out] at hfn0
          have HFC := Lib.hid hfn0
          clear hfn0
          clear hv hv2 hq hcell hmem hkey hget hav hfn
          have hFO : FileOk f := by
            have h1 := crashFiles_ok NF keep turn (NF.keys.take j) 0 c.files OK.out.all
            exact h1 f (List.mem_of_getElem? HFC.out)
          obtain ⟨hf1, hf2⟩ := hFO
          obtain ⟨AV, cV, rfl, hcV, hcV2⟩ := hb.shape
          by_cases hkk : j < keep.length
          · obtain ⟨kj, hkj⟩ : ∃ kj, keep[j]? = some kj := ⟨_, List.getElem?_eq_getElem hkk⟩
            obtain ⟨_, A2, c2, hv3, _, _, hAn, hcell2⟩ := id hKs
            obtain ⟨rfl, rfl⟩ : AK = A2 ∧ cK = c2 := by simpa using hv3
            cases AK with
            | none => have := (hAn rfl).1; omega
            | some aK =>
            have rk : wr.cell? (aK.add j) = some (.int .i64 kj) := hcell2 aK rfl j _ (by rw [List.getElem?_map, hkj]; rfl)
            obtain ⟨mo, hmo⟩ : ∃ mo : Nat, Cab.part kj ((f.all.length : Int) - (f.sure : Int)) = mo := ⟨_, (Int.toNat_of_nonneg (part_le kj _ (by omega)).1).symm⟩
            have hmo2 : f.sure + mo ≤ f.all.length := by have := (part_le kj ((f.all.length : Int) - (f.sure : Int)) (by omega)).2; omega
            have HPA := part_calls kj ((f.all.length : Int) - (f.sure : Int))
            simp only [hmo] at HPA
            have HPA := Lib.hid HPA
            have HMO : (if j < keep.length then Cab.part (keep.getD j 0) ((f.all.length : Int) - (f.sure : Int)) else 0) = (mo : Int) := by
              rw [if_pos hkk, List.getD_eq_getElem?_getD, hkj]
              exact hmo
            have HMO := Lib.hid HMO
            have HKJ := Lib.hid hkj
            clear hv3 hAn hcell2 hmo hkj
            go_wp2_with fail
            go_quiet (fail)
            have hinV := hin.fr ((Fr.refl (fun _ => False) wr).drewN nq) fun _ _ => id
            have hfrV : Fr D w2 (wr.drewN nq) := hfr2.drewN nq
            have hrowV := hrow.drewN nq
            have hKsV := hKs.drewN nq
            have hbV := hb.drewN nq
            replace c0 : (wr.drewN nq).cell? _ = _ := c0
            replace c1 : (wr.drewN nq).cell? _ = _ := c1
            replace rk : (wr.drewN nq).cell? _ = _ := rk
            clear hin hfr2 hrow hKs hb b1 b2 hlook hname
            generalize wr.drewN nq = V at *
            go_wp2_with fail
            go_quiet ((go_at_call 43; exact Calls.quiet_of_same ((HPA.out _).mono fun _ _ h => ⟨h.1, h.2.symm⟩)))
            have hinW := hinV.fr ((Fr.refl (fun _ => False) V).drewN nq) fun _ _ => id
            have hfrW : Fr D w2 (V.drewN nq) := hfrV.drewN nq
            have hrowW := hrowV.drewN nq
            have hKsW := hKsV.drewN nq
            have hbW := hbV.drewN nq
            replace c0 : (V.drewN nq).cell? _ = _ := c0
            replace c1 : (V.drewN nq).cell? _ = _ := c1
            clear hinV hfrV hrowV hKsV hbV rk
            generalize V.drewN nq = V2 at *
            by_cases htu : turn = 0
            · have hmu : Cab.cut f ((mo : Nat) : Int) turn = ⟨f.all.take (f.sure + mo), (f.sure + mo)⟩ := by unfold Cab.cut; simp [htu]
              have htu2 : ¬ ¬ ((turn.toNat : Int) = 0) := by rw [htu]; decide
              clear htu
              have hcut := Bytes.upto hbW (f.sure + mo) hmo2
              have rf0 := rowfree hinW.files (n * 2)
              have rf1 := rowfree hinW.files (n * 2 + 1)
              have HMU := Lib.hid hmu
              have HIN := Lib.hid hinW
              clear hmu hinW
              go_wp2_with (go_at_call 47; refine (clip_calls _ _ _ hcut).mono ?_; rintro e V3 ⟨v3, rfl, hb3, ho3, rfl⟩; obtain ⟨A3, c3, hv3, _, _⟩ := hb3.shape; rw [List.length_take, Nat.min_eq_left hmo2] at hv3; subst hv3)
              have hCF := crashFiles_step NF keep turn NF.keys j name n HK.out HG.out c.files f HFC.out
              rw [HMO.out, HMU.out] at hCF
              have HR := crash_round (n := n) (v := .slice AV f.all.length cV) (v' := .slice A3 (f.sure + mo) c3) (f' := ⟨f.all.take (f.sure + mo), (f.sure + mo)⟩) HIN.out (HCl.out j) HV.out hb3 (ho3.trans (by cases AV <;> rfl)) (Fr.refl _ _) hsub HD.out hfrW hrowW hKsW HKD.out
              have hCF2 : CF (j + 1) = (CF j).set n ⟨f.all.take (f.sure + mo), (f.sure + mo)⟩ := by rw [HCF.out]; exact hCF
              rw [← hCF2] at HR
              obtain ⟨r1, r2, r3, r4, r5⟩ := HR
              exact ⟨⟨j + 1, _, by omega, by go_num, r1, r2, r3, r4, r5⟩, by simp [RowKit.intOf]; omega⟩
            · have htu2 : ¬ ((turn.toNat : Int) = 0) := by
                intro e
                apply htu
                apply UInt8.toNat_inj.1
                have : turn.toNat = 0 := by omega
                simpa using this
              by_cases hel : (f.sure + mo) < f.all.length
              · have hel2 : ((f.sure : Int) + (mo : Int)) < (f.all.length : Int) := by omega
                obtain ⟨gv, cv2, hvv, _, _, hcv, hfz, _⟩ := hbW.form (by omega)
                obtain ⟨rfl, rfl⟩ : AV = some ⟨gv, 0, none⟩ ∧ cV = cv2 := by simpa using hvv
                obtain ⟨b, hbb⟩ : ∃ b, f.all[(f.sure + mo)]? = some b := ⟨_, List.getElem?_eq_getElem hel⟩
                have rb : V2.cell? ⟨gv, (f.sure + mo), none⟩ = some (.int .u8 b.toNat) := hcv (f.sure + mo) _ (by unfold bytesV; rw [List.getElem?_map, hbb]; rfl)
                have rbf := hfz ((f.sure + mo))
                have hmu : Cab.cut f ((mo : Nat) : Int) turn = ⟨f.all.take (f.sure + mo) ++ [b ^^^ turn], (f.sure + mo) + 1⟩ := by
                  unfold Cab.cut
                  have hnt : turn ≠ 0 ∧ f.sure + (((mo : Nat) : Int)).toNat < f.all.length := ⟨htu, by simpa using hel⟩
                  simp only []
                  rw [if_pos hnt]
                  have e1 : f.sure + (((mo : Nat) : Int)).toNat = (f.sure + mo) := by simp
                  rw [e1, List.getD_eq_getElem?_getD, hbb]
                  rfl
                have hX := xor_bv b turn
                have hcut := Bytes.upto (Bytes.turn hbW (f.sure + mo) (b ^^^ turn)) ((f.sure + mo) + 1) (by rw [List.length_set]; omega)
                rw [← hX, take_turned _ _ _ hel] at hcut
                have hcl : (f.all.take (f.sure + mo) ++ [b ^^^ turn]).length = (f.sure + mo) + 1 := by rw [List.length_append, List.length_take, Nat.min_eq_left (by omega)]; rfl
                have hgg : gv ≠ g := fun e => hbW.ne_row hinW.files (by decide) (k := gv) rfl (by rw [e]; rfl)
                have c0t : (V2.setCell ⟨gv, (f.sure + mo), none⟩ (.int .u8 (bits BinOp.xor IntKind.u8 (b.toNat : Int) (turn.toNat : Int)))).cell? ⟨g, n * 2, none⟩ = some (.slice (some ⟨gv, 0, none⟩) f.all.length cV) := by
                  rw [World.cell?_setCell_other V2 _ _ _ (fun e => by injection e with e; exact hgg e)]
                  exact c0
                have c1t : (V2.setCell ⟨gv, (f.sure + mo), none⟩ (.int .u8 (bits BinOp.xor IntKind.u8 (b.toNat : Int) (turn.toNat : Int)))).cell? ⟨g, n * 2 + 1, none⟩ = some (.int .i64 f.sure) := by
                  rw [World.cell?_setCell_other V2 _ _ _ (fun e => by injection e with e; exact hgg e)]
                  exact c1
                have rf0 := rowfree hinW.files (n * 2)
                have rf1 := rowfree hinW.files (n * 2 + 1)
                have HIN := Lib.hid hinW
                have HBB := Lib.hid hbb
                have HFZ := Lib.hid hfz
                have HMU := Lib.hid hmu
                have HCL := Lib.hid hcl
                have HXX := Lib.hid hX
                have F3 : Fr (fun k => (Value.slice (some ⟨gv, 0, none⟩) f.all.length cV).ownBlock = some k) V2 (V2.setCell ⟨gv, (f.sure + mo), none⟩ (.int .u8 (bits BinOp.xor IntKind.u8 (b.toNat : Int) (turn.toNat : Int)))) := (Fr.refl (fun k => (Value.slice (some ⟨gv, 0, none⟩) f.all.length cV).ownBlock = some k) V2).setCell (p := ⟨gv, (f.sure + mo), none⟩) (.inl rfl) _
                clear hinW hvv hcv hbb hfz hmu hX hcl hgg
                go_wp2_with (go_at_call 47; refine (clip_calls _ _ _ hcut).mono ?_; rintro e V3 ⟨v3, rfl, hb3, ho3, rfl⟩; obtain ⟨A3, c3, hv3, _, _⟩ := hb3.shape; rw [HCL.out] at hv3; subst hv3)
                have hCF := crashFiles_step NF keep turn NF.keys j name n HK.out HG.out c.files f HFC.out
                rw [HMO.out, HMU.out] at hCF
                have HR := crash_round (n := n) (v := .slice (some ⟨gv, 0, none⟩) f.all.length cV) (v' := .slice A3 ((f.sure + mo) + 1) c3) (f' := ⟨f.all.take (f.sure + mo) ++ [b ^^^ turn], (f.sure + mo) + 1⟩) HIN.out (HCl.out j) HV.out hb3 ho3 F3 hsub HD.out hfrW hrowW hKsW HKD.out
                have hCF2 : CF (j + 1) = (CF j).set n ⟨f.all.take (f.sure + mo) ++ [b ^^^ turn], (f.sure + mo) + 1⟩ := by rw [HCF.out]; exact hCF
                rw [← hCF2] at HR
                obtain ⟨r1, r2, r3, r4, r5⟩ := HR
                exact ⟨⟨j + 1, _, by omega, by go_num, r1, r2, r3, r4, r5⟩, by simp [RowKit.intOf]; omega⟩
              · have hel2 : ¬ ((f.sure : Int) + (mo : Int)) < (f.all.length : Int) := by omega
                have hmu : Cab.cut f ((mo : Nat) : Int) turn = ⟨f.all.take (f.sure + mo), (f.sure + mo)⟩ := by unfold Cab.cut; simp [hel]
                have hcut := Bytes.upto hbW (f.sure + mo) hmo2
                have rf0 := rowfree hinW.files (n * 2)
                have rf1 := rowfree hinW.files (n * 2 + 1)
                have HMU := Lib.hid hmu
                have HIN := Lib.hid hinW
                clear hmu hinW
                go_wp2_with (go_at_call 47; refine (clip_calls _ _ _ hcut).mono ?_; rintro e V3 ⟨v3, rfl, hb3, ho3, rfl⟩; obtain ⟨A3, c3, hv3, _, _⟩ := hb3.shape; rw [List.length_take, Nat.min_eq_left hmo2] at hv3; subst hv3)
                have hCF := crashFiles_step NF keep turn NF.keys j name n HK.out HG.out c.files f HFC.out
                rw [HMO.out, HMU.out] at hCF
                have HR := crash_round (n := n) (v := .slice AV f.all.length cV) (v' := .slice A3 (f.sure + mo) c3) (f' := ⟨f.all.take (f.sure + mo), (f.sure + mo)⟩) HIN.out (HCl.out j) HV.out hb3 (ho3.trans (by cases AV <;> rfl)) (Fr.refl _ _) hsub HD.out hfrW hrowW hKsW HKD.out
                have hCF2 : CF (j + 1) = (CF j).set n ⟨f.all.take (f.sure + mo), (f.sure + mo)⟩ := by rw [HCF.out]; exact hCF
                rw [← hCF2] at HR
                obtain ⟨r1, r2, r3, r4, r5⟩ := HR
                exact ⟨⟨j + 1, _, by omega, by go_num, r1, r2, r3, r4, r5⟩, by simp [RowKit.intOf]; omega⟩
          · have HMO : (if j < keep.length then Cab.part (keep.getD j 0) ((f.all.length : Int) - (f.sure : Int)) else 0) = ((0 : Nat) : Int) := by
              rw [if_neg hkk]
              rfl
            have HMO := Lib.hid HMO
            go_wp2_with fail
            go_quiet (fail)
            have hinW := hin.fr ((Fr.refl (fun _ => False) wr).drewN nq) fun _ _ => id
            have hfrW : Fr D w2 (wr.drewN nq) := hfr2.drewN nq
            have hrowW := hrow.drewN nq
            have hKsW := hKs.drewN nq
            have hbW := hb.drewN nq
            replace c0 : (wr.drewN nq).cell? _ = _ := c0
            replace c1 : (wr.drewN nq).cell? _ = _ := c1
            clear hin hfr2 hrow hKs hb b1 b2 hlook hname
            generalize wr.drewN nq = V2 at *
            by_cases htu : turn = 0
            · have hmu : Cab.cut f ((0 : Nat) : Int) turn = ⟨f.all.take (f.sure), (f.sure)⟩ := by unfold Cab.cut; simp [htu]
              have htu2 : ¬ ¬ ((turn.toNat : Int) = 0) := by rw [htu]; decide
              clear htu
              have hcut := Bytes.upto hbW (f.sure) hf2
              have rf0 := rowfree hinW.files (n * 2)
              have rf1 := rowfree hinW.files (n * 2 + 1)
              have HMU := Lib.hid hmu
              have HIN := Lib.hid hinW
              clear hmu hinW
              go_wp2_with (go_at_call 47; refine (clip_calls _ _ _ hcut).mono ?_; rintro e V3 ⟨v3, rfl, hb3, ho3, rfl⟩; obtain ⟨A3, c3, hv3, _, _⟩ := hb3.shape; rw [List.length_take, Nat.min_eq_left hf2] at hv3; subst hv3)
              have hCF := crashFiles_step NF keep turn NF.keys j name n HK.out HG.out c.files f HFC.out
              rw [HMO.out, HMU.out] at hCF
              have HR := crash_round (n := n) (v := .slice AV f.all.length cV) (v' := .slice A3 (f.sure) c3) (f' := ⟨f.all.take (f.sure), (f.sure)⟩) HIN.out (HCl.out j) HV.out hb3 (ho3.trans (by cases AV <;> rfl)) (Fr.refl _ _) hsub HD.out hfrW hrowW hKsW HKD.out
              have hCF2 : CF (j + 1) = (CF j).set n ⟨f.all.take (f.sure), (f.sure)⟩ := by rw [HCF.out]; exact hCF
              rw [← hCF2] at HR
              obtain ⟨r1, r2, r3, r4, r5⟩ := HR
              exact ⟨⟨j + 1, _, by omega, by go_num, r1, r2, r3, r4, r5⟩, by simp [RowKit.intOf]; omega⟩
            · have htu2 : ¬ ((turn.toNat : Int) = 0) := by
                intro e
                apply htu
                apply UInt8.toNat_inj.1
                have : turn.toNat = 0 := by omega
                simpa using this
              by_cases hel : (f.sure) < f.all.length
              · have hel2 : (f.sure : Int) < (f.all.length : Int) := by omega
                obtain ⟨gv, cv2, hvv, _, _, hcv, hfz, _⟩ := hbW.form (by omega)
                obtain ⟨rfl, rfl⟩ : AV = some ⟨gv, 0, none⟩ ∧ cV = cv2 := by simpa using hvv
                obtain ⟨b, hbb⟩ : ∃ b, f.all[(f.sure)]? = some b := ⟨_, List.getElem?_eq_getElem hel⟩
                have rb : V2.cell? ⟨gv, (f.sure), none⟩ = some (.int .u8 b.toNat) := hcv (f.sure) _ (by unfold bytesV; rw [List.getElem?_map, hbb]; rfl)
                have rbf := hfz ((f.sure))
                have hmu : Cab.cut f ((0 : Nat) : Int) turn = ⟨f.all.take (f.sure) ++ [b ^^^ turn], (f.sure) + 1⟩ := by
                  unfold Cab.cut
                  have hnt : turn ≠ 0 ∧ f.sure + (((0 : Nat) : Int)).toNat < f.all.length := ⟨htu, by simpa using hel⟩
                  simp only []
                  rw [if_pos hnt]
                  have e1 : f.sure + (((0 : Nat) : Int)).toNat = (f.sure) := by simp
                  rw [e1, List.getD_eq_getElem?_getD, hbb]
                  rfl
                have hX := xor_bv b turn
                have hcut := Bytes.upto (Bytes.turn hbW (f.sure) (b ^^^ turn)) ((f.sure) + 1) (by rw [List.length_set]; omega)
                rw [← hX, take_turned _ _ _ hel] at hcut
                have hcl : (f.all.take (f.sure) ++ [b ^^^ turn]).length = (f.sure) + 1 := by rw [List.length_append, List.length_take, Nat.min_eq_left (by omega)]; rfl
                have hgg : gv ≠ g := fun e => hbW.ne_row hinW.files (by decide) (k := gv) rfl (by rw [e]; rfl)
                have c0t : (V2.setCell ⟨gv, (f.sure), none⟩ (.int .u8 (bits BinOp.xor IntKind.u8 (b.toNat : Int) (turn.toNat : Int)))).cell? ⟨g, n * 2, none⟩ = some (.slice (some ⟨gv, 0, none⟩) f.all.length cV) := by
                  rw [World.cell?_setCell_other V2 _ _ _ (fun e => by injection e with e; exact hgg e)]
                  exact c0
                have c1t : (V2.setCell ⟨gv, (f.sure), none⟩ (.int .u8 (bits BinOp.xor IntKind.u8 (b.toNat : Int) (turn.toNat : Int)))).cell? ⟨g, n * 2 + 1, none⟩ = some (.int .i64 f.sure) := by
                  rw [World.cell?_setCell_other V2 _ _ _ (fun e => by injection e with e; exact hgg e)]
                  exact c1
                have rf0 := rowfree hinW.files (n * 2)
                have rf1 := rowfree hinW.files (n * 2 + 1)
                have HIN := Lib.hid hinW
                have HBB := Lib.hid hbb
                have HFZ := Lib.hid hfz
                have HMU := Lib.hid hmu
                have HCL := Lib.hid hcl
                have HXX := Lib.hid hX
                have F3 : Fr (fun k => (Value.slice (some ⟨gv, 0, none⟩) f.all.length cV).ownBlock = some k) V2 (V2.setCell ⟨gv, (f.sure), none⟩ (.int .u8 (bits BinOp.xor IntKind.u8 (b.toNat : Int) (turn.toNat : Int)))) := (Fr.refl (fun k => (Value.slice (some ⟨gv, 0, none⟩) f.all.length cV).ownBlock = some k) V2).setCell (p := ⟨gv, (f.sure), none⟩) (.inl rfl) _
                clear hinW hvv hcv hbb hfz hmu hX hcl hgg
                go_wp2_with (go_at_call 47; refine (clip_calls _ _ _ hcut).mono ?_; rintro e V3 ⟨v3, rfl, hb3, ho3, rfl⟩; obtain ⟨A3, c3, hv3, _, _⟩ := hb3.shape; rw [HCL.out] at hv3; subst hv3)
                have hCF := crashFiles_step NF keep turn NF.keys j name n HK.out HG.out c.files f HFC.out
                rw [HMO.out, HMU.out] at hCF
                have HR := crash_round (n := n) (v := .slice (some ⟨gv, 0, none⟩) f.all.length cV) (v' := .slice A3 ((f.sure) + 1) c3) (f' := ⟨f.all.take (f.sure) ++ [b ^^^ turn], (f.sure) + 1⟩) HIN.out (HCl.out j) HV.out hb3 ho3 F3 hsub HD.out hfrW hrowW hKsW HKD.out
                have hCF2 : CF (j + 1) = (CF j).set n ⟨f.all.take (f.sure) ++ [b ^^^ turn], (f.sure) + 1⟩ := by rw [HCF.out]; exact hCF
                rw [← hCF2] at HR
                obtain ⟨r1, r2, r3, r4, r5⟩ := HR
                exact ⟨⟨j + 1, _, by omega, by go_num, r1, r2, r3, r4, r5⟩, by simp [RowKit.intOf]; omega⟩
              · have hel2 : ¬ (f.sure : Int) < (f.all.length : Int) := by omega
                have hmu : Cab.cut f ((0 : Nat) : Int) turn = ⟨f.all.take (f.sure), (f.sure)⟩ := by unfold Cab.cut; simp [hel]
                have hcut := Bytes.upto hbW (f.sure) hf2
                have rf0 := rowfree hinW.files (n * 2)
                have rf1 := rowfree hinW.files (n * 2 + 1)
                have HMU := Lib.hid hmu
                have HIN := Lib.hid hinW
                clear hmu hinW
                go_wp2_with (go_at_call 47; refine (clip_calls _ _ _ hcut).mono ?_; rintro e V3 ⟨v3, rfl, hb3, ho3, rfl⟩; obtain ⟨A3, c3, hv3, _, _⟩ := hb3.shape; rw [List.length_take, Nat.min_eq_left hf2] at hv3; subst hv3)
                have hCF := crashFiles_step NF keep turn NF.keys j name n HK.out HG.out c.files f HFC.out
                rw [HMO.out, HMU.out] at hCF
                have HR := crash_round (n := n) (v := .slice AV f.all.length cV) (v' := .slice A3 (f.sure) c3) (f' := ⟨f.all.take (f.sure), (f.sure)⟩) HIN.out (HCl.out j) HV.out hb3 (ho3.trans (by cases AV <;> rfl)) (Fr.refl _ _) hsub HD.out hfrW hrowW hKsW HKD.out
                have hCF2 : CF (j + 1) = (CF j).set n ⟨f.all.take (f.sure), (f.sure)⟩ := by rw [HCF.out]; exact hCF
                rw [← hCF2] at HR
                obtain ⟨r1, r2, r3, r4, r5⟩ := HR
                exact ⟨⟨j + 1, _, by omega, by go_num, r1, r2, r3, r4, r5⟩, by simp [RowKit.intOf]; omega⟩
        · obtain rfl : j = NF.keys.length := by omega
          have hst := settle_calls (w := wr) (p := p) (c := { c with now := NF, files := CF NF.keys.length }) (D := CabOwn p (.slice A c.files.length cp) avs' S sb (.slice AW c.waiting.length cW)) ⟨_, _, _, _, _, hin, fun _ h => h, hin.lt⟩ (by have h1 := OK.out.files; have h2 := HCl.out NF.keys.length; simp only; omega)
          have HST := Lib.hid hst
          have HIN := Lib.hid hin
          clear hst hin
          go_wp2_with (go_at_call 48; refine HST.out.mono ?_; rintro e w5 ⟨rfl, D5, hA5⟩; obtain ⟨fv5, avs5, nb5, sb5, wv5, hi5, hD5, hlt5⟩ := id hA5.at_; have q5 : w5.cell? ⟨p, 5, none⟩ = some (.int .i64 c.after) := hi5.blk.cell 5; have q6 : w5.cell? ⟨p, 6, none⟩ = some (.bool c.off) := hi5.blk.cell 6; have q7 := hi5.blk.frozen 5; have q8 := hi5.blk.frozen 6)
          go_end0
          refine ⟨rfl, D5, ?_⟩
          have hE := (hi5.after (-1)).setOff false
          have hcr : { ({ c with now := NF, files := CF NF.keys.length } : Cab).settle with after := -1, off := false } = c.crash names keep turn := by
            unfold Cab.crash
            simp only []
            rw [HKN.out, Int.toNat_natCast, ← HNF.out]
            have e : CF NF.keys.length = Cab.crashFiles NF keep turn NF.keys 0 c.files := by
              rw [HCF.out]
              simp only []
              rw [List.take_length]
            rw [e]
          rw [← hcr]
          have FE : Fr (fun k => k = p) w5 ((w5.setCell ⟨p, 5, none⟩ (.int .i64 (-1))).setCell ⟨p, 6, none⟩ (.bool false)) := ((Fr.refl (fun k => k = p) w5).setCell (p := ⟨p, 5, none⟩) (.inl rfl) _).setCell (p := ⟨p, 6, none⟩) (.inl rfl) _
          have hown5 : ∀ k, CabOwn p (.slice A c.files.length cp) avs' S sb (.slice AW c.waiting.length cW) k → D k ∨ w.heap.size ≤ k := by
            rintro k (rfl | hk | ⟨v, hv, hk⟩ | rfl | rfl | hk)
            · exact .inl (HD.out _ (.inl rfl))
            · exact .inl (HD.out _ (.inr (.inl hk)))
            · obtain ⟨u, hu, huk⟩ := hsub v hv _ hk
              exact .inl (HD.out _ (.inr (.inr (.inl ⟨u, hu, huk⟩))))
            · exact .inr (Nat.le_of_eq HS.out.symm)
            · exact .inl (HD.out _ (.inr (.inr (.inr (.inr (.inl rfl))))))
            · exact .inl (HD.out _ (.inr (.inr (.inr (.inr (.inr hk))))))
          have hsz := FT.size
          have hsz2 := hfr2.size
          have hp5 : D5 p := hD5 _ (.inl rfl)
          have hnew5 : ∀ k, D5 k → D k ∨ w.heap.size ≤ k := fun k hk => by
            rcases hA5.new k hk with h | h
            · exact hown5 k h
            · exact .inr (by omega)
          refine ⟨⟨_, _, _, _, _, hE, hD5, fun k hk => Nat.lt_of_lt_of_le (hlt5 k hk) FE.size⟩, ?_, hnew5⟩
          exact ((FT.trans hfr2 fun _ h => .inl h).trans hA5.fr hown5).trans FE fun k hk => by subst hk; exact hnew5 _ hp5
end
end Chart

/- No cabinet: each call answers so. -/
namespace Chart
open Go Go.RowKit Go.Proofs

set_option maxHeartbeats 400000 in
theorem create_nil (s : ByteArray) (w : World) : Calls Tryd.prog 19 #[.pointer none, .string s] w fun e w' => e = .returned (.int .i64 1) ∧ w = w' := by
  go_enter Tryd.func19, Tryd.ntmps19
  go_wp2_with (go_at_call 51; refine (ready_nil _).mono ?_; rintro e w' ⟨rfl, rfl⟩)
  go_ret
  exact ⟨rfl, rfl⟩
set_option maxHeartbeats 400000 in
theorem append_nil (s : ByteArray) (v : Value) (w : World) : Calls Tryd.prog 20 #[.pointer none, .string s, v] w fun e w' => e = .returned (.int .i64 1) ∧ w = w' := by
  go_enter Tryd.func20, Tryd.ntmps20
  go_wp2_with (go_at_call 49; refine (find_nil _ _).mono ?_; rintro e w' ⟨rfl, rfl⟩)
  go_ret
  exact ⟨rfl, rfl⟩
set_option maxHeartbeats 400000 in
theorem sync_nil (s : ByteArray) (w : World) : Calls Tryd.prog 21 #[.pointer none, .string s] w fun e w' => e = .returned (.int .i64 1) ∧ w = w' := by
  go_enter Tryd.func21, Tryd.ntmps21
  go_wp2_with (go_at_call 49; refine (find_nil _ _).mono ?_; rintro e w' ⟨rfl, rfl⟩)
  go_ret
  exact ⟨rfl, rfl⟩
set_option maxHeartbeats 400000 in
theorem rename_nil (s t : ByteArray) (w : World) : Calls Tryd.prog 22 #[.pointer none, .string s, .string t] w fun e w' => e = .returned (.int .i64 1) ∧ w = w' := by
  go_enter Tryd.func22, Tryd.ntmps22
  go_wp2_with (go_at_call 49; refine (find_nil _ _).mono ?_; rintro e w' ⟨rfl, rfl⟩)
  go_ret
  exact ⟨rfl, rfl⟩
set_option maxHeartbeats 400000 in
theorem remove_nil (s : ByteArray) (w : World) : Calls Tryd.prog 23 #[.pointer none, .string s] w fun e w' => e = .returned (.int .i64 1) ∧ w = w' := by
  go_enter Tryd.func23, Tryd.ntmps23
  go_wp2_with (go_at_call 49; refine (find_nil _ _).mono ?_; rintro e w' ⟨rfl, rfl⟩)
  go_ret
  exact ⟨rfl, rfl⟩
set_option maxHeartbeats 400000 in
theorem turn_nil  (w : World) : Calls Tryd.prog 24 #[.pointer none] w fun e w' => e = .returned (.int .i64 1) ∧ w = w' := by
  go_enter Tryd.func24, Tryd.ntmps24
  go_wp2_with (go_at_call 51; refine (ready_nil _).mono ?_; rintro e w' ⟨rfl, rfl⟩)
  go_ret
  exact ⟨rfl, rfl⟩
set_option maxHeartbeats 400000 in
theorem read_nil (s : ByteArray) (w : World) : Calls Tryd.prog 16 #[.pointer none, .string s] w fun e w' => e = .returned (.tuple #[.slice none 0 0, .int .i64 1]) ∧ w = w' := by
  go_enter Tryd.func16, Tryd.ntmps16
  go_wp2_with (go_at_call 49; refine (find_nil _ _).mono ?_; rintro e w' ⟨rfl, rfl⟩)
  go_ret2
  exact ⟨rfl, rfl⟩
set_option maxHeartbeats 400000 in
theorem names_nil  (w : World) : Calls Tryd.prog 17 #[.pointer none] w fun e w' => e = .returned (.tuple #[.slice none 0 0, .int .i64 1]) ∧ w = w' := by
  go_enter Tryd.func17, Tryd.ntmps17
  go_wp2_with (go_at_call 51; refine (ready_nil _).mono ?_; rintro e w' ⟨rfl, rfl⟩)
  go_ret2
  exact ⟨rfl, rfl⟩
set_option maxRecDepth 100000 in
set_option maxHeartbeats 1000000 in
theorem crash_nil (n : Value) (k : Value) (t : Value) (w : World) : Calls Tryd.prog 15 #[.pointer none, n, k, t] w fun e w' => e = .returned (.tuple #[]) ∧ w = w' := by
  go_enter Tryd.func15, Tryd.ntmps15
  go_wp2
  refine bodyPost_ret (results_none rfl _ _ _) rfl ?_
  exact ⟨rfl, rfl⟩
end Chart

/- bits.Put at the sizes that occur. -/
namespace Chart
open Go Go.RowKit Go.Proofs

def putCells (sz n k : Nat) : Array Value := ((List.range sz).map fun i => if i < k then bv (UInt8.ofNat (n / 256 ^ (sz - 1 - i) % 256)) else Value.int .u8 0).toArray
theorem made_u8 (n : Nat) : madeCells (Value.int IntKind.u8 0).cells n = ((List.range n).map fun _ => Value.int IntKind.u8 0).toArray := by
  apply Array.ext
  · simp [madeCells]
  · intro i h1 h2
    simp [madeCells, Value.cells, Nat.mod_one]
theorem putCells_get (sz n k : Nat) (h : k < sz) : (putCells sz n k)[k]? = some (.int .u8 0) := by
  simp [putCells, h]
theorem putCells_set (sz n k : Nat) (h : k < sz) : (putCells sz n k).setIfInBounds k (bv (UInt8.ofNat (n / 256 ^ (sz - 1 - k) % 256))) = putCells sz n (k + 1) := by
  unfold putCells
  apply Array.ext_getElem?
  intro i
  rw [Array.getElem?_setIfInBounds]
  simp only [List.size_toArray, List.length_map, List.length_range, List.getElem?_toArray, List.getElem?_map]
  by_cases hik : k = i
  · subst hik
    rw [if_pos rfl, if_pos h, List.getElem?_range h]
    simp
  · rw [if_neg hik]
    by_cases hi : i < sz
    · rw [List.getElem?_range hi]
      simp only [Option.map_some]
      congr 1
      by_cases hlt : i < k
      · rw [if_pos hlt, if_pos (by omega)]
      · rw [if_neg hlt, if_neg (by omega)]
    · rw [List.getElem?_eq_none (by simp; omega)]
      rfl
theorem be_range (k n : Nat) : be k n = (List.range k).map fun i => UInt8.ofNat (n / 256 ^ (k - 1 - i) % 256) := by
  induction k with
  | zero => rfl
  | succ k ih =>
    rw [be, ih, List.range_succ_eq_map, List.map_cons, List.map_map]
    congr 1
    refine List.map_congr_left fun i _ => ?_
    simp only [Function.comp]
    congr 4
    omega
theorem putCells_all (sz n : Nat) : (putCells sz n sz).toList = bytesV (be sz n) := by
  unfold putCells bytesV
  rw [be_range, List.map_map]
  refine List.map_congr_left fun i hi => ?_
  rw [List.mem_range] at hi
  rw [if_pos hi]
  rfl
set_option maxRecDepth 100000 in
set_option maxHeartbeats 1000000 in
theorem put8_calls (n : Nat) (w : World) (hn : n < 256 ^ 8) :
    Calls Tryd.prog 83 #[.int .u64 n, .int .i64 8] w fun e w' => ∃ v, e = .returned (.tuple #[v, .int .i64 0]) ∧ Bytes w' v (be 8 n) ∧ (∀ q, v.ownBlock = some q → w.heap.size ≤ q) ∧ Fr (fun _ => False) w w' := by
  have hn2 : n < 18446744073709551616 := hn
  obtain ⟨i0, hi0, hz0, hz1, hz2⟩ := info_parts u8_info
  have hmk : (Instr.makeSlice 35 (.int .i64 8) (.int .i64 8)).run Tryd.prog w = .ok (.slice (some ⟨w.heap.size, 0, none⟩) 8 8) (w.alloc (.cells (putCells 8 n 0) 5)) := by
    have := run_makeSlice (P := Tryd.prog) (w := w) 35 5 i0 (.int .u8 0) Tryd.underlying35 hi0 hz0 .i64 .i64 8 8 (by decide) (by decide) (by rw [hz1]; decide) (by rw [hz2]; decide) (by decide)
    rw [hz1, show madeCells (Value.int IntKind.u8 0).cells (Int.toNat 8 * 1) = putCells 8 n 0 from by rw [made_u8]; simp [putCells]] at this
    exact this
  go_enter Tryd.func83, Tryd.ntmps83
  go_wp2
  go_loopw [28] (fun i wr => ∃ k : Nat, k ≤ 8 ∧ i = .int .i64 k ∧ wr = w.alloc (.cells (putCells 8 n k) 5)) (fun i _ => 8 - (RowKit.intOf i).toNat)
  case atStart => exact ⟨0, Nat.zero_le _, rfl, rfl⟩
  case round =>
    obtain ⟨k, hk, rfl, rfl⟩ := hrel
    by_cases hlt : k < 8
    · have hb : ((n : Int) / 2 ^ (8 * (7 - k))) % 256 = ((n / 256 ^ (7 - k) % 256 : Nat) : Int) := by
        rw [show (2 : Int) ^ (8 * (7 - k)) = ((2 ^ (8 * (7 - k)) : Nat) : Int) by norm_cast, Nat.pow_mul]
        norm_cast
      have hs := putCells_set 8 n k hlt
      have hc := putCells_get 8 n k hlt
      have hd : n / 256 ^ (7 - k) % 256 < 256 := Nat.mod_lt _ (by decide)
      simp only [show 8 - 1 - k = 7 - k by omega] at hs
      generalize n / 256 ^ (7 - k) % 256 = d at *
      have HS := Lib.hid hs
      clear hs
      go_wp2
      refine ⟨⟨k + 1, by omega, by go_num, ?_⟩, by simp [RowKit.intOf]; omega⟩
      rw [← HS.out]
      simp only [bv, UInt8.toNat_ofNat']
      rw [Nat.mod_eq_of_lt hd]
    · obtain rfl : k = 8 := by omega
      go_wp2
      go_ret2
      refine ⟨_, rfl, ?_, fun q hq => by simp [Value.ownBlock] at hq; omega, (Fr.refl _ _).alloc _⟩
      have := Row.made w 5 1 8 (putCells 8 n 8) (by simp [putCells]) (by decide)
      rw [putCells_all] at this
      unfold Bytes
      rw [be_length]
      exact this
set_option maxRecDepth 100000 in
set_option maxHeartbeats 1000000 in
theorem put4_calls (n : Nat) (w : World) (hn : n < 256 ^ 4) :
    Calls Tryd.prog 83 #[.int .u64 n, .int .i64 4] w fun e w' => ∃ v, e = .returned (.tuple #[v, .int .i64 0]) ∧ Bytes w' v (be 4 n) ∧ (∀ q, v.ownBlock = some q → w.heap.size ≤ q) ∧ Fr (fun _ => False) w w' := by
  have hn2 : n < 4294967296 := hn
  have hz : (n : Int) / 4294967296 = 0 := Int.ediv_eq_zero_of_lt (by omega) (by omega)
  obtain ⟨i0, hi0, hz0, hz1, hz2⟩ := info_parts u8_info
  have hmk : (Instr.makeSlice 35 (.int .i64 4) (.int .i64 4)).run Tryd.prog w = .ok (.slice (some ⟨w.heap.size, 0, none⟩) 4 4) (w.alloc (.cells (putCells 4 n 0) 5)) := by
    have := run_makeSlice (P := Tryd.prog) (w := w) 35 5 i0 (.int .u8 0) Tryd.underlying35 hi0 hz0 .i64 .i64 4 4 (by decide) (by decide) (by rw [hz1]; decide) (by rw [hz2]; decide) (by decide)
    rw [hz1, show madeCells (Value.int IntKind.u8 0).cells (Int.toNat 4 * 1) = putCells 4 n 0 from by rw [made_u8]; simp [putCells]] at this
    exact this
  go_enter Tryd.func83, Tryd.ntmps83
  go_wp2
  go_loopw [28] (fun i wr => ∃ k : Nat, k ≤ 4 ∧ i = .int .i64 k ∧ wr = w.alloc (.cells (putCells 4 n k) 5)) (fun i _ => 4 - (RowKit.intOf i).toNat)
  case atStart => exact ⟨0, Nat.zero_le _, rfl, rfl⟩
  case round =>
    obtain ⟨k, hk, rfl, rfl⟩ := hrel
    by_cases hlt : k < 4
    · have hb : ((n : Int) / 2 ^ (8 * (3 - k))) % 256 = ((n / 256 ^ (3 - k) % 256 : Nat) : Int) := by
        rw [show (2 : Int) ^ (8 * (3 - k)) = ((2 ^ (8 * (3 - k)) : Nat) : Int) by norm_cast, Nat.pow_mul]
        norm_cast
      have hs := putCells_set 4 n k hlt
      have hc := putCells_get 4 n k hlt
      have hd : n / 256 ^ (3 - k) % 256 < 256 := Nat.mod_lt _ (by decide)
      simp only [show 4 - 1 - k = 3 - k by omega] at hs
      generalize n / 256 ^ (3 - k) % 256 = d at *
      have HS := Lib.hid hs
      clear hs
      go_wp2
      refine ⟨⟨k + 1, by omega, by go_num, ?_⟩, by simp [RowKit.intOf]; omega⟩
      rw [← HS.out]
      simp only [bv, UInt8.toNat_ofNat']
      rw [Nat.mod_eq_of_lt hd]
    · obtain rfl : k = 4 := by omega
      go_wp2
      go_ret2
      refine ⟨_, rfl, ?_, fun q hq => by simp [Value.ownBlock] at hq; omega, (Fr.refl _ _).alloc _⟩
      have := Row.made w 5 1 4 (putCells 4 n 4) (by simp [putCells]) (by decide)
      rw [putCells_all] at this
      unfold Bytes
      rw [be_length]
      exact this
end Chart

/- More of append: onto a slice that is only read and is full; zeros onto nothing; a slice's head. Plain theorems, of whatever program. (run_append_zeros_nil is turned from what the kit's print writes for zeros.) -/
namespace Chart
open Go Go.RowKit

section
variable {w w' : World} {e : TypeId} {size n : Nat} {v : Value} {xs : List Value}
/-- The first places of a row. -/
theorem Row.take {g c : Nat} (h : Row w e size (.slice (some ⟨g, 0, none⟩) n c) n xs) (k : Nat) (hk : k ≤ n) : Row w e size (.slice (some ⟨g, 0, none⟩) k c) k (xs.take (k * size)) := by
  obtain ⟨h1, h2⟩ := h
  rcases h2 with ⟨hv, _⟩ | ⟨g', cap, cur, hv, hg, h3, h4, h5, h6⟩
  · cases hv
  · injection hv with e1 e2 e3
    injection e1 with e1
    injection e1 with e1
    subst e1 e3
    have hle : k * size ≤ n * size := Nat.mul_le_mul_right _ hk
    refine ⟨by rw [List.length_take, h1]; omega, .inr ⟨g, c, cur, rfl, hg, by omega, h4, h5, ?_⟩⟩
    rw [← h6, List.take_take, Nat.min_eq_left hle]
theorem Row.head (h : Row w e size v n xs) : ∃ A c, v = .slice A n c ∧ Row w e size (.slice A 0 c) 0 [] := by
  rcases h.2 with ⟨rfl, rfl⟩ | ⟨g, cap, cur, rfl, hg, h3, h4, h5, h6⟩
  · exact ⟨none, 0, rfl, Row.nil w e size⟩
  · refine ⟨_, cap, rfl, ?_⟩
    have := Row.take h 0 (Nat.zero_le _)
    simpa using this
end

section
variable {P : Program} (w : World)
/-- append onto a slice without room. -/
theorem run_append_full (t ty e : TypeId) (i : TypeInfo) (z : Value) (size bytes : Nat) (ht : P.underlying t = some (.slice e)) (hi : P.info? e = some i) (hz : i.zero = some z)
    (hsize : i.size = size) (hby : i.bytes = bytes) (hzs : z.cells.size = size) (hsz : 0 < size)
    (b : Addr) (n cap : Nat) (olds : List Value) (ho : Src w size (.slice (some b) n cap) n olds) (s : Value) (m : Nat) (news : List Value) (hs : Src w size s m news) (hg : cap < n + m) (h63 : n + m ≤ maxLen) (hbytes : (n + m) * bytes ≤ 140737488355328) :
    ∃ v' w', (Builtin.append_ #[t, t] ty #[.slice (some b) n cap, s]).run P w = .ok v' w' ∧ Row w' e size v' (n + m) (olds ++ news) ∧ Fr (fun _ => False) w w' ∧ (∀ q, v'.ownBlock = some q → w.heap.size ≤ q) := by
  obtain ⟨hlo, A, c, hv, hnc, _, _, holds⟩ := ho
  injection hv with e1 _ e3
  subst e1 e3
  obtain ⟨hl, A, c, rfl, hmc, _, hA, hnews⟩ := hs
  cases A with
  | none =>
    have := (hA rfl).1
    omega
  | some a =>
    obtain ⟨v', w', hr, h2, h3⟩ := run_append_arg_grows (P := P) w t ty e i z size bytes ht hi hz hsize hby hzs hsz b n cap olds hlo (fun j u hj => holds b rfl j u hj) a m c news hl (fun j u hj => hnews a rfl j u hj) hg h63 hbytes
    refine ⟨v', w', hr, Row.of_own h2, (Fr.of_grown h3).mono (fun k _ h => nomatch h), fun q hq => ?_⟩
    rcases h2.2 with ⟨rfl, _⟩ | ⟨g, cap', cur, rfl, hb, _⟩
    · simp [Value.ownBlock] at hq
    · simp [Value.ownBlock] at hq
      omega
theorem wpList_append_full {ops : Array Oper} {rest : List Oper} {o : Oper} {a : Act} {Q : Exit → Act → World → Prop} (hgd : o.guard = none) (s x : Operand) (t : TypeId)
    (ho : o.op = .call { callee := .builtin .append, args := #[s, x], argTypes := #[t, t] })
    (e : TypeId) (i : TypeInfo) (z : Value) (size bytes : Nat) (ht : P.underlying t = some (.slice e)) (hi : P.info? e = some i) (hz : i.zero = some z)
    (hsize : i.size = size) (hby : i.bytes = bytes) (hzs : z.cells.size = size) (hsz : 0 < size)
    (b : Addr) (n cap : Nat) (olds : List Value) (hv : a.eval s = .slice (some b) n cap) (hol : Src w size (.slice (some b) n cap) n olds)
    (sv : Value) (m : Nat) (news : List Value) (hx : a.eval x = sv) (hs : Src w size sv m news) (hg : cap < n + m) (h63 : n + m ≤ maxLen) (hbytes : (n + m) * bytes ≤ 140737488355328)
    (h : ∀ v' w', Row w' e size v' (n + m) (olds ++ news) → Fr (fun _ => False) w w' → (∀ q, v'.ownBlock = some q → w.heap.size ≤ q) → wpList P ops Q rest (a.put o.dst v') w') : wpList P ops Q (o :: rest) a w :=
  wpList_plain hgd fun _ hK => by
    obtain ⟨v', w', hrun, h2, h3, h4⟩ := run_append_full (P := P) w t o.type e i z size bytes ht hi hz hsize hby hzs hsz b n cap olds hol sv m news hs hg h63 hbytes
    unfold Oper.wp execOp
    simp only [ho, resolve, invoke, builtin, Sem.run_bind, Sem.run_pure, Result.andThen_ok, List.map_toArray, List.map_cons, List.map_nil, hv, hx, hrun]
    exact hK _ _ (h v' w' h2 h3 h4)

/-- append of so many zeros onto nothing. -/
theorem run_append_zeros_nil (t ti ty e : TypeId) (i : TypeInfo) (z : Value) (size bytes : Nat) (ht : P.underlying t = some (.slice e)) {k : IntKind} (hti : P.underlying ti = some (.int k)) (hi : P.info? e = some i) (hz : i.zero = some z)
    (hsize : i.size = size) (hby : i.bytes = bytes) (hzs : z.cells.size = size) (hsz : 0 < size) (hb0 : 0 < bytes) (kx : IntKind) (m : Nat) (hm0 : 0 < m) (hbytes : m * bytes ≤ 140737488355328) :
    ∃ v' w', (Builtin.append_ #[t, ti] ty #[.slice none 0 0, .int kx m]).run P w = .ok v' w' ∧ Row w' e size v' m (Builtin.zeroCells z.cells m).toList ∧ Fr (fun _ => False) w w' ∧ v'.ownBlock = some w.heap.size := by
  subst hsize
  subst hby
  have hle : m ≤ 140737488355328 := Nat.le_trans (Nat.le_mul_of_pos_right _ hb0) hbytes
  have h63 : m ≤ maxLen := by simp only [maxLen]; omega
  have hw : IntKind.i64.wrap (m : Int) = m := by rw [IntKind.wrap_i64]; omega
  have hneg : ¬ ((m : Int) < 0) := by omega
  have hbig : ¬ (281474976710656 < (m : Int) * (i.bytes : Int)) := by
    rw [← Int.natCast_mul]
    omega
  have hmz : ¬ (m * i.size = 0) := Nat.mul_ne_zero (by omega) (by omega)
  have hm : ¬ (m = 0) := by omega
  have h63' : ¬ (9223372036854775807 < (m : Int)) := by omega
  have hfit := growslice_fits (need := m) (old := 0) (bytes := i.bytes) hm0 hbytes
  have h48' : ¬ (281474976710656 < Builtin.nextslicecap m 0 * i.bytes) := by omega
  have hge := grownCap_ge w m 0 e
  have hcm : grownCap w m 0 e ≤ maxLen := grownCap_le_maxLen w m 0 e h63
  have hzl : (Builtin.zeroCells z.cells m).size = m * i.size := by rw [size_zeroCells, hzs]
  have hrun : (Builtin.append_ #[t, ti] ty #[.slice none 0 0, .int kx m]).run P w =
      .ok (.slice (some ⟨w.heap.size, 0, none⟩) m (grownCap w m 0 e)) (w.drew.alloc (.cells (Builtin.zeroCells z.cells m ++ Builtin.zeroCells z.cells (grownCap w m 0 e - m)) e)) := by
    simp [Builtin.append_, run_underlying ht, run_underlying hti, Go.sizeOf, Go.typeInfo, zeroValue, hi, hz, asInt, asIntOf, hw, hneg, hbig, hm, h63', h48', Question.forced, Builtin.firstCells, newRow, grownCap, hmz]
  refine ⟨_, _, hrun, ⟨by rw [Array.length_toList, hzl], .inr ⟨w.heap.size, _, _, rfl, heap_alloc_new w.drew _, hge, hcm, ?_, ?_⟩⟩, ((Fr.refl _ w).drew).alloc _, rfl⟩
  · simp only [Array.size_append, size_zeroCells, hzs, ← Nat.add_mul]
    rw [Nat.add_sub_cancel' hge]
    exact Nat.le_refl _
  · simp only [Array.toList_append]
    rw [List.take_append_of_le_length (by rw [Array.length_toList, hzl]; exact Nat.le_refl _), List.take_of_length_le (by rw [Array.length_toList, hzl]; exact Nat.le_refl _)]
theorem wpList_append_zeros_nil {ops : Array Oper} {rest : List Oper} {o : Oper} {a : Act} {Q : Exit → Act → World → Prop} (hgd : o.guard = none) (s x : Operand) (t ti : TypeId)
    (ho : o.op = .call { callee := .builtin .append, args := #[s, x], argTypes := #[t, ti] })
    (e : TypeId) (i : TypeInfo) (z : Value) (size bytes : Nat) (ht : P.underlying t = some (.slice e)) {k : IntKind} (hti : P.underlying ti = some (.int k)) (hi : P.info? e = some i) (hz : i.zero = some z)
    (hsize : i.size = size) (hby : i.bytes = bytes) (hzs : z.cells.size = size) (hsz : 0 < size) (hb0 : 0 < bytes) (kx : IntKind) (m : Nat) (hm0 : 0 < m) (hbytes : m * bytes ≤ 140737488355328)
    (hv : a.eval s = .slice none 0 0) (hx : a.eval x = .int kx m)
    (h : ∀ v' w', Row w' e size v' m (Builtin.zeroCells z.cells m).toList → Fr (fun _ => False) w w' → v'.ownBlock = some w.heap.size → wpList P ops Q rest (a.put o.dst v') w') : wpList P ops Q (o :: rest) a w :=
  wpList_plain hgd fun _ hK => by
    obtain ⟨v', w', hrun, h2, h3, h4⟩ := run_append_zeros_nil (P := P) w t ti o.type e i z size bytes ht hti hi hz hsize hby hzs hsz hb0 kx m hm0 hbytes
    unfold Oper.wp execOp
    simp only [ho, resolve, invoke, builtin, Sem.run_bind, Sem.run_pure, Result.andThen_ok, List.map_toArray, List.map_cons, List.map_nil, hv, hx, hrun]
    exact hK _ _ (h v' w' h2 h3 h4)
end
end Chart
