/-
  SegmentBytes: what lies in a file behind any texts that were appended. No condition beyond the row's own (the listed variables lie as the program's text lays them).
-/
import Derived.Test.YtophgamjhngppaaDoorZDB56D3DD
import Derived.Test.YtophgamjhngppaaDoorTie
import Derived.Test.YtophgamjhngppaaDoorCards
import Derived.SevenTiedAt
import Derived.SizedLaws
namespace Go.Proofs.YtophgamjhngppaaDoor
open Go.ChangeShapes Go.WideShapes Go.ChangeAt Go.RowKit

theorem segmentBytes_own : ownKnob Tryd.prog.godebug = none := by kernel_rfl
theorem segmentBytes_out : laidOutB Tryd.prog = true := by kernel_rfl
set_option maxRecDepth 100000 in
set_option maxHeartbeats 1000000 in
theorem segmentBytes_lifted (os : Os) (started : os.Started) (H : Type) (enc : TypeId × Value → H) :
    ReturnsInHanded {} Tryd.checked os 6 .any (fun w args => (Rows.segmentBytesSpec.pre enc Tryd.prog Tryd.f6 Rows.segmentBytesRow.domain false w args ∧ laidMetH Tryd.prog Rows.segmentBytesRow.laid w) ∧ sizedMet enc Tryd.prog Tryd.f6 (OpenSpec.ofChange Rows.segmentBytesSpec) false w args)
      (Rows.segmentBytesSpec.post enc Tryd.prog Tryd.f6 false true false false) := by
  refine returnsInHanded_of_change_and (C := Tryd.checked) (X := fun w _ => laidMetH Tryd.prog Rows.segmentBytesRow.laid w) (fun _ _ _ hh h => h.of_heap hh) segmentBytes_own started (by kernel_rfl) Tryd.func6
    (ChangeSpec.witness_shaped (enc := enc) (C := Tryd.checked) (os := os) (X := fun w _ => laidMetH Tryd.prog Rows.segmentBytesRow.laid w) false (World.laidAll Tryd.prog os Rows.segmentBytesRow.laid) #[.int .u64 0, .slice none 0 0] 8 (World.laidAll_os _ _ _)
      (World.shaped_of_ZipB (by kernel_rfl) (by kernel_rfl)) (by kernel_rfl) (by kernel_rfl) (by kernel_rfl)
      (by rw [MakeChecks.laidMetH_plain _ _ _ (by kernel_rfl)]; exact laidMet_laidAll _ (by kernel_rfl) (by kernel_rfl))) ?_
  intro W base args ds gs before hval0 hW hc hsz0 hL _
  have hval : ∀ (j : Nat) t v, Tryd.f6.params[j]? = some t → args[j]? = some v → Value.okWide Tryd.prog W .any base t v := hval0
  have hsz : (DataW.weightsEach Tryd.prog (Tryd.f6.params.toList ++ Rows.segmentBytesSpec.plain.varTypes Tryd.prog) (ds ++ gs)).all (· ≤ reachBytes) = true := hsz0
  have hW' := hW
  obtain ⟨p, q, hA0, hV, rfl, _, _⟩ := hW
  have hA : DataW.TrodAll enc Tryd.prog W 0 (fun _ => true) true Tryd.f6.params.toList args.toList ds p := hA0
  have hA1 := hA
  obtain ⟨rfl, rfl⟩ := trodVars_none hV
  rw [Tryd.params6] at hA hval hsz
  obtain ⟨v0, vs0, d0, ds0, p0, q0, hargs, rfl, rfl, h0, r0⟩ := trodAll_cons hA
  obtain ⟨v1, vs1, d1, ds1, p1, q1, rfl, rfl, rfl, h1, r1⟩ := trodAll_cons r0
  obtain ⟨rfl, rfl, rfl⟩ := trodAll_nil r1
  obtain rfl : args = #[v0, v1] := by cases args; simp_all
  obtain ⟨n0, rfl, rfl, rfl, w0⟩ := open_int Tryd.underlying55 (hval 0 55 v0 rfl rfl) h0
  obtain ⟨A1, n1, c1, rfl⟩ := okWide_slice Tryd.underlying56 (hval 1 56 v1 rfl rfl)
  have g1 := Chart.reads_arg (Chart.bss_reads W) h1 hsz (j := 1) rfl rfl
  rw [Chart.slice_cells] at g1
  clear hA0 hval0 hsz0
  refine (Chart.segbytes_row n0 w0 (.slice A1 n1 c1) W g1).mono fun e W' ⟨he, hf⟩ => ?_
  subst he
  exact ⟨_, rfl, Chart.post_true segmentBytes_out Tryd.underlying4 (by kernel_rfl) rfl hW' hA1 rfl (by rw [Tryd.params6]; decide +kernel) (hf.below (Nat.le_refl _) fun _ _ => id) rfl⟩

theorem segmentBytes_row : Rows.SegmentBytesSaid :=
  OpenClaim.holds_of_wide 6 Tryd.f6 rfl rfl rfl rfl rfl rfl rfl ⟨rfl, rfl, rfl, rfl, rfl⟩ rfl rfl rfl rfl rfl (by kernel_rfl) Tryd.func6 (by kernel_rfl)
    (of_decide_eq_true (by kernel_rfl)) (by unfold Func.isWrapper; first | (rw [if_pos (by decide +kernel)]; kernel_rfl) | (rw [if_neg (by decide +kernel)]; exact ⟨rfl, rfl⟩))
    (fun os started H enc _ => segmentBytes_lifted os started H enc)
theorem segmentBytes_card : Rows.SegmentBytesCardSaid :=
  Claim7.holds_tied_plain_at .later [] [.data, .pinned] true Rows.segmentBytesCard.stood.harness true segmentBytes_row (fun _ h => by cases h) (by kernel_rfl) (fun _ h => by cases h) segmentBytes_row_tie rfl ⟨rfl, rfl⟩ (by kernel_rfl) rfl
    (fun f fn hf hfn => by
      obtain rfl : f = 6 := Option.some.inj ((show Tryd.prog.funcNamed "chartulary/chartularylaw18.SegmentBytes" = some 6 by kernel_rfl).symm.trans hf) |>.symm
      obtain rfl : fn = Tryd.f6 := (Option.some.inj (Tryd.func6.symm.trans hfn)).symm
      exact ⟨by kernel_rfl, fun j t ht => by
        rw [Tryd.params6] at ht
        have hm : t ∈ [55, 56] := by simpa using Array.mem_of_getElem? ht
        have hall : ([55, 56].all fun u => !Tryd.prog.wantsStandIn u) = true := by kernel_rfl
        exact (show Tryd.prog.wantsStandIn t = false by simpa using List.all_eq_true.1 hall t hm)⟩)
    (by kernel_rfl)
#print axioms segmentBytes_card
end Go.Proofs.YtophgamjhngppaaDoor
