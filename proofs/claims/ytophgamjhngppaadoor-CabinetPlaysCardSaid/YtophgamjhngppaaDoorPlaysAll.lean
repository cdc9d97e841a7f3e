/-
  CabinetPlays: any calls of a cabinet for so many bytes, crashes too: each answer is the document's. No condition beyond the row's own (the listed variables lie as the program's text lays them).
-/
import Derived.Test.YtophgamjhngppaaDoorZ7AEC4519
import Derived.Test.YtophgamjhngppaaDoorTie
import Derived.Test.YtophgamjhngppaaDoorCards
import Derived.SevenTiedAt
import Derived.SizedLaws
namespace Go.Proofs.YtophgamjhngppaaDoor
open Go.ChangeShapes Go.WideShapes Go.ChangeAt Go.RowKit

theorem cabinetPlays_own : ownKnob Tryd.prog.godebug = none := by kernel_rfl
theorem cabinetPlays_out : laidOutB Tryd.prog = true := by kernel_rfl
set_option maxRecDepth 100000 in
set_option maxHeartbeats 1000000 in
theorem cabinetPlays_lifted (os : Os) (started : os.Started) (H : Type) (enc : TypeId × Value → H) :
    ReturnsInHanded {} Tryd.checked os 3 .any (fun w args => (Rows.cabinetPlaysSpec.pre enc Tryd.prog Tryd.f3 Rows.cabinetPlaysRow.domain false w args ∧ laidMetH Tryd.prog Rows.cabinetPlaysRow.laid w) ∧ sizedMet enc Tryd.prog Tryd.f3 (OpenSpec.ofChange Rows.cabinetPlaysSpec) false w args)
      (Rows.cabinetPlaysSpec.post enc Tryd.prog Tryd.f3 false true false false) := by
  refine returnsInHanded_of_change_and (C := Tryd.checked) (X := fun w _ => laidMetH Tryd.prog Rows.cabinetPlaysRow.laid w) (fun _ _ _ hh h => h.of_heap hh) cabinetPlays_own started (by kernel_rfl) Tryd.func3
    (ChangeSpec.witness_shaped (enc := enc) (C := Tryd.checked) (os := os) (X := fun w _ => laidMetH Tryd.prog Rows.cabinetPlaysRow.laid w) false (World.laidAll Tryd.prog os Rows.cabinetPlaysRow.laid) #[.int .i64 0, .slice none 0 0] 8 (World.laidAll_os _ _ _)
      (World.shaped_of_ZipB (by kernel_rfl) (by kernel_rfl)) (by kernel_rfl) (by kernel_rfl) (by kernel_rfl)
      (by rw [MakeChecks.laidMetH_plain _ _ _ (by kernel_rfl)]; exact laidMet_laidAll _ (by kernel_rfl) (by kernel_rfl))) ?_
  intro W base args ds gs before hval0 hW hc hsz0 hL _
  have hval : ∀ (j : Nat) t v, Tryd.f3.params[j]? = some t → args[j]? = some v → Value.okWide Tryd.prog W .any base t v := hval0
  have hsz : (DataW.weightsEach Tryd.prog (Tryd.f3.params.toList ++ Rows.cabinetPlaysSpec.plain.varTypes Tryd.prog) (ds ++ gs)).all (· ≤ reachBytes) = true := hsz0
  have hW' := hW
  obtain ⟨p, q, hA0, hV, rfl, _, _⟩ := hW
  have hA : DataW.TrodAll enc Tryd.prog W 0 (fun _ => true) true Tryd.f3.params.toList args.toList ds p := hA0
  have hA1 := hA
  obtain ⟨rfl, rfl⟩ := trodVars_none hV
  rw [Tryd.params3] at hA hval hsz
  obtain ⟨v0, vs0, d0, ds0, p0, q0, hargs, rfl, rfl, h0, r0⟩ := trodAll_cons hA
  obtain ⟨v1, vs1, d1, ds1, p1, q1, rfl, rfl, rfl, h1, r1⟩ := trodAll_cons r0
  obtain ⟨rfl, rfl, rfl⟩ := trodAll_nil r1
  obtain rfl : args = #[v0, v1] := by cases args; simp_all
  obtain ⟨n0, rfl, rfl, rfl, w0⟩ := open_int Tryd.underlying3 (hval 0 3 v0 rfl rfl) h0
  obtain ⟨A1, n1, c1, rfl⟩ := okWide_slice Tryd.underlying22 (hval 1 22 v1 rfl rfl)
  have g1 := Chart.reads_arg (Chart.steps_reads W) h1 hsz (j := 1) rfl rfl
  rw [Chart.slice_cells] at g1
  clear hA0 hval0 hsz0
  refine (Chart.plays_calls n0 (.slice A1 n1 c1) W g1).mono fun e W' ⟨he, hf⟩ => ?_
  subst he
  exact ⟨_, rfl, Chart.post_true cabinetPlays_out Tryd.underlying4 (by kernel_rfl) rfl hW' hA1 rfl (by rw [Tryd.params3]; decide +kernel) (hf.below (Nat.le_refl _) fun _ _ => id) rfl⟩

theorem cabinetPlays_row : Rows.CabinetPlaysSaid :=
  OpenClaim.holds_of_wide 3 Tryd.f3 rfl rfl rfl rfl rfl rfl rfl ⟨rfl, rfl, rfl, rfl, rfl⟩ rfl rfl rfl rfl rfl (by kernel_rfl) Tryd.func3 (by kernel_rfl)
    (of_decide_eq_true (by kernel_rfl)) (by unfold Func.isWrapper; first | (rw [if_pos (by decide +kernel)]; kernel_rfl) | (rw [if_neg (by decide +kernel)]; exact ⟨rfl, rfl⟩))
    (fun os started H enc _ => cabinetPlays_lifted os started H enc)
theorem cabinetPlays_card : Rows.CabinetPlaysCardSaid :=
  Claim7.holds_tied_plain_at .later [] [.data, .pinned] true Rows.cabinetPlaysCard.stood.harness true cabinetPlays_row (fun _ h => by cases h) (by kernel_rfl) (fun _ h => by cases h) cabinetPlays_row_tie rfl ⟨rfl, rfl⟩ (by kernel_rfl) rfl
    (fun f fn hf hfn => by
      obtain rfl : f = 3 := Option.some.inj ((show Tryd.prog.funcNamed "chartulary/chartularylaw09.CabinetPlays" = some 3 by kernel_rfl).symm.trans hf) |>.symm
      obtain rfl : fn = Tryd.f3 := (Option.some.inj (Tryd.func3.symm.trans hfn)).symm
      exact ⟨by kernel_rfl, fun j t ht => by
        rw [Tryd.params3] at ht
        have hm : t ∈ [3, 22] := by simpa using Array.mem_of_getElem? ht
        have hall : ([3, 22].all fun u => !Tryd.prog.wantsStandIn u) = true := by kernel_rfl
        exact (show Tryd.prog.wantsStandIn t = false by simpa using List.all_eq_true.1 hall t hm)⟩)
    (by kernel_rfl)
#print axioms cabinetPlays_card
end Go.Proofs.YtophgamjhngppaaDoor
