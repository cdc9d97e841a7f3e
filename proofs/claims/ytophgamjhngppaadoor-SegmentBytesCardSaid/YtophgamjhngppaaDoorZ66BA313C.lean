import Derived.Test.YtophgamjhngppaaDoorZF43F0011
import Derived.Test.YtophgamjhngppaaDoorZBE372490
import Derived.Test.YtophgamjhngppaaDoorZ0CA8B396
import Derived.Deep.QuietTactic
import Derived.BigQuiet
/- Each call: the same answer, and the two cabinets alike behind it. -/
namespace Chart
open Go (bytesBefore)

theorem nameOk_len {k : Txt} (h : Cab.nameOk k = true) : k ≠ [] ∧ k.length ≤ 32 := by
  unfold Cab.nameOk at h
  simp only [Bool.and_eq_true, decide_eq_true_eq] at h
  obtain ⟨⟨h1, h2⟩, _⟩ := h
  refine ⟨?_, h2⟩
  rintro rfl
  simp at h1

section
variable {B : Nat} {c : Cab} {r : RCab}
theorem Sim.get (h : Sim B c r) {k : Txt} {n : Nat} (hg : c.now.get? k = some n) : n < c.files.length ∧ k ≠ [] ∧ k.length ≤ 32 ∧ n ∈ r.taken := h.nowOk.2 _ (mem_of_get hg)
theorem Sim.fail (h : Sim B c r) (n : Int) (h1 : n ≤ 9223372036854775807) : Sim B (c.fail n) (r.fail n) :=
  { h with
    pow := by
      unfold Cab.fail RCab.fail
      simp only
      by_cases hn : 0 ≤ n
      · exact .inr ⟨by simpa using hn, by omega, hn⟩
      · exact .inl ⟨by simpa using hn, by omega⟩
    after1 := h1 }
theorem spend_same (c : Cab) : c.spend.1.files = c.files ∧ c.spend.1.now = c.now ∧ c.spend.1.waiting = c.waiting ∧ c.spend.1.sure = c.sure := by
  unfold Cab.spend
  split
  · exact ⟨rfl, rfl, rfl, rfl⟩
  · split <;> exact ⟨rfl, rfl, rfl, rfl⟩
theorem power_same (c : RCab) : c.power.1.files = c.files ∧ c.power.1.now = c.now ∧ c.power.1.waiting = c.waiting ∧ c.power.1.sure = c.sure := by
  unfold RCab.power
  split
  · exact ⟨rfl, rfl, rfl, rfl⟩
  · split <;> exact ⟨rfl, rfl, rfl, rfl⟩
theorem taken_power (c : RCab) : c.power.1.taken = c.taken := by
  obtain ⟨_, _, h3, h4⟩ := power_same c
  unfold RCab.taken
  rw [h3, h4]
theorem Sim.file (h : Sim B c r) {n : Nat} (hn : n ∈ r.taken) : r.file n = c.file n := by
  unfold RCab.file Cab.file
  rw [List.getD_eq_getElem?_getD, List.getD_eq_getElem?_getD, h.files n hn]
theorem find_none {c : Cab} {k : Txt} (h : c.off = false) (hg : c.now.get? k = none) : c.find k = (0, 7) := by unfold Cab.find; simp [h, hg]
theorem find_some {c : Cab} {k : Txt} {n : Nat} (h : c.off = false) (hg : c.now.get? k = some n) : c.find k = (n, 0) := by unfold Cab.find; simp [h, hg]
theorem find_off {c : Cab} {k : Txt} (h : c.off = true) : c.find k = (0, 11) := by unfold Cab.find; simp [h]

theorem Sim.create (h : Sim B c r) (k : Txt) : r.create k = ((r.create k).1, (c.create k).2) ∧ Sim (B + 2) (c.create k).1 (r.create k).1 := by
  have hm := h.mono (Nat.le_add_right B 2)
  unfold Cab.create RCab.create
  rw [h.off, h.now]
  cases ho : c.off
  · simp only [Bool.false_eq_true, if_false]
    cases hk : Cab.nameOk k
    · simp only [if_true]
      exact ⟨trivial, hm⟩
    · simp only [Bool.true_eq_false, if_false]
      rcases at_cases c.now k with ⟨e1, e2⟩ | ⟨n, e1, e2⟩
      · rw [e1, e2]
        simp only [Option.isSome_none, Bool.false_eq_true, if_false, show ¬ ((0 : Int) ≤ -1) by decide]
        by_cases h4 : 4096 ≤ c.now.length
        · simp only [h4, if_true]
          exact ⟨trivial, hm⟩
        · simp only [h4, if_false]
          obtain ⟨s1, s2, _⟩ := h.spend
          rw [s1]
          by_cases hs : c.spend.2 = 0
          · simp only [hs, not_true_eq_false, ne_eq, if_false, if_true]
            refine ⟨trivial, ?_⟩
            obtain ⟨kl1, kl2⟩ := nameOk_len hk
            have h1 := s2.addFile
            have hr := h1.record ⟨0, [], k, c.spend.1.files.length⟩ ⟨by simp, ⟨kl1, kl2⟩, by simp, fun _ => rfl, fun e => by simp at e⟩ (by simp) (by
              have := s2.len
              simp only
              rw [List.getElem?_append_right (by omega), List.getElem?_append_right (by omega), this])
            have e : Chg.toR ⟨0, [], k, c.spend.1.files.length⟩ = ⟨[], k, r.power.1.files.length⟩ := by
              have := s2.len
              simp [Chg.toR, this]
            rw [e] at hr
            exact hr
          · simp only [hs, not_false_eq_true, ne_eq, if_true, if_false]
            exact ⟨by rw [← s1], s2.mono (Nat.le_add_right B 2)⟩
      · rw [e1, e2]
        simp only [Option.isSome_some, if_true, show ((0 : Int) ≤ (n : Int)) by omega]
        exact ⟨trivial, hm⟩
  · simp only [if_true]
    exact ⟨trivial, hm⟩

theorem Sim.sync (h : Sim B c r) (k : Txt) : (r.sync k).2 = (c.sync k).2 ∧ Sim (B + 2) (c.sync k).1 (r.sync k).1 := by
  have hm := h.mono (Nat.le_add_right B 2)
  unfold Cab.sync RCab.sync
  rw [h.off, h.now]
  cases ho : c.off
  · simp only [Bool.false_eq_true, if_false]
    rcases at_cases c.now k with ⟨e1, _⟩ | ⟨n, e1, _⟩
    · rw [find_none ho e1, e1]
      exact ⟨rfl, hm⟩
    · rw [find_some ho e1, e1]
      simp only [ne_eq, not_true_eq_false, if_false]
      obtain ⟨s1, s2, _⟩ := h.spend
      rw [s1]
      by_cases hs : c.spend.2 = 0
      · simp only [hs, not_true_eq_false, if_false, if_true]
        refine ⟨trivial, ?_⟩
        obtain ⟨_, _, _, g4⟩ := h.get e1
        have hn : n ∈ r.power.1.taken := by rw [taken_power]; exact g4
        have hlt := taken_lt s2 hn
        have hfe := s2.file hn
        have hfm : c.spend.1.file n ∈ c.spend.1.files := by
          unfold Cab.file
          rw [List.getD_eq_getElem?_getD, List.getElem?_eq_getElem hlt]
          exact List.getElem_mem hlt
        obtain ⟨a1, a2⟩ := s2.all _ hfm
        have := s2.setFile hn { c.spend.1.file n with sure := (c.spend.1.file n).all.length } ⟨a1, Nat.le_refl _⟩
        rw [hfe]
        exact this.mono (Nat.le_add_right B 2)
      · simp only [hs, not_false_eq_true, if_true, if_false]
        exact ⟨s1, s2.mono (Nat.le_add_right B 2)⟩
  · rw [find_off ho]
    simp
    exact hm
theorem Sim.append (h : Sim B c r) (k b : Txt) : (r.append k b).2 = (c.append k b).2 ∧ Sim (B + 2) (c.append k b).1 (r.append k b).1 := by
  have hm := h.mono (Nat.le_add_right B 2)
  unfold Cab.append RCab.append
  rw [h.off, h.now]
  cases ho : c.off
  · simp only [Bool.false_eq_true, if_false]
    rcases at_cases c.now k with ⟨e1, _⟩ | ⟨n, e1, _⟩
    · rw [find_none ho e1, e1]
      exact ⟨rfl, hm⟩
    · obtain ⟨_, _, _, g4⟩ := h.get e1
      rw [find_some ho e1, e1]
      simp only [ne_eq, not_true_eq_false, if_false, h.file g4, h.quota, h.used]
      by_cases h17 : (b.length : Int) > 1048576 - ((c.file n).all.length : Int)
      · simp only [h17, if_true]
        exact ⟨trivial, hm⟩
      · simp only [h17, if_false]
        by_cases h10 : (b.length : Int) > c.quota - (c.used : Int)
        · simp only [h10, if_true]
          exact ⟨trivial, hm⟩
        · simp only [h10, if_false]
          obtain ⟨s1, s2, _⟩ := h.spend
          rw [s1]
          by_cases hs : c.spend.2 = 0
          · simp only [hs, not_true_eq_false, if_false, if_true]
            refine ⟨trivial, ?_⟩
            have hn : n ∈ r.power.1.taken := by rw [taken_power]; exact g4
            have hlt := taken_lt s2 hn
            have hfe := s2.file hn
            have hfc : c.spend.1.file n = c.file n := by unfold Cab.file; rw [(spend_same c).1]
            have hfm : c.spend.1.file n ∈ c.spend.1.files := by
              unfold Cab.file
              rw [List.getD_eq_getElem?_getD, List.getElem?_eq_getElem hlt]
              exact List.getElem_mem hlt
            obtain ⟨a1, a2⟩ := s2.all _ hfm
            have := s2.setFile hn { c.spend.1.file n with all := (c.spend.1.file n).all ++ b } ⟨by simp only [List.length_append]; rw [hfc] at a1 ⊢; omega, by simp only [List.length_append]; omega⟩
            rw [hfe]
            exact this.mono (Nat.le_add_right B 2)
          · simp only [hs, not_false_eq_true, if_true, if_false]
            exact ⟨s1, s2.mono (Nat.le_add_right B 2)⟩
  · rw [find_off ho]
    simp
    exact hm
theorem Sim.remove (h : Sim B c r) (k : Txt) : (r.remove k).2 = (c.remove k).2 ∧ Sim (B + 2) (c.remove k).1 (r.remove k).1 := by
  have hm := h.mono (Nat.le_add_right B 2)
  unfold Cab.remove RCab.remove
  rw [h.off, h.now]
  cases ho : c.off
  · simp only [Bool.false_eq_true, if_false]
    rcases at_cases c.now k with ⟨e1, _⟩ | ⟨n, e1, _⟩
    · rw [find_none ho e1, e1]
      exact ⟨rfl, hm⟩
    · obtain ⟨g1, g2, g3, g4⟩ := h.get e1
      rw [find_some ho e1, e1]
      simp only [ne_eq, not_true_eq_false, if_false]
      obtain ⟨s1, s2, _⟩ := h.spend
      rw [s1]
      by_cases hs : c.spend.2 = 0
      · simp only [hs, not_true_eq_false, if_false, if_true]
        refine ⟨trivial, ?_⟩
        have hn : n ∈ r.power.1.taken := by rw [taken_power]; exact g4
        exact (s2.record ⟨2, [], k, n⟩ ⟨by simp, ⟨g2, g3⟩, by simp, fun _ => rfl, fun e => by simp at e⟩ (taken_lt s2 hn) (s2.files n hn)).mono (Nat.le_succ _)
      · simp only [hs, not_false_eq_true, if_true, if_false]
        exact ⟨s1, s2.mono (Nat.le_add_right B 2)⟩
  · rw [find_off ho]
    simp
    exact hm
theorem Sim.rename (h : Sim B c r) (k name : Txt) : (r.renameTo k name).2 = (c.renameTo k name).2 ∧ Sim (B + 2) (c.renameTo k name).1 (r.renameTo k name).1 := by
  have hm := h.mono (Nat.le_add_right B 2)
  unfold Cab.renameTo RCab.renameTo
  rw [h.off, h.now]
  cases ho : c.off
  · simp only [Bool.false_eq_true, if_false]
    rcases at_cases c.now k with ⟨e1, _⟩ | ⟨n, e1, _⟩
    · rw [find_none ho e1, e1]
      exact ⟨rfl, hm⟩
    · obtain ⟨g1, g2, g3, g4⟩ := h.get e1
      rw [find_some ho e1, e1]
      simp only [ne_eq, not_true_eq_false, if_false]
      cases hk : Cab.nameOk name
      · simp only [if_true]
        exact ⟨trivial, hm⟩
      · simp only [Bool.true_eq_false, if_false]
        obtain ⟨kl1, kl2⟩ := nameOk_len hk
        obtain ⟨s1, s2, _⟩ := h.spend
        rw [s1]
        by_cases hs : c.spend.2 = 0
        · simp only [hs, not_true_eq_false, if_false, if_true]
          refine ⟨trivial, ?_⟩
          have hn : n ∈ r.power.1.taken := by rw [taken_power]; exact g4
          exact (s2.record ⟨1, k, name, n⟩ ⟨by simp, ⟨kl1, kl2⟩, g3, fun e => by simp at e, fun _ => ⟨g2, by rw [(spend_same c).2.1]; exact e1⟩⟩ (taken_lt s2 hn) (s2.files n hn)).mono (Nat.le_succ _)
        · simp only [hs, not_false_eq_true, if_true, if_false]
          exact ⟨s1, s2.mono (Nat.le_add_right B 2)⟩
  · rw [find_off ho]
    simp
    exact hm
theorem Sim.turn (h : Sim B c r) : r.turn.2 = c.turn.2 ∧ Sim (B + 2) c.turn.1 r.turn.1 := by
  have hm := h.mono (Nat.le_add_right B 2)
  unfold Cab.turn RCab.turn
  rw [h.off]
  cases ho : c.off
  · simp only [Bool.false_eq_true, if_false]
    obtain ⟨s1, s2, _⟩ := h.spend
    rw [s1]
    by_cases hs : c.spend.2 = 0
    · simp only [hs, ne_eq, not_true_eq_false, if_false, if_true]
      refine ⟨trivial, ?_⟩
      have := s2.settled s2.nowOk.1 s2.nowOk.2 s2.b3 rfl s2.len s2.files s2.all s2.rall
      have e := s2.now
      unfold Cab.settle
      rw [e]
      exact this.mono (Nat.le_add_right B 2)
    · simp only [hs, ne_eq, not_false_eq_true, if_true, if_false]
      exact ⟨s1, s2.mono (Nat.le_add_right B 2)⟩
  · simp only [if_true]
    exact ⟨trivial, hm⟩
theorem Sim.read (h : Sim B c r) (k : Txt) : r.read k = c.read k := by
  unfold Cab.read RCab.read
  rw [h.off, h.now]
  cases ho : c.off
  · simp only [Bool.false_eq_true, if_false]
    rcases at_cases c.now k with ⟨e1, _⟩ | ⟨n, e1, _⟩
    · rw [find_none ho e1, e1]
      rfl
    · obtain ⟨_, _, _, g4⟩ := h.get e1
      rw [find_some ho e1, e1]
      simp [h.file g4]
  · rw [find_off ho]
    simp
theorem Sim.namesSame (h : Sim B c r) : r.namesOf = c.names := by
  unfold RCab.namesOf Cab.names
  rw [h.off, h.now]

theorem part_same (n : Int) (m : Nat) : RCab.part n m = Cab.part n m := by unfold RCab.part Cab.part; split <;> (try split) <;> omega
theorem part_same' (n m : Int) (h : 0 ≤ m) : RCab.part n m = Cab.part n m := by unfold RCab.part Cab.part; split <;> (try split) <;> omega
/-- The same cuts at the same files. -/
theorem crash_same (F : Folder) (hF : F.Once) (keep : List Int) (turn : UInt8) (T : List Nat) (hT : ∀ y ∈ F, y.2 ∈ T) : ∀ (l : Folder) (i : Nat) (cf rf : List FileS), (∀ y ∈ l, y ∈ F) → cf.length = rf.length → (∀ f ∈ cf, FileOk f) → (∀ k, k ∈ T → rf[k]? = cf[k]?) →
    ∀ k, k ∈ T → (RCab.crashFiles keep turn l i rf)[k]? = (Cab.crashFiles F keep turn l.keys i cf)[k]?
  | [], _, _, _, _, _, _, h => h
  | y :: l, i, cf, rf, hl, hlen, hok, h => by
    have hy := hl y (List.mem_cons.2 (.inl rfl))
    obtain ⟨j, hj⟩ := List.getElem?_of_mem hy
    have hg := once_get hF hj
    have hyT := hT y hy
    have hfy : rf.getD y.2 ⟨[], 0⟩ = cf.getD y.2 ⟨[], 0⟩ := by rw [List.getD_eq_getElem?_getD, List.getD_eq_getElem?_getD, h _ hyT]
    have hd : FileOk (cf.getD y.2 ⟨[], 0⟩) := by
      rw [List.getD_eq_getElem?_getD]
      cases hq : cf[y.2]? with
      | none => exact ⟨by simp, by simp⟩
      | some z => exact hok _ (List.mem_of_getElem? hq)
    have hp := part_same' (keep.getD i 0) (((cf.getD y.2 ⟨[], 0⟩).all.length : Int) - ((cf.getD y.2 ⟨[], 0⟩).sure : Int)) (by have := hd.2; omega)
    have hk : Folder.keys (y :: l) = y.1 :: Folder.keys l := rfl
    rw [hk]
    simp only [RCab.crashFiles, Cab.crashFiles, hg, Option.getD_some, hfy, hp]
    refine crash_same F hF keep turn T hT l (i + 1) _ _ (fun z hz => hl z (List.mem_cons.2 (.inr hz))) (by simp [hlen]) (fun f hf => ?_) (fun k hk => ?_)
    · rcases List.mem_or_eq_of_mem_set hf with hf | hf
      · exact hok f hf
      · subst hf
        refine cut_ok hd _ _ ?_
        split
        · exact (part_le _ _ (by have := hd.2; omega)).2
        · have := hd.2; omega
    · rw [List.getElem?_set, List.getElem?_set, hlen, h k hk]
theorem Sim.crash (h : Sim B c r) (names : Int) (keep : List Int) (turn : UInt8) : Sim B (c.crash names keep turn) (r.crash names keep turn) := by
  have hpt := part_le names (c.waiting.length : Int) (by omega)
  have hwl : r.waiting.length = c.waiting.length := by rw [h.wait, List.length_map]
  obtain ⟨n1, n2, n3⟩ := h.names (Cab.part names c.waiting.length).toNat (by omega)
  have hFl : (c.names_ (Cab.part names c.waiting.length).toNat).length ≤ B := by
    unfold Cab.names_
    have h1 := foldl_length (c.waiting.take (Cab.part names c.waiting.length).toNat) c.sure
    have h2 : (c.waiting.take (Cab.part names c.waiting.length).toNat).length ≤ c.waiting.length := by rw [List.length_take]; omega
    have h4 := h.b2
    omega
  generalize hF : c.names_ (Cab.part names c.waiting.length).toNat = F at *
  have hs := h.settled n1 n2 hFl (fs := Cab.crashFiles F keep turn F.keys 0 c.files) (rs := RCab.crashFiles keep turn F 0 r.files) (crashFiles_length _ _ _ _ _ _) (by rw [rcrashFiles_length, h.len])
    (crash_same F n1 keep turn r.taken (fun y hy => (n2 y hy).2.2.2) F 0 c.files r.files (fun _ hy => hy) h.len.symm h.all h.files) (crashFiles_ok _ _ _ _ _ _ h.all) (rcrashFiles_ok _ _ _ _ _ h.rall)
  have hc : c.crash names keep turn = { c with now := F, sure := F, waiting := [], files := Cab.forget F 0 (Cab.crashFiles F keep turn F.keys 0 c.files), after := -1, off := false } := by
    unfold Cab.crash Cab.settle
    simp only []
    rw [show (c.waiting.take (Cab.part names c.waiting.length).toNat).foldl Folder.apply c.sure = F from hF]
  have hr : r.crash names keep turn = { r with now := F, sure := F, waiting := [], files := RCab.crashFiles keep turn F 0 r.files, timed := false, off := false } := by
    unfold RCab.crash
    simp only []
    rw [hwl, part_same, ← n3]
  rw [hc, hr]
  exact { hs with off := rfl, pow := .inl ⟨rfl, rfl⟩ }
end
end Chart

/- What the contracts ask, of cabinets that are alike. -/
namespace Chart
open Go (maxLen)

section
variable {B : Nat} {c : Cab} {r : RCab}
theorem Sim.afters (h : Sim B c r) : -1 ≤ c.after ∧ c.after ≤ 9223372036854775807 := by
  have := h.after1
  rcases h.pow with ⟨_, e⟩ | ⟨_, e, e2⟩ <;> omega
theorem Sim.num (h : Sim B c r) (hB : B ≤ 100000) : r.Num where
  after0 := fun ht => by
    rcases h.pow with ⟨e, _⟩ | ⟨_, _, e⟩
    · rw [ht] at e
      cases e
    · exact e
  after1 := h.after1
  files := by have := h.b1; have := h.len; omega
  now := by have := h.b3; rw [h.now]; omega
  sure := by have := h.b4; rw [h.sure]; omega
  waiting := by have := h.b2; rw [h.wait, List.length_map]; omega
  nows := fun x hx => by rw [h.now] at hx; rw [h.len]; exact (h.nowOk.2 x hx).1
  sures := fun x hx => by rw [h.sure] at hx; rw [h.len]; exact (h.sures x hx).1
  chg := fun x hx => by
    rw [h.len]
    exact taken_lt h (by unfold RCab.taken; exact List.mem_append_right _ (List.mem_map.2 ⟨x, hx, rfl⟩))
  all := fun f hf => (h.rall f hf).1
  quota0 := by rw [h.quota]; exact h.q0
  quota1 := by rw [h.quota]; exact h.q1
theorem Sim.rep (h : Sim B c r) (j : Nat) : ∀ x ∈ (c.waiting.take j).foldl Folder.apply c.sure, x.2 < c.files.length ∧ x.1 ≠ [] ∧ x.1.length ≤ 32 := by
  by_cases hj : j ≤ c.waiting.length
  · exact fun x hx => ⟨((h.names j hj).2.1 x hx).1, ((h.names j hj).2.1 x hx).2.1, ((h.names j hj).2.1 x hx).2.2.1⟩
  · have e : c.waiting.take j = c.waiting.take c.waiting.length := by rw [List.take_length, List.take_of_length_le (by omega)]
    rw [e]
    exact fun x hx => ⟨((h.names _ (Nat.le_refl _)).2.1 x hx).1, ((h.names _ (Nat.le_refl _)).2.1 x hx).2.1, ((h.names _ (Nat.le_refl _)).2.1 x hx).2.2.1⟩
theorem len32 {n : Nat} (h : n ≤ 32) : n ≤ maxLen := by simp only [maxLen]; omega
theorem Sim.crashOk (h : Sim B c r) (hB : B ≤ 100000) : CrashOk c where
  files := by have := h.b1; omega
  waiting := by have := h.b2; omega
  sure := by have := h.b4; omega
  chg := fun x hx => by
    obtain ⟨j, hj⟩ := List.getElem?_of_mem hx
    obtain ⟨f1, f2⟩ := h.fit j x hj
    have := h.b1
    exact ⟨f1.kind, len32 f1.oldl, len32 f1.name.2, by omega⟩
  rep := fun j x hx => ⟨(h.rep j x hx).1, len32 (h.rep j x hx).2.2⟩
  all := h.all
theorem Sim.rcrashOk (h : Sim B c r) (hB : B ≤ 100000) : RCrashOk r where
  num := h.num hB
  rep := fun j x hx => by
    rw [h.len]
    have e : (r.waiting.take j).foldl Folder.wth r.sure = (c.waiting.take j).foldl Folder.apply c.sure := by
      by_cases hj : j ≤ c.waiting.length
      · exact ((h.names j hj).2.2).symm
      · have hw : r.waiting.length = c.waiting.length := by rw [h.wait, List.length_map]
        have e1 : c.waiting.take j = c.waiting.take c.waiting.length := by rw [List.take_length, List.take_of_length_le (by omega)]
        have e2 : r.waiting.take j = r.waiting.take c.waiting.length := by rw [List.take_of_length_le (by omega), List.take_of_length_le (by omega)]
        rw [e1, e2]
        exact ((h.names _ (Nat.le_refl _)).2.2).symm
    rw [e] at hx
    exact (h.rep j x hx).1
  all := h.rall
theorem Sim.getD (h : Sim B c r) (hB : B ≤ 100000) (k : Txt) : (c.now.get? k).getD 0 ≤ 9223372036854775807 := by
  have h1 := get_le (F := c.now) (N := c.files.length) (fun x hx => (h.nowOk.2 x hx).1) k
  have h2 := h.b1
  omega
theorem Sim.nnow (h : Sim B c r) : ∀ x ∈ c.now, x.2 < c.files.length := fun x hx => (h.nowOk.2 x hx).1
end

/-- A step, as plain data. -/
structure StepS where
  what : Int
  old : Txt
  name : Txt
  data : Txt
  n : Int
  keep : List Int
  turn : UInt8
def Cab.chg (c : Cab) (s : StepS) : Cab × Int :=
  if s.what = 0 then c.create s.name else if s.what = 1 then c.append s.name s.data else if s.what = 2 then c.sync s.name else if s.what = 3 then c.renameTo s.old s.name else if s.what = 4 then c.remove s.name else c.turn
def RCab.chg (c : RCab) (s : StepS) : RCab × Int :=
  if s.what = 0 then c.create s.name else if s.what = 1 then c.append s.name s.data else if s.what = 2 then c.sync s.name else if s.what = 3 then c.renameTo s.old s.name else if s.what = 4 then c.remove s.name else c.turn
theorem Sim.chg {B : Nat} {c : Cab} {r : RCab} (h : Sim B c r) (s : StepS) : (r.chg s).2 = (c.chg s).2 ∧ Sim (B + 2) (c.chg s).1 (r.chg s).1 := by
  unfold Cab.chg RCab.chg
  split
  · have := h.create s.name
    exact ⟨congrArg Prod.snd this.1, this.2⟩
  · split
    · exact h.append _ _
    · split
      · exact h.sync _
      · split
        · exact h.rename _ _
        · split
          · exact h.remove _
          · exact h.turn
def Cab.act (c : Cab) (s : StepS) : Cab :=
  if 1200000 < s.data.length then c
  else if 0 ≤ s.what ∧ s.what ≤ 5 then (c.chg s).1
  else if s.what = 6 then c.fail s.n
  else if s.what = 7 then c.crash s.n s.keep s.turn
  else c
def RCab.act (c : RCab) (s : StepS) : RCab :=
  if 1200000 < s.data.length then c
  else if 0 ≤ s.what ∧ s.what ≤ 5 then (c.chg s).1
  else if s.what = 6 then c.fail s.n
  else if s.what = 7 then c.crash s.n s.keep s.turn
  else c
theorem Sim.act {B : Nat} {c : Cab} {r : RCab} (h : Sim B c r) (s : StepS) (hn : s.n ≤ 9223372036854775807) : Sim (B + 2) (c.act s) (r.act s) := by
  unfold Cab.act RCab.act
  split
  · exact h.mono (Nat.le_add_right B 2)
  · split
    · exact (h.chg s).2
    · split
      · exact (h.fail s.n hn).mono (Nat.le_add_right B 2)
      · split
        · exact (h.crash _ _ _).mono (Nat.le_add_right B 2)
        · exact h.mono (Nat.le_add_right B 2)
theorem Sim.start (q : Int) (h1 : 1 ≤ q) (h2 : q ≤ 1073741824) : Sim 0 (Cab.new q) (RCab.new q) where
  quota := rfl
  q0 := h1
  q1 := h2
  off := rfl
  pow := .inl ⟨rfl, rfl⟩
  after1 := by show (0 : Int) ≤ 9223372036854775807; decide
  now := rfl
  sure := rfl
  wait := rfl
  fit := fun j x hx => by simp [Cab.new] at hx
  nows := rfl
  once := by simp [Cab.new, Folder.Once, Folder.keys]
  sures := fun y hy => by simp [Cab.new] at hy
  len := rfl
  files := fun i hi => by simp [RCab.taken, RCab.new, Folder.vals] at hi
  rest := fun i f hf => by simp [Cab.new] at hf
  all := fun f hf => by simp [Cab.new] at hf
  rall := fun f hf => by simp [RCab.new] at hf
  b1 := Nat.le_refl _
  b2 := Nat.le_refl _
  b3 := Nat.le_refl _
  b4 := Nat.le_refl _
end Chart

/- The room of a cabinet: whatever is done, no more bytes are taken than there are. Plain data, no program in sight. -/
namespace Chart

def tot : List FileS → Nat
  | [] => 0
  | f :: r => f.all.length + tot r
theorem foldl_tot (l : List FileS) (n : Nat) : (l.map fun f => f.all.length).foldl (· + ·) n = n + tot l := by
  induction l generalizing n with
  | nil => rfl
  | cons f r ih =>
    rw [List.map_cons, List.foldl_cons, ih]
    simp only [tot]
    omega
theorem used_tot (c : Cab) : c.used = tot c.files := by unfold Cab.used; rw [foldl_tot]; omega
theorem tot_append (a b : List FileS) : tot (a ++ b) = tot a + tot b := by
  induction a with
  | nil => simp [tot]
  | cons f r ih => rw [List.cons_append]; simp only [tot, ih]; omega
theorem tot_set (l : List FileS) (n : Nat) (f : FileS) (h : n < l.length) : tot (l.set n f) + (l.getD n ⟨[], 0⟩).all.length = tot l + f.all.length := by
  induction l generalizing n with
  | nil => simp at h
  | cons y r ih =>
    cases n with
    | zero => simp only [List.set_cons_zero, tot, List.getD_cons_zero]; omega
    | succ n =>
      simp only [List.length_cons] at h
      have := ih n (by omega)
      simp only [List.set_cons_succ, tot, List.getD_cons_succ]
      omega
theorem tot_set_le (l : List FileS) (n : Nat) (f : FileS) (hf : f.all.length ≤ (l.getD n ⟨[], 0⟩).all.length) : tot (l.set n f) ≤ tot l := by
  by_cases h : n < l.length
  · have := tot_set l n f h
    omega
  · rw [List.set_eq_of_length_le (by omega)]
    exact Nat.le_refl _
theorem tot_forget (F : Folder) : ∀ (l : List FileS) (i : Nat), tot (Cab.forget F i l) ≤ tot l
  | [], _ => Nat.le_refl _
  | f :: r, i => by
    have := tot_forget F r (i + 1)
    unfold Cab.forget
    split <;> simp only [tot, List.length_nil] <;> omega
theorem cut_le (f : FileS) (more : Int) (t : UInt8) : (Cab.cut f more t).all.length ≤ f.all.length := by
  unfold Cab.cut
  simp only
  split
  · rename_i h
    simp only [List.length_append, List.length_take, List.length_cons, List.length_nil]
    omega
  · simp only [List.length_take]
    omega
theorem tot_crash (now : Folder) (keep : List Int) (t : UInt8) : ∀ (ks : List Txt) (i : Nat) (fs : List FileS), tot (Cab.crashFiles now keep t ks i fs) ≤ tot fs
  | [], _, fs => Nat.le_refl _
  | k :: ks, i, fs => by
    unfold Cab.crashFiles
    exact Nat.le_trans (tot_crash now keep t ks (i + 1) _) (tot_set_le _ _ _ (cut_le _ _ _))

theorem used_spend (c : Cab) : c.spend.1.used = c.used ∧ c.spend.1.quota = c.quota ∧ c.spend.1.files = c.files := by
  unfold Cab.spend
  split
  · exact ⟨rfl, rfl, rfl⟩
  · split <;> exact ⟨rfl, rfl, rfl⟩
theorem used_rename (c : Cab) (x : Chg) : (c.rename x).used = c.used ∧ (c.rename x).quota = c.quota := ⟨rfl, rfl⟩

/-- No more is taken than there is. -/
structure Cab.Room (c c' : Cab) : Prop where
  used : (c'.used : Int) ≤ c.quota
  quota : c'.quota = c.quota
theorem find_lt_ {B : Nat} {c : Cab} {r : RCab} (h : Sim B c r) (k : Txt) (hk : (c.find k).2 = 0) : (c.find k).1 < c.files.length := by
  unfold Cab.find at hk ⊢
  split at hk
  · cases hk
  · rename_i h0
    rw [if_neg h0]
    cases hg : c.now.get? k with
    | none => rw [hg] at hk; cases hk
    | some n => exact h.nnow _ (mem_of_get hg)

section
variable {B : Nat} {c : Cab} {r : RCab}
theorem Sim.roomChg (h : Sim B c r) (hu : (c.used : Int) ≤ c.quota) (s : StepS) : Cab.Room c (c.chg s).1 := by
  obtain ⟨s1, s2, s3⟩ := used_spend c
  have same : Cab.Room c c := ⟨hu, rfl⟩
  have sp : Cab.Room c c.spend.1 := ⟨by rw [s1]; exact hu, s2⟩
  have keep : ∀ c' : Cab, c'.files = c.files → c'.quota = c.quota → Cab.Room c c' := fun c' e1 e2 => ⟨by rw [used_tot, e1, ← used_tot]; exact hu, e2⟩
  unfold Cab.chg
  split
  · unfold Cab.create
    split
    · exact same
    split
    · exact same
    split
    · exact same
    split
    · exact same
    simp only
    split
    · exact sp
    · refine ⟨?_, s2⟩
      rw [(used_rename _ _).1, used_tot]
      show ((tot (c.spend.1.files ++ [FileS.mk [] 0]) : Nat) : Int) ≤ c.quota
      rw [tot_append, s3, ← used_tot]
      simpa [tot] using hu
  split
  · unfold Cab.append
    simp only
    split
    · exact same
    rename_i hf
    split
    · exact same
    split
    · exact same
    rename_i hq
    split
    · exact sp
    · refine ⟨?_, s2⟩
      have hlt := find_lt_ h s.name (by omega)
      have key : ∀ f' : FileS, f'.all.length = (c.files.getD (c.find s.name).1 ⟨[], 0⟩).all.length + s.data.length → ((tot (c.files.set (c.find s.name).1 f') : Nat) : Int) ≤ c.quota := fun f' hf' => by
        have := tot_set c.files (c.find s.name).1 f' hlt
        rw [used_tot] at hq hu
        omega
      rw [used_tot]
      show ((tot (c.spend.1.files.set _ _) : Nat) : Int) ≤ c.quota
      rw [s3]
      exact key _ (by simp [Cab.file, s3])
  split
  · unfold Cab.sync
    simp only
    split
    · exact same
    rename_i hf
    split
    · exact sp
    · refine ⟨?_, s2⟩
      have key : ∀ f' : FileS, f'.all.length ≤ (c.files.getD (c.find s.name).1 ⟨[], 0⟩).all.length → ((tot (c.files.set (c.find s.name).1 f') : Nat) : Int) ≤ c.quota := fun f' hf' => by
        have := tot_set_le c.files (c.find s.name).1 f' hf'
        rw [used_tot] at hu
        omega
      rw [used_tot]
      show ((tot (c.spend.1.files.set _ _) : Nat) : Int) ≤ c.quota
      rw [s3]
      exact key _ (by simp [Cab.file, s3])
  split
  · unfold Cab.renameTo
    simp only
    split
    · exact same
    split
    · exact same
    split
    · exact sp
    · exact keep _ s3 s2
  split
  · unfold Cab.remove
    simp only
    split
    · exact same
    split
    · exact sp
    · exact keep _ s3 s2
  · unfold Cab.turn
    split
    · exact same
    simp only
    split
    · exact sp
    · refine ⟨?_, s2⟩
      rw [used_tot]
      have key : ∀ n1 : Folder, ((tot (Cab.forget n1 0 c.files) : Nat) : Int) ≤ c.quota := fun n1 => by
        have := tot_forget n1 c.files 0
        rw [used_tot] at hu
        omega
      show ((tot (Cab.forget _ 0 c.spend.1.files) : Nat) : Int) ≤ c.quota
      rw [s3]
      exact key _
theorem Sim.room (h : Sim B c r) (hu : (c.used : Int) ≤ c.quota) (s : StepS) : ((c.act s).used : Int) ≤ c.quota ∧ (c.act s).quota = c.quota := by
  unfold Cab.act
  split
  · exact ⟨hu, rfl⟩
  split
  · exact ⟨(h.roomChg hu s).used, (h.roomChg hu s).quota⟩
  split
  · exact ⟨hu, rfl⟩
  split
  · refine ⟨?_, rfl⟩
    have key : ∀ (n1 n2 : Folder) (ks : List Txt), ((tot (Cab.forget n1 0 (Cab.crashFiles n2 s.keep s.turn ks 0 c.files)) : Nat) : Int) ≤ c.quota := fun n1 n2 ks => by
      have h1 := tot_forget n1 (Cab.crashFiles n2 s.keep s.turn ks 0 c.files) 0
      have h2 := tot_crash n2 s.keep s.turn ks 0 c.files
      rw [used_tot] at hu
      omega
    rw [used_tot]
    exact key _ _ _
  · exact ⟨hu, rfl⟩
end
end Chart

/- Cabinets that calls have made: what the contracts ask of them, under one name; each contract under it. -/
namespace Chart
open Go Go.RowKit Go.Proofs

/-- A cabinet that at most B changes have made. -/
def COk (B : Nat) (c : Cab) : Prop := ∃ r, Sim B c r
theorem COk.new (q : Int) (h1 : 1 ≤ q) (h2 : q ≤ 1073741824) : COk 0 (Cab.new q) := ⟨_, Sim.start q h1 h2⟩
section
variable {w : World} {p : Nat} {D : Nat → Prop} {B : Nat} {c : Cab}
theorem COk.mono {B' : Nat} (h : COk B c) (hB : B ≤ B') : COk B' c := let ⟨r, h⟩ := h; ⟨r, h.mono hB⟩
theorem COk.create (h : COk B c) (k : Txt) : COk (B + 2) (c.create k).1 := let ⟨_, h⟩ := h; ⟨_, (h.create k).2⟩
theorem COk.append (h : COk B c) (k b : Txt) : COk (B + 2) (c.append k b).1 := let ⟨_, h⟩ := h; ⟨_, (h.append k b).2⟩
theorem COk.sync (h : COk B c) (k : Txt) : COk (B + 2) (c.sync k).1 := let ⟨_, h⟩ := h; ⟨_, (h.sync k).2⟩
theorem COk.rename (h : COk B c) (k b : Txt) : COk (B + 2) (c.renameTo k b).1 := let ⟨_, h⟩ := h; ⟨_, (h.rename k b).2⟩
theorem COk.remove (h : COk B c) (k : Txt) : COk (B + 2) (c.remove k).1 := let ⟨_, h⟩ := h; ⟨_, (h.remove k).2⟩
theorem COk.turn (h : COk B c) : COk (B + 2) c.turn.1 := let ⟨_, h⟩ := h; ⟨_, h.turn.2⟩
theorem COk.fail (h : COk B c) (n : Int) (h1 : n ≤ 9223372036854775807) : COk B (c.fail n) := let ⟨_, h⟩ := h; ⟨_, h.fail n h1⟩
theorem COk.crash (h : COk B c) (n : Int) (keep : List Int) (t : UInt8) : COk B (c.crash n keep t) := let ⟨_, h⟩ := h; ⟨_, h.crash n keep t⟩

theorem createC (h : CabAt w p c D) (ok : COk B c) (hB : B ≤ 90000) (k : Txt) (hk : k.length ≤ maxLen) :
    Calls Tryd.prog 19 #[.pointer (some ⟨p, 0, none⟩), .string (str k)] w fun e w' => e = .returned (.int .i64 (c.create k).2) ∧ ∃ D', After w D p (c.create k).1 D' w' := by
  obtain ⟨r, hs⟩ := ok
  obtain ⟨a0, a1⟩ := hs.afters
  exact create_calls h k hk a0 a1 (Nat.le_trans (Nat.le_trans (Nat.le_add_left _ _) hs.b2) (Nat.le_trans hB (by decide))) (Nat.le_trans hs.b1 (Nat.le_trans hB (by decide))) (hs.getD (Nat.le_trans hB (by decide)))
theorem appendC (h : CabAt w p c D) (ok : COk B c) (hB : B ≤ 90000) (k : Txt) (hk : k.length ≤ maxLen) (l : Txt) (V : Value) (hV : BytesSrc w V l) (hVD : ∀ k, V.ownBlock = some k → 0 < l.length → ¬ D k) :
    Calls Tryd.prog 20 #[.pointer (some ⟨p, 0, none⟩), .string (str k), V] w fun e w' => e = .returned (.int .i64 (c.append k l).2) ∧ ∃ D', After w D p (c.append k l).1 D' w' := by
  obtain ⟨r, hs⟩ := ok
  obtain ⟨a0, a1⟩ := hs.afters
  exact append_calls h k hk a0 a1 hs.q0 hs.q1 hs.nnow (fun f hf => (hs.all f hf).1) (Nat.le_trans hs.b1 (Nat.le_trans hB (by decide))) l V hV hVD
theorem syncC (h : CabAt w p c D) (ok : COk B c) (k : Txt) (hk : k.length ≤ maxLen) :
    Calls Tryd.prog 21 #[.pointer (some ⟨p, 0, none⟩), .string (str k)] w fun e w' => e = .returned (.int .i64 (c.sync k).2) ∧ ∃ D', After w D p (c.sync k).1 D' w' := by
  obtain ⟨r, hs⟩ := ok
  obtain ⟨a0, a1⟩ := hs.afters
  exact sync_calls h k hk a0 a1 hs.nnow
theorem removeC (h : CabAt w p c D) (ok : COk B c) (hB : B ≤ 90000) (k : Txt) (hk : k.length ≤ maxLen) :
    Calls Tryd.prog 23 #[.pointer (some ⟨p, 0, none⟩), .string (str k)] w fun e w' => e = .returned (.int .i64 (c.remove k).2) ∧ ∃ D', After w D p (c.remove k).1 D' w' := by
  obtain ⟨r, hs⟩ := ok
  obtain ⟨a0, a1⟩ := hs.afters
  exact remove_calls h k hk a0 a1 (Nat.lt_of_le_of_lt hs.b3 (Nat.lt_of_le_of_lt hB (by decide))) (Nat.le_trans (Nat.le_trans (Nat.le_add_left _ _) hs.b2) (Nat.le_trans hB (by decide))) (hs.getD (Nat.le_trans hB (by decide)))
theorem renameC (h : CabAt w p c D) (ok : COk B c) (hB : B ≤ 90000) (k b : Txt) (hk : k.length ≤ maxLen) (hb : b.length ≤ maxLen) :
    Calls Tryd.prog 22 #[.pointer (some ⟨p, 0, none⟩), .string (str k), .string (str b)] w fun e w' => e = .returned (.int .i64 (c.renameTo k b).2) ∧ ∃ D', After w D p (c.renameTo k b).1 D' w' := by
  obtain ⟨r, hs⟩ := ok
  obtain ⟨a0, a1⟩ := hs.afters
  exact rename2_calls h k b hk hb a0 a1 (Nat.lt_of_le_of_lt hs.b3 (Nat.lt_of_le_of_lt hB (by decide))) (Nat.le_trans (Nat.le_trans (Nat.le_add_left _ _) hs.b2) (Nat.le_trans hB (by decide))) (hs.getD (Nat.le_trans hB (by decide)))
theorem turnC (h : CabAt w p c D) (ok : COk B c) (hB : B ≤ 90000) :
    Calls Tryd.prog 24 #[.pointer (some ⟨p, 0, none⟩)] w fun e w' => e = .returned (.int .i64 c.turn.2) ∧ ∃ D', After w D p c.turn.1 D' w' := by
  obtain ⟨r, hs⟩ := ok
  obtain ⟨a0, a1⟩ := hs.afters
  exact turn_calls h a0 a1 (Nat.le_trans hs.b1 (Nat.le_trans hB (by decide)))
theorem readC (h : CabAt w p c D) (ok : COk B c) (k : Txt) (hk : k.length ≤ maxLen) :
    Calls Tryd.prog 16 #[.pointer (some ⟨p, 0, none⟩), .string (str k)] w fun e w' => ∃ v', e = .returned (.tuple #[v', .int .i64 (c.read k).2]) ∧ Bytes w' v' (c.read k).1 ∧ (∀ q, v'.ownBlock = some q → w.heap.size ≤ q) ∧ Fr (fun _ => False) w w' := by
  obtain ⟨r, hs⟩ := ok
  exact read_calls h k hk hs.nnow (fun f hf => (hs.all f hf).1)
theorem namesC (h : CabAt w p c D) (ok : COk B c) (hB : B ≤ 90000) :
    Calls Tryd.prog 17 #[.pointer (some ⟨p, 0, none⟩)] w fun e w' => ∃ v', e = .returned (.tuple #[v', .int .i64 c.names.2]) ∧ Row w' 9 1 v' c.names.1.length (strV c.names.1) ∧ (∀ q, v'.ownBlock = some q → w.heap.size ≤ q) ∧ Fr (fun _ => False) w w' := by
  obtain ⟨r, hs⟩ := ok
  exact names_calls h (Nat.le_trans hs.b3 (by omega))
theorem crashC (h : CabAt w p c D) (ok : COk B c) (hB : B ≤ 90000) (n : Int) (n0 : -9223372036854775808 ≤ n) (n1 : n ≤ 9223372036854775807) (KV : Value) (keep : List Int) (hK : Src w 1 KV keep.length (keep.map (Value.int .i64))) (hKD : ∀ k, KV.ownBlock = some k → 0 < keep.length → ¬ D k) (turn : UInt8) :
    Calls Tryd.prog 15 #[.pointer (some ⟨p, 0, none⟩), .int .i64 n, KV, .int .u8 turn.toNat] w fun e w' => e = .returned (.tuple #[]) ∧ ∃ D', After w D p (c.crash n keep turn) D' w' := by
  obtain ⟨r, hs⟩ := ok
  exact crash_calls h (hs.crashOk (by omega)) n n0 n1 KV keep hK hKD turn
theorem failC (h : CabAt w p c D) (n : Int) :
    Calls Tryd.prog 14 #[.pointer (some ⟨p, 0, none⟩), .int .i64 n] w fun e w' => e = .returned (.tuple #[]) ∧ After w D p (c.fail n) D w' := by
  obtain ⟨fv, avs, nb, sb, wv, hi, hD, hlt⟩ := h
  refine (hi.fail n).mono fun e w' ⟨h1, h2, h3⟩ => ⟨h1, ⟨fv, avs, nb, sb, wv, h2, hD, fun k hk => Nat.lt_of_lt_of_le (hlt k hk) h3.size⟩, h3.mono fun k _ e => ?_, fun k hk => .inl hk⟩
  subst e
  exact hD _ (.inl rfl)
end
end Chart

/- segment.write, Create, Append. -/
namespace Chart
open Go Go.RowKit Go.Proofs

def Cab.swrite (c : Cab) (n : Nat) (b : Txt) : Cab × Int :=
  if 16384 < b.length then (c, 17)
  else if (c.append (segName n) (frameT b)).2 ≠ 0 then c.append (segName n) (frameT b)
  else (c.append (segName n) (frameT b)).1.sync (segName n)
def Cab.screate (c : Cab) (n : Nat) : Cab × Int :=
  if (c.create (segName n)).2 ≠ 0 then c.create (segName n)
  else if ((c.create (segName n)).1.swrite n (headT n)).2 ≠ 0 then (c.create (segName n)).1.swrite n (headT n)
  else ((c.create (segName n)).1.swrite n (headT n)).1.turn
theorem segName_length (n : Nat) : (segName n).length = 14 := by simp [segName, numberT_length]
theorem segName_max (n : Nat) : (segName n).length ≤ maxLen := by rw [segName_length]; decide
section
variable {w : World} {p : Nat} {D : Nat → Prop} {B : Nat} {c : Cab}
theorem COk.swrite (h : COk B c) (n : Nat) (b : Txt) : COk (B + 4) (c.swrite n b).1 := by
  unfold Cab.swrite
  split
  · exact h.mono (by omega)
  split
  · exact (h.append _ _).mono (by omega)
  · exact ((h.append _ _).sync _).mono (by omega)
theorem COk.screate (h : COk B c) (n : Nat) : COk (B + 8) (c.screate n).1 := by
  unfold Cab.screate
  split
  · exact (h.create _).mono (by omega)
  split
  · exact ((h.create _).swrite _ _).mono (by omega)
  · exact ((h.create _).swrite _ _).turn.mono (by omega)
theorem frameT_pos (b : Txt) : 0 < (frameT b).length := by rw [frameT_length]; omega

set_option maxRecDepth 100000 in
set_option maxHeartbeats 2000000 in
theorem swrite_calls (h : CabAt w p c D) (ok : COk B c) (hB : B ≤ 80000) (n : Nat) (hn : n < 18446744073709551616) (b : Txt) (V : Value) (hV : BytesSrc w V b) :
    Calls Tryd.prog 55 #[.pointer (some ⟨p, 0, none⟩), .int .u64 n, V] w fun e w' => e = .returned (.int .i64 (c.swrite n b).2) ∧ ∃ D', After w D p (c.swrite n b).1 D' w' := by
  have HF := Lib.hid (frameput_calls V b w hV)
  have HN := Lib.hid (fun w => segname_calls n w hn)
  have hlt : ∀ k, D k → k < w.heap.size := fun _ => h.below
  unfold Cab.swrite
  by_cases hl : 16384 < b.length
  · rw [if_pos hl]
    have HF2 := HF.out
    rw [if_pos hl, if_pos hl] at HF2
    have HF3 := Lib.hid HF2
    clear hV HF HF2
    go_enter Tryd.func55, Tryd.ntmps55
    go_wp2_with (go_at_call 82; refine HF3.out.mono ?_; rintro e w1 ⟨v, rfl, -, -, f1⟩)
    go_ret
    exact ⟨rfl, D, h.fr f1 fun _ _ => id, f1.mono fun _ _ h => h.elim, fun _ h => .inl h⟩
  · rw [if_neg hl]
    have HF2 := HF.out
    rw [if_neg hl, if_neg hl] at HF2
    have HF3 := Lib.hid HF2
    clear hV HF HF2
    by_cases ha : (c.append (segName n) (frameT b)).2 = 0
    · have ha' : ¬ (c.append (segName n) (frameT b)).2 ≠ 0 := by omega
      rw [if_neg ha']
      have HA := Lib.hid ha
      have HOK := Lib.hid ok
      have HH := Lib.hid h
      clear ha ha' h ok
      go_enter Tryd.func55, Tryd.ntmps55
      go_wp2_with fail
      refine HF3.out.mono ?_
      rintro e w1 ⟨v, rfl, hb, hq, f1⟩
      have HB1 := Lib.hid hb
      have HQ := Lib.hid hq
      have HF1 := Lib.hid f1
      clear hb hq f1
      go_wp2_with fail
      refine (HN.out _).mono ?_
      rintro e w2 ⟨rfl, f2⟩
      have HF2 := Lib.hid (HF1.out.trans f2 fun _ h => h.elim)
      have HB2 := Lib.hid (HB1.out.fr f2 fun _ _ => id)
      clear f2
      go_wp2_with fail
      refine (appendC (HH.out.fr HF2.out fun _ _ => id) HOK.out (by omega) (segName n) (segName_max n) (frameT b) v HB2.out.src (fun k hk _ hd => by have := HQ.out k hk; have := hlt k hd; omega)).mono ?_
      rintro e w3 ⟨rfl, D3, h3⟩
      rw [HA.out]
      have H3 := Lib.hid h3
      clear h3
      go_wp2_with fail
      refine (HN.out _).mono ?_
      rintro e w4 ⟨rfl, f4⟩
      have HF4 := Lib.hid f4
      clear f4
      go_wp2_with fail
      refine (syncC (H3.out.at_.fr HF4.out fun _ _ => id) (HOK.out.append _ _) (segName n) (segName_max n)).mono ?_
      rintro e w5 ⟨rfl, D5, h5⟩
      have H5 := Lib.hid h5
      clear h5
      go_wp2_with fail
      go_ret
      have hA0 : After w D p c D w2 := ⟨HH.out.fr HF2.out fun _ _ => id, HF2.out.mono fun _ _ h => h.elim, fun _ h => .inl h⟩
      have hA3 := hA0.trans H3.out
      have hA4 : After w3 D3 p (c.append (segName n) (frameT b)).1 D3 w4 := ⟨H3.out.at_.fr HF4.out fun _ _ => id, HF4.out.mono fun _ _ h => h.elim, fun _ h => .inl h⟩
      exact ⟨rfl, D5, (hA3.trans hA4).trans H5.out⟩
    · rw [if_pos ha]
      have hne : ¬ (c.append (segName n) (frameT b)).2 = 0 := ha
      have HOK := Lib.hid ok
      have HH := Lib.hid h
      clear h ok ha
      go_enter Tryd.func55, Tryd.ntmps55
      go_wp2_with fail
      refine HF3.out.mono ?_
      rintro e w1 ⟨v, rfl, hb, hq, f1⟩
      have HB1 := Lib.hid hb
      have HQ := Lib.hid hq
      have HF1 := Lib.hid f1
      clear hb hq f1
      go_wp2_with fail
      refine (HN.out _).mono ?_
      rintro e w2 ⟨rfl, f2⟩
      have HF2 := Lib.hid (HF1.out.trans f2 fun _ h => h.elim)
      have HB2 := Lib.hid (HB1.out.fr f2 fun _ _ => id)
      clear f2
      go_wp2_with fail
      refine (appendC (HH.out.fr HF2.out fun _ _ => id) HOK.out (by omega) (segName n) (segName_max n) (frameT b) v HB2.out.src (fun k hk _ hd => by have := HQ.out k hk; have := hlt k hd; omega)).mono ?_
      rintro e w3 ⟨rfl, D3, h3⟩
      have H3 := Lib.hid h3
      clear h3
      go_wp2_with fail
      go_ret
      have hA0 : After w D p c D w2 := ⟨HH.out.fr HF2.out fun _ _ => id, HF2.out.mono fun _ _ h => h.elim, fun _ h => .inl h⟩
      exact ⟨rfl, D3, hA0.trans H3.out⟩
theorem After.quiet {w w' : World} {p : Nat} {c : Cab} {D : Nat → Prop} (h : CabAt w p c D) (hf : Fr (fun _ => False) w w') : After w D p c D w' :=
  ⟨h.fr hf fun _ _ => id, hf.mono fun _ _ h => h.elim, fun _ h => .inl h⟩
theorem After.on {w w1 w2 : World} {p : Nat} {c1 : Cab} {D D1 : Nat → Prop} (h : After w D p c1 D1 w1) (hf : Fr (fun _ => False) w1 w2) : After w D p c1 D1 w2 := h.trans (After.quiet h.at_ hf)
set_option maxRecDepth 100000 in
set_option maxHeartbeats 2000000 in
theorem screate_calls (h : CabAt w p c D) (ok : COk B c) (hB : B ≤ 70000) (n : Nat) (hn : n < 18446744073709551616) :
    Calls Tryd.prog 26 #[.pointer (some ⟨p, 0, none⟩), .int .u64 n] w fun e w' => e = .returned (.int .i64 (c.screate n).2) ∧ ∃ D', After w D p (c.screate n).1 D' w' := by
  have HN := Lib.hid (fun w => segname_calls n w hn)
  have HHD := Lib.hid (fun w => head_calls n w hn)
  have HH := Lib.hid h
  have HOK := Lib.hid ok
  unfold Cab.screate
  by_cases h1 : (c.create (segName n)).2 = 0
  · rw [if_neg (by omega)]
    have H1 := Lib.hid h1
    by_cases h2 : ((c.create (segName n)).1.swrite n (headT n)).2 = 0
    · rw [if_neg (by omega)]
      have H2 := Lib.hid h2
      clear h1 h2 h ok
      go_enter Tryd.func26, Tryd.ntmps26
      go_wp2_with fail
      refine (HN.out _).mono ?_
      rintro e w1 ⟨rfl, f1⟩
      have A1 := Lib.hid (After.quiet HH.out f1)
      clear f1
      go_wp2_with fail
      refine (createC A1.out.at_ HOK.out (by omega) (segName n) (segName_max n)).mono ?_
      rintro e w2 ⟨rfl, D2, h2⟩
      rw [H1.out]
      have A2 := Lib.hid (A1.out.trans h2)
      clear h2
      go_wp2_with fail
      refine (HHD.out _).mono ?_
      rintro e w3 ⟨v, rfl, hb, hq, f3⟩
      have HB := Lib.hid hb
      have HQ := Lib.hid hq
      have A3 := Lib.hid (A2.out.on f3)
      clear hb hq f3
      go_wp2_with fail
      refine (swrite_calls A3.out.at_ (HOK.out.create _) (by omega) n hn (headT n) v HB.out.src).mono ?_
      rintro e w4 ⟨rfl, D4, h4⟩
      rw [H2.out]
      have A4 := Lib.hid (A3.out.trans h4)
      clear h4
      go_wp2_with fail
      refine (turnC A4.out.at_ ((HOK.out.create _).swrite _ _) (by omega)).mono ?_
      rintro e w5 ⟨rfl, D5, h5⟩
      have A5 := Lib.hid (A4.out.trans h5)
      clear h5
      go_wp2_with fail
      go_ret
      exact ⟨rfl, D5, A5.out⟩
    · rw [if_pos h2]
      clear h1 h ok
      go_enter Tryd.func26, Tryd.ntmps26
      go_wp2_with fail
      refine (HN.out _).mono ?_
      rintro e w1 ⟨rfl, f1⟩
      have A1 := Lib.hid (After.quiet HH.out f1)
      clear f1
      go_wp2_with fail
      refine (createC A1.out.at_ HOK.out (by omega) (segName n) (segName_max n)).mono ?_
      rintro e w2 ⟨rfl, D2, h2⟩
      rw [H1.out]
      have A2 := Lib.hid (A1.out.trans h2)
      clear h2
      go_wp2_with fail
      refine (HHD.out _).mono ?_
      rintro e w3 ⟨v, rfl, hb, hq, f3⟩
      have HB := Lib.hid hb
      have HQ := Lib.hid hq
      have A3 := Lib.hid (A2.out.on f3)
      clear hb hq f3
      go_wp2_with fail
      refine (swrite_calls A3.out.at_ (HOK.out.create _) (by omega) n hn (headT n) v HB.out.src).mono ?_
      rintro e w4 ⟨rfl, D4, h4⟩
      have A4 := Lib.hid (A3.out.trans h4)
      clear h4
      go_wp2_with fail
      go_ret
      exact ⟨rfl, D4, A4.out⟩
  · rw [if_pos h1]
    clear h ok
    go_enter Tryd.func26, Tryd.ntmps26
    go_wp2_with fail
    refine (HN.out _).mono ?_
    rintro e w1 ⟨rfl, f1⟩
    have A1 := Lib.hid (After.quiet HH.out f1)
    clear f1
    go_wp2_with fail
    refine (createC A1.out.at_ HOK.out (by omega) (segName n) (segName_max n)).mono ?_
    rintro e w2 ⟨rfl, D2, h2⟩
    have A2 := Lib.hid (A1.out.trans h2)
    clear h2
    go_wp2_with fail
    go_ret
    exact ⟨rfl, D2, A2.out⟩
set_option maxHeartbeats 1000000 in
theorem sappend_calls (h : CabAt w p c D) (ok : COk B c) (hB : B ≤ 70000) (n : Nat) (hn : n < 18446744073709551616) (b : Txt) (V : Value) (hV : BytesSrc w V b) :
    Calls Tryd.prog 28 #[.pointer (some ⟨p, 0, none⟩), .int .u64 n, V] w fun e w' => e = .returned (.int .i64 (c.swrite n b).2) ∧ ∃ D', After w D p (c.swrite n b).1 D' w' := by
  have HS := Lib.hid (swrite_calls h ok (by omega) n hn b V hV)
  clear h ok hV
  go_enter Tryd.func28, Tryd.ntmps28
  go_wp2_with fail
  refine HS.out.mono ?_
  rintro e w1 ⟨rfl, D1, h1⟩
  have H1 := Lib.hid h1
  clear h1
  go_wp2_with fail
  go_ret
  exact ⟨rfl, D1, H1.out⟩
end
end Chart

/- bits.Get of four bytes; slices.Equal of bytes; frame.First. -/
namespace Chart
open Go Go.RowKit Go.Proofs

def getN (n : Nat) : Txt → Nat
  | [] => n
  | b :: t => getN (n * 256 + b.toNat) t
theorem getN_append (n : Nat) (a b : Txt) : getN n (a ++ b) = getN (getN n a) b := by
  induction a generalizing n with
  | nil => rfl
  | cons x t ih => exact ih _
theorem getN_snoc (n : Nat) (l : Txt) (k : Nat) (b : UInt8) (h : l[k]? = some b) : getN n (l.take (k + 1)) = getN n (l.take k) * 256 + b.toNat := by
  rw [List.take_add_one, h, getN_append]
  rfl
theorem getN_lt (l : Txt) : ∀ (n : Nat) (k : Nat), n < 256 ^ k → getN n l < 256 ^ (k + l.length) := by
  induction l with
  | nil => intro n k h; simpa [getN] using h
  | cons b t ih =>
    intro n k h
    have := ih (n * 256 + b.toNat) (k + 1) (by have := UInt8.toNat_lt b; rw [Nat.pow_succ]; omega)
    simp only [getN, List.length_cons]
    rwa [show k + (t.length + 1) = k + 1 + t.length by omega]
theorem or_byte (x : Nat) (b : UInt8) (hx : x < 72057594037927936) : bits BinOp.or IntKind.u64 ((x : Int) * 256) (b.toNat : Int) = ((x * 256 + b.toNat : Nat) : Int) := by
  have hb := UInt8.toNat_lt b
  have h := u64_or_nat (x * 256) b.toNat (by omega) (by omega)
  have e : x * 256 ||| b.toNat = x * 256 + b.toNat := by
    have := Nat.shiftLeft_add_eq_or_of_lt (i := 8) (b := b.toNat) (by omega) x
    rw [Nat.shiftLeft_eq] at this
    exact this.symm
  rw [e] at h
  rw [← h]
  rw [Int.natCast_mul]
  rfl
set_option maxRecDepth 100000 in
set_option maxHeartbeats 1000000 in
theorem get4_calls (V : Value) (l : Txt) (w : World) (hV : BytesSrc w V l) (hl : l.length = 4) :
    Calls Tryd.prog 104 #[V] w fun e w' => e = .returned (.tuple #[.int .u64 (getN 0 l : Nat), .int .i64 0]) ∧ w = w' := by
  obtain ⟨-, A, cp, rfl, hvc, hcm, hA, hcell⟩ := id hV
  obtain ⟨a, rfl⟩ : ∃ a, A = some a := by
    cases A with
    | none => have := (hA rfl).1; omega
    | some a => exact ⟨a, rfl⟩
  have hcells := hcell a rfl
  rw [hl] at hvc ⊢
  have HV := Lib.hid hcells
  have HL := Lib.hid hl
  have hcm2 : cp ≤ 9223372036854775807 := by simp only [maxLen] at hcm; omega
  clear hV hcell hA hl hcells
  go_enter Tryd.func104, Tryd.ntmps104
  go_wp2
  go_loop [4, 17] (fun u i => ∃ k : Nat, k ≤ 4 ∧ i = .int .i64 k ∧ u = .int .u64 (getN 0 (l.take k) : Nat)) (fun _ i => 4 - (RowKit.intOf i).toNat)
  case atStart => exact ⟨0, Nat.zero_le _, rfl, by rw [List.take_zero]; rfl⟩
  case round =>
    obtain ⟨k, hk, rfl, rfl⟩ := hrel
    by_cases hlt : k < 4
    · have hxl : getN 0 (l.take k) < 16777216 := by
        have h9 := getN_lt (l.take k) 0 0 (by decide)
        rw [List.length_take, HL.out, Nat.min_eq_left (by omega), Nat.zero_add] at h9
        have : 256 ^ k ≤ 256 ^ 3 := Nat.pow_le_pow_right (by decide) (by omega)
        omega
      obtain ⟨b, hb⟩ : ∃ b, l[k]? = some b := ⟨_, List.getElem?_eq_getElem (by have := HL.out; omega)⟩
      have c0 := HV.out k (bv b) (by unfold bytesV; rw [List.getElem?_map, hb]; rfl)
      have hs := getN_snoc 0 l k b hb
      have hbl := UInt8.toNat_lt b
      unfold bv at c0
      have HS := Lib.hid hs
      generalize getN 0 (l.take k) = x at *
      clear hb hs
      go_wp2
      refine ⟨⟨k + 1, by omega, by go_num, ?_⟩, by simp [RowKit.intOf]; omega⟩
      rw [HS.out, or_byte x b (by omega)]
    · obtain rfl : k = 4 := by omega
      have HL2 := HL.out
      rw [List.take_of_length_le (by omega)]
      clear HL2
      go_wp2
      go_ret2
      exact ⟨rfl, rfl⟩

theorem equalB_snoc (a b : Txt) (k : Nat) (x y : UInt8) (ha : a[k]? = some x) (hb : b[k]? = some y) (h : a.take k = b.take k) : (a.take (k + 1) = b.take (k + 1)) ↔ x = y := by
  rw [List.take_add_one, List.take_add_one, ha, hb, h]
  simp
set_option maxRecDepth 100000 in
set_option maxHeartbeats 2000000 in
theorem equalb_calls (V1 V2 : Value) (l1 l2 : Txt) (w : World) (h1 : BytesSrc w V1 l1) (h2 : BytesSrc w V2 l2) :
    Calls Tryd.prog 61 #[V1, V2] w fun e w' => e = .returned (.bool (decide (l1 = l2))) ∧ Fr (fun _ => False) w w' := by
  obtain ⟨-, A1, c1, rfl, hvc1, hcm1, hA1, hcell1⟩ := id h1
  obtain ⟨-, A2, c2, rfl, hvc2, hcm2, hA2, hcell2⟩ := id h2
  have hm1 : c1 ≤ 9223372036854775807 := by simp only [maxLen] at hcm1; omega
  have hm2 : c2 ≤ 9223372036854775807 := by simp only [maxLen] at hcm2; omega
  by_cases hl : l1.length = l2.length
  · have hne : ¬ ((l1.length : Nat) : Int) ≠ (l2.length : Int) := by omega
    have hb : ((l1.length : Int) != (l2.length : Int)) = false := by simp; omega
    have HC1 := Lib.hid hcell1
    have HC2 := Lib.hid hcell2
    have HA1 := Lib.hid hA1
    have HA2 := Lib.hid hA2
    have HL := Lib.hid hl
    clear h1 h2 hcell1 hcell2 hA1 hA2 hl hne
    go_enter Tryd.func61, Tryd.ntmps61
    go_wp2
    go_loopw [13] (fun i wr => ∃ k : Nat, k ≤ l1.length ∧ i = .int .i64 k ∧ l1.take k = l2.take k ∧ Fr (fun _ => False) w wr) (fun i _ => l1.length - (RowKit.intOf i).toNat)
    case atStart => exact ⟨0, Nat.zero_le _, rfl, rfl, Fr.refl _ _⟩
    case round =>
      obtain ⟨k, hk, rfl, htk, hfr⟩ := hrel
      by_cases hlt : k < l1.length
      · obtain ⟨a1, rfl⟩ : ∃ a, A1 = some a := by
          cases A1 with
          | none => have := (HA1.out rfl).1; omega
          | some a => exact ⟨a, rfl⟩
        obtain ⟨a2, rfl⟩ : ∃ a, A2 = some a := by
          cases A2 with
          | none => have := (HA2.out rfl).1; have := HL.out; omega
          | some a => exact ⟨a, rfl⟩
        obtain ⟨x, hx⟩ : ∃ x, l1[k]? = some x := ⟨_, List.getElem?_eq_getElem hlt⟩
        obtain ⟨y, hy⟩ : ∃ y, l2[k]? = some y := ⟨_, List.getElem?_eq_getElem (by have := HL.out; omega)⟩
        have d1 := hfr.cell (HC1.out a1 rfl k (bv x) (by unfold bytesV; rw [List.getElem?_map, hx]; rfl)) id
        have d2 := hfr.cell (HC2.out a2 rfl k (bv y) (by unfold bytesV; rw [List.getElem?_map, hy]; rfl)) id
        have hsn := equalB_snoc l1 l2 k x y hx hy htk
        have hlt2 : k < l2.length := by have := HL.out; omega
        unfold bv at d1 d2
        have HTK := Lib.hid htk
        have HSN := Lib.hid hsn
        clear hx hy htk hsn
        have hlti : (k : Int) < (l1.length : Int) := by omega
        have hlti2 : (k : Int) < (l2.length : Int) := by omega
        by_cases hxy : x = y
        · have hq : ((x.toNat : Int) != (y.toNat : Int)) = false := by rw [hxy]; simp
          have HXY := Lib.hid hxy
          clear hxy
          go_wp2
          go_quiet (fail)
          go_wp2
          refine ⟨⟨k + 1, by omega, by go_num, HSN.out.2 HXY.out, hfr.drewN _⟩, by simp [RowKit.intOf]; omega⟩
        · have hq : ((x.toNat : Int) != (y.toNat : Int)) = true := by
            have : x.toNat ≠ y.toNat := fun h => hxy (UInt8.toNat_inj.1 h)
            simp
            omega
          go_wp2
          go_quiet (fail)
          go_wp2
          go_ret
          have hd : decide (l1 = l2) = false := by
            rw [decide_eq_false_iff_not]
            rintro rfl
            exact hxy (HSN.out.1 rfl)
          rw [hd]
          exact ⟨rfl, hfr.drewN _⟩
      · obtain rfl : k = l1.length := by omega
        have hd : decide (l1 = l2) = true := by
          rw [decide_eq_true_iff]
          rw [List.take_length, List.take_of_length_le (by have := HL.out; omega)] at htk
          exact htk
        have HD := Lib.hid hd
        clear htk hd
        go_wp2
        go_ret
        rw [HD.out]
        exact ⟨rfl, hfr⟩
  · have hd : decide (l1 = l2) = false := by
      rw [decide_eq_false_iff_not]
      rintro rfl
      exact hl rfl
    rw [hd]
    have hb : ((l1.length : Int) != (l2.length : Int)) = true := by simp; omega
    clear h1 h2 hcell1 hcell2 hA1 hA2 hl hd
    go_enter Tryd.func61, Tryd.ntmps61
    go_wp2
    go_ret
    exact ⟨rfl, Fr.refl _ _⟩
end Chart
