/- Create. -/
import Derived.Test.YtophgamjhngppaaDoorCabI
namespace Chart
open Go Go.RowKit Go.Proofs

section
variable {w w' w2 : World} {p : Nat} {c : Cab} {fv : Value} {avs : List Value} {nb sb : Nat} {wv : Value} {D : Nat → Prop}

theorem create_mid (h : CabIn w p c fv avs nb sb wv) {v' : Value} (F : Fr (fun k => fv.ownBlock = some k) w w2) (hrow : Row w2 102 2 v' (c.files.length + 1) (fileCells avs c.files ++ [.slice none 0 0, .int .i64 0]))
    : CabIn (w2.setCell ⟨p, 1, none⟩ v') p { c with files := c.files ++ [⟨[], 0⟩] } v' (avs ++ [.slice none 0 0]) nb sb wv := by
  have e1 : ¬ fv.ownBlock = some p := fun e => h.files.ne_blk h.blk (by decide) e
  have b2 := h.blk.fr F e1
  exact {
    blk := b2.set 1 v'
    files := by
      have e := fileCells_snoc avs c.files (.slice none 0 0) ⟨[], 0⟩ h.len
      have e0 : ((0 : Nat) : Int) = 0 := rfl
      simp only [e0] at e
      have := hrow.far (p := ⟨p, 1, none⟩) (fun e => hrow.ne_blk b2 (by decide) e) v'
      rw [← e] at this
      simpa using this
    len := by simp [h.len]
    bytes := fun i f hf => by
      rw [List.getElem?_append] at hf ⊢
      have hl := h.len
      by_cases hi : i < c.files.length
      · rw [if_pos hi] at hf
        rw [if_pos (by omega)]
        obtain ⟨v, hv, hr⟩ := h.bytes i f hf
        exact ⟨v, hv, (hr.fr F fun k hk e => hr.ne_row h.files (by decide) hk e).far (fun e => hr.ne_blk h.blk (by decide) e) _⟩
      · rw [if_neg hi] at hf
        rw [if_neg (by omega)]
        have h0 : i - c.files.length = 0 := by
          rcases Nat.eq_zero_or_pos (i - c.files.length) with h | h
          · exact h
          · rw [List.getElem?_eq_none (by simp; omega)] at hf
            cases hf
        rw [h0] at hf
        rw [hl, h0]
        simp at hf
        subst hf
        exact ⟨_, rfl, Row.nil _ _ _⟩
    apart := fun i j v u k hv hu hne hk => by
      rw [List.getElem?_append] at hv hu
      by_cases hi : i < avs.length
      · rw [if_pos hi] at hv
        by_cases hj : j < avs.length
        · rw [if_pos hj] at hu
          exact h.apart i j v u k hv hu hne hk
        · rw [if_neg hj] at hu
          intro e
          have := List.mem_of_getElem? hu
          simp at this
          subst this
          simp [Value.ownBlock] at e
      · rw [if_neg hi] at hv
        have := List.mem_of_getElem? hv
        simp at this
        subst this
        simp [Value.ownBlock] at hk
    now := (h.now.fr F fun e => h.files.ne_map h.now e).far (Ne.symm (h.blk.ne_map h.now)) _
    sure := (h.sure.fr F fun e => h.files.ne_map h.sure e).far (Ne.symm (h.blk.ne_map h.sure)) _
    two := h.two
    waiting := (h.waiting.fr F fun k hk e => h.waiting.ne_row h.files (by decide) hk e).far (fun e => h.waiting.ne_blk h.blk (by decide) e) _ }

theorem create_end (h : CabIn w p c fv avs nb sb wv) (hD : ∀ k, CabOwn p fv avs nb sb wv k → D k) {v' : Value} (F : Fr (fun k => fv.ownBlock = some k) w w2) (hrow : Row w2 102 2 v' (c.files.length + 1) (fileCells avs c.files ++ [.slice none 0 0, .int .i64 0]))
    (hv' : ∀ k, v'.ownBlock = some k → fv.ownBlock = some k ∨ w.heap.size ≤ k) : ∃ D', After w D p { c with files := c.files ++ [⟨[], 0⟩] } D' (w2.setCell ⟨p, 1, none⟩ v') := by
  have hm := create_mid h F hrow
  refine ⟨_, ⟨_, _, nb, sb, wv, hm, fun _ h => h, hm.lt⟩, ?_, ?_⟩
  · exact (F.mono fun k _ e => hD k (.inr (.inl e))).setCell (p := ⟨p, 1, none⟩) (.inl (hD _ (.inl rfl))) _
  · rintro k (rfl | hk | ⟨v, hv, hk⟩ | rfl | rfl | hk)
    · exact .inl (hD _ (.inl rfl))
    · rcases hv' k hk with h | h
      · exact .inl (hD _ (.inr (.inl h)))
      · exact .inr h
    · rcases List.mem_append.1 hv with h | h
      · exact .inl (hD _ (.inr (.inr (.inl ⟨v, h, hk⟩))))
      · simp at h
        subst h
        cases hk
    · exact .inl (hD _ (.inr (.inr (.inr (.inl rfl)))))
    · exact .inl (hD _ (.inr (.inr (.inr (.inr (.inl rfl))))))
    · exact .inl (hD _ (.inr (.inr (.inr (.inr (.inr hk))))))

theorem two_one : ∀ u ∈ (#[.slice none 0 0, .int .i64 0] : Array Value).toList, u.oneCell' = true := by
  intro u hu
  simp at hu
  rcases hu with rfl | rfl <;> rfl

set_option maxRecDepth 100000 in
set_option maxHeartbeats 4000000 in
theorem create_yes (h : CabAt w p c D) (k : Txt) (hk : k.length ≤ maxLen) (a0 : -1 ≤ c.after) (a1 : c.after ≤ 9223372036854775807) (hn : c.now.length < 4096) (hw : c.waiting.length ≤ 1000000) (hfl : c.files.length ≤ 1000000) (hv : ∀ k, (c.now.get? k).getD 0 ≤ 9223372036854775807) (ho : c.off = false) (hno : Cab.nameOk k = true)
    (hg : c.now.get? k = none) :
    Calls Tryd.prog 19 #[.pointer (some ⟨p, 0, none⟩), .string (str k)] w fun e w' => e = .returned (.int .i64 (c.create k).2) ∧ ∃ D', After w D p (c.create k).1 D' w' := by
  have hr := h.ready
  rw [ho] at hr
  have hs := fun (w1 : World) (h1 : CabAt w1 p c D) => h1.spend a0 a1
  have hnm := fun w => name_calls k w (by simpa [maxLen] using hk)
  rw [hno] at hnm
  obtain ⟨fv, avs, nb, sb, wv, hi, hD, hlt⟩ := id h
  obtain ⟨_, _, k2, _, _, _, _⟩ := hi.cells
  have hnow := hi.now
  have HA := Lib.hid h
  have HR := Lib.hid hr
  have HNm := Lib.hid hnm
  have HG := Lib.hid hg
  obtain ⟨i0, hi0, hz0, hz1, hz2⟩ := info_parts file_info
  rcases spend_cases c with ⟨e2, e1⟩ | ⟨e2, a, e1⟩
  · have ht : c.create k = (c.spend.1, 11) := by unfold Cab.create; simp [ho, hno, hg, e2, show ¬ 4096 ≤ c.now.length by omega]; rw [← e2]
    rw [ht]
    simp only [e2] at hs
    have HS := Lib.hid hs
    have HVV := Lib.hid hv
    clear hs hr hnm ht e1 e2 h ho hno hg hlt hv
    go_enter Tryd.func19, Tryd.ntmps19
    go_wp2_with (first
      | (go_at_call 51; refine HR.out.mono ?_; rintro e w' ⟨rfl, rfl⟩)
      | (go_at_call 52; refine (HNm.out _).mono ?_; rintro e w1 ⟨rfl, hF1⟩; have q2 := hF1.cell k2 id; have hnow1 := hnow.fr hF1 id)
      | (at_lookup; refine wpList_look_ok _ rfl _ _ 77 rfl 9 3 Tryd.underlying9 Tryd.underlying77 Tryd.underlying3 (zero_int _) nb c.now rfl hnow1 k rfl hk ?_; rw [HG.out])
      | (at_len; refine wpList_size _ rfl _ 77 rfl 9 3 Tryd.underlying77 nb c.now rfl hnow1 ?_)
      | (go_at_call 53; refine (HS.out _ (HA.out.fr hF1 (fun _ _ => id))).mono ?_; rintro e w2 ⟨rfl, hA1⟩))
    go_ret
    exact ⟨rfl, _, (After.mk (HA.out.fr hF1 (fun _ _ => id)) (hF1.mono fun _ _ h => h.elim) fun _ h => .inl h).trans hA1⟩
  · have ht : c.create k = (({ c.spend.1 with files := c.spend.1.files ++ [FileS.mk [] 0] } : Cab).rename ⟨0, [], k, c.spend.1.files.length⟩, 0) := by unfold Cab.create; simp [ho, hno, hg, e2, show ¬ 4096 ≤ c.now.length by omega]
    rw [ht]
    simp only [e2] at hs
    have HS := Lib.hid hs
    have HE := Lib.hid e1
    have HVV := Lib.hid hv
    clear hs hr hnm ht e1 e2 h ho hno hg hlt hv
    go_enter Tryd.func19, Tryd.ntmps19
    go_wp2_with (first
      | (go_at_call 51; refine HR.out.mono ?_; rintro e w' ⟨rfl, rfl⟩)
      | (go_at_call 52; refine (HNm.out _).mono ?_; rintro e w1 ⟨rfl, hF1⟩; have q2 := hF1.cell k2 id; have hnow1 := hnow.fr hF1 id)
      | (at_lookup; refine wpList_look_ok _ rfl _ _ 77 rfl 9 3 Tryd.underlying9 Tryd.underlying77 Tryd.underlying3 (zero_int _) nb c.now rfl hnow1 k rfl hk ?_; rw [HG.out])
      | (at_len; refine wpList_size _ rfl _ 77 rfl 9 3 Tryd.underlying77 nb c.now rfl hnow1 ?_)
      | (go_at_call 53; refine (HS.out _ (HA.out.fr hF1 (fun _ _ => id))).mono ?_; rintro e w2 ⟨rfl, hA1⟩; obtain ⟨fv2, avs2, nb2, sb2, wv2, hi2, hD2, hlt2⟩ := hA1.at_; obtain ⟨A2, cp2, rfl, _, _⟩ := hi2.files.shape; have r1 : w2.cell? ⟨p, 1, none⟩ = some (.slice A2 c.spend.1.files.length cp2) := hi2.blk.cell 1; have hl2 : c.spend.1.files.length ≤ 1000000 := (by rw [HE.out]; exact hfl); have hpl2 := hi2.blk.lt)
      | (at_builtin; refine wpList_append_row _ rfl (.tmp 42) (.tmp 44) 78 rfl 102 i0 _ 2 32 Tryd.underlying78 hi0 hz0 hz1 hz2 rfl (by decide) (.slice A2 c.spend.1.files.length cp2) c.spend.1.files.length (fileCells avs2 c.spend.1.files) rfl (hi2.files.alloc _) _ 1 _ rfl (Row.made w2 102 2 1 #[.slice none 0 0, .int .i64 0] rfl (by decide)).src two_one (by simp only [maxLen]; omega) (by omega) ?_; intro v3 w3 hrow3 hfr3 hwh3; obtain ⟨A3, cp3, rfl, _, _⟩ := hrow3.shape; have hb3 := (hi2.blk.alloc _).fr hfr3 (fun e => hi2.files.ne_blk hi2.blk (by decide) e); have s1 : w3.cell? ⟨p, 1, none⟩ = some (.slice A2 c.spend.1.files.length cp2) := hb3.cell 1; have sf := hb3.frozen 1))
    have F3 : Fr (fun q => (Value.slice A2 c.spend.1.files.length cp2).ownBlock = some q) w2 w3 := ((Fr.refl _ w2).alloc _).trans hfr3 fun i h => .inl h
    obtain ⟨D3, hA3⟩ := create_end hi2 hD2 F3 hrow3 fun q hq => by
      rcases hwh3 with h | h
      · exact .inl (by rw [← h]; exact hq)
      · rw [h] at hq
        injection hq with hq
        simp at hq
        exact .inr (by omega)
    refine (rename_calls hA3.at_ ⟨0, [], k, c.spend.1.files.length⟩ ?_ ?_ (Nat.zero_le _) (Nat.zero_le _) hk ?_ ?_).mono ?_
    · show c.spend.1.now.length < _
      rw [HE.out]; show c.now.length < _; omega
    · show c.spend.1.waiting.length ≤ _
      rw [HE.out]; exact hw
    · show c.spend.1.files.length ≤ _
      omega
    · show (c.spend.1.now.get? []).getD 0 ≤ _
      rw [HE.out]; exact HVV.out []
    rintro e w4 ⟨rfl, D4, hA4⟩
    go_wp2_with fail
    go_ret
    exact ⟨rfl, D4, (((After.mk (HA.out.fr hF1 (fun _ _ => id)) (hF1.mono fun _ _ h => h.elim) fun _ h => .inl h).trans hA1).trans hA3).trans hA4⟩

set_option maxRecDepth 100000 in
set_option maxHeartbeats 1000000 in
theorem create_calls (h : CabAt w p c D) (k : Txt) (hk : k.length ≤ maxLen) (a0 : -1 ≤ c.after) (a1 : c.after ≤ 9223372036854775807) (hw : c.waiting.length ≤ 1000000) (hfl : c.files.length ≤ 1000000) (hv : ∀ k, (c.now.get? k).getD 0 ≤ 9223372036854775807) :
    Calls Tryd.prog 19 #[.pointer (some ⟨p, 0, none⟩), .string (str k)] w fun e w' => e = .returned (.int .i64 (c.create k).2) ∧ ∃ D', After w D p (c.create k).1 D' w' := by
  have hr := h.ready
  have hnm := fun w => name_calls k w (by simpa [maxLen] using hk)
  cases ho : c.off
  · rw [ho] at hr
    have HR := Lib.hid hr
    cases hno : Cab.nameOk k
    · rw [hno] at hnm
      have ht : c.create k = (c, 6) := by unfold Cab.create; simp [ho, hno]
      rw [ht]
      have HNm := Lib.hid hnm
      have HA := Lib.hid h
      clear hnm hr h ht hno ho hv
      go_enter Tryd.func19, Tryd.ntmps19
      go_wp2_with (first
        | (go_at_call 51; refine HR.out.mono ?_; rintro e w' ⟨rfl, rfl⟩)
        | (go_at_call 52; refine (HNm.out _).mono ?_; rintro e w1 ⟨rfl, hF1⟩))
      go_ret
      exact ⟨rfl, D, HA.out.fr hF1 (fun _ _ => id), hF1.mono fun _ _ h => h.elim, fun _ h => .inl h⟩
    · cases hg : c.now.get? k with
      | none =>
        by_cases hn : c.now.length < 4096
        · exact create_yes h k hk a0 a1 hn hw hfl hv ho hno hg
        · rw [hno] at hnm
          have ht : c.create k = (c, 9) := by unfold Cab.create; simp [ho, hno, hg, show 4096 ≤ c.now.length by omega]
          rw [ht]
          have HNm := Lib.hid hnm
          obtain ⟨fv, avs, nb, sb, wv, hi, hD, hlt⟩ := id h
          obtain ⟨_, _, k2, _, _, _, _⟩ := hi.cells
          have hnow := hi.now
          have HA := Lib.hid h
          have HG := Lib.hid hg
          clear hnm hr h ht hno ho hg hv hlt
          go_enter Tryd.func19, Tryd.ntmps19
          go_wp2_with (first
            | (go_at_call 51; refine HR.out.mono ?_; rintro e w' ⟨rfl, rfl⟩)
            | (go_at_call 52; refine (HNm.out _).mono ?_; rintro e w1 ⟨rfl, hF1⟩; have q2 := hF1.cell k2 id; have hnow1 := hnow.fr hF1 id)
            | (at_lookup; refine wpList_look_ok _ rfl _ _ 77 rfl 9 3 Tryd.underlying9 Tryd.underlying77 Tryd.underlying3 (zero_int _) nb c.now rfl hnow1 k rfl hk ?_; rw [HG.out])
            | (at_len; refine wpList_size _ rfl _ 77 rfl 9 3 Tryd.underlying77 nb c.now rfl hnow1 ?_))
          go_ret
          exact ⟨rfl, D, HA.out.fr hF1 (fun _ _ => id), hF1.mono fun _ _ h => h.elim, fun _ h => .inl h⟩
      | some n =>
        rw [hno] at hnm
        have ht : c.create k = (c, 8) := by unfold Cab.create; simp [ho, hno, hg]
        rw [ht]
        have HNm := Lib.hid hnm
        obtain ⟨fv, avs, nb, sb, wv, hi, hD, hlt⟩ := id h
        obtain ⟨_, _, k2, _, _, _, _⟩ := hi.cells
        have hnow := hi.now
        have HA := Lib.hid h
        have HG := Lib.hid hg
        clear hnm hr h ht hno ho hg hv hlt
        go_enter Tryd.func19, Tryd.ntmps19
        go_wp2_with (first
          | (go_at_call 51; refine HR.out.mono ?_; rintro e w' ⟨rfl, rfl⟩)
          | (go_at_call 52; refine (HNm.out _).mono ?_; rintro e w1 ⟨rfl, hF1⟩; have q2 := hF1.cell k2 id; have hnow1 := hnow.fr hF1 id)
          | (at_lookup; refine wpList_look_ok _ rfl _ _ 77 rfl 9 3 Tryd.underlying9 Tryd.underlying77 Tryd.underlying3 (zero_int _) nb c.now rfl hnow1 k rfl hk ?_; rw [HG.out]))
        go_ret
        exact ⟨rfl, D, HA.out.fr hF1 (fun _ _ => id), hF1.mono fun _ _ h => h.elim, fun _ h => .inl h⟩
  · rw [ho] at hr
    have HR := Lib.hid hr
    have ht : c.create k = (c, 11) := by unfold Cab.create; simp [ho]
    rw [ht]
    have HA := Lib.hid h
    clear hnm hr h ht ho hv
    go_enter Tryd.func19, Tryd.ntmps19
    go_wp2_with (go_at_call 51; refine HR.out.mono ?_; rintro e w' ⟨rfl, rfl⟩)
    go_ret
    exact ⟨rfl, D, After.same HA.out⟩
end
end Chart
