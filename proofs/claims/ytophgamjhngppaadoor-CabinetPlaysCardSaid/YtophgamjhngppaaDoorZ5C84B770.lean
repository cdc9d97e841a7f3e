import Derived.Test.YtophgamjhngppaaDoorZE3E08527
/- The document's cabinet: power, without, with. -/
namespace Chart
open Go Go.RowKit Go.Proofs
attribute [local go_sem ↓] Go.wp_at_zero Go.wp_at_succ

theorem ent_info : (Tryd.prog.info? 128).map (fun i => (i.zero, i.size, i.bytes)) = some (some (.agg #[.string ⟨#[]⟩, .int .i64 0]), 2, 24) := by kernel_rfl
theorem ent_one (a : ByteArray) (b : Int) : ∀ u ∈ (#[.string a, .int .i64 b] : Array Value).toList, u.oneCell' = true := by
  intro u hu
  simp at hu
  rcases hu with rfl | rfl <;> rfl

theorem del_snoc (l : Folder) (k : Txt) (j : Nat) (y : Txt × Nat) (h : l[j]? = some y) : Folder.del (l.take (j + 1)) k = Folder.del (l.take j) k ++ (if y.1 = k then [] else [y]) := by
  rw [take_snoc' _ _ _ h]
  unfold Folder.del
  rw [List.filter_append]
  by_cases e : y.1 = k
  · simp [e]
  · simp [e]

set_option maxHeartbeats 2000000 in
theorem rwithout_calls (l : Folder) (v : Value) (k : Txt) (w : World) (h : Ents w v l) (hn : l.length ≤ 100000000) :
    Calls Tryd.prog 91 #[v, .string (str k)] w fun e w' => ∃ v', e = .returned v' ∧ Ents w' v' (l.del k) ∧ (∀ q, v'.ownBlock = some q → w.heap.size ≤ q) ∧ Fr (fun _ => False) w w' := by
  obtain ⟨A, cp, rfl, hcp, hcp2⟩ := h.shape
  obtain ⟨i0, hi0, hz0, hz1, hz2⟩ := info_parts ent_info
  have hle := h.le
  have H := Lib.hid h
  clear h
  go_enter Tryd.func91, Tryd.ntmps91
  go_wp2
  have hst : Ents (w.alloc (.cells #[] 128)) (.slice (some ⟨w.heap.size, 0, none⟩) 0 0) (Folder.del (l.take 0) k) := Row.made w 128 2 0 #[] rfl (Nat.zero_le _)
  have HST := Lib.hid hst
  clear hst
  go_loopw [5, 6] (fun o i wr => ∃ j : Nat, j ≤ l.length ∧ i = .int .i64 j ∧ Ents wr o (Folder.del (l.take j) k) ∧ (∀ q, o.ownBlock = some q → w.heap.size ≤ q) ∧ Fr (fun _ => False) w wr) (fun o i _ => l.length - (RowKit.intOf i).toNat)
  case atStart => exact ⟨0, Nat.zero_le _, rfl, HST.out, fun q hq => by simp [Value.ownBlock] at hq; omega, (Fr.refl (fun _ => False) w).alloc _⟩
  case round =>
    obtain ⟨j, hj, rfl, hrow, hown, hfr⟩ := hrel
    by_cases hlt : j < l.length
    · obtain ⟨⟨name, m⟩, hmem⟩ : ∃ y, l[j]? = some y := ⟨_, List.getElem?_eq_getElem hlt⟩
      have hL := H.out.fr hfr fun _ _ => id
      obtain ⟨g, cp', hv, _, _, hcell, _, _⟩ := hL.form (by omega)
      obtain ⟨rfl, rfl⟩ : A = some ⟨g, 0, none⟩ ∧ cp = cp' := by simpa using hv
      obtain ⟨d0, d1⟩ := entCells_get l j _ hmem
      have c0 := hcell _ _ d0
      have c1 := hcell _ _ d1
      simp only at c0 c1
      have hdl : (Folder.del (l.take j) k).length ≤ 100000000 := by
        have : (Folder.del (l.take j) k).length ≤ (l.take j).length := List.length_filter_le _ _
        rw [List.length_take] at this
        omega
      have hds := del_snoc l k j _ hmem
      simp only at hds
      have HM := Lib.hid hmem
      have HO := Lib.hid hown
      have HR := Lib.hid hrow
      clear hmem hv d0 d1 hcell hown hrow hL
      by_cases hk : name = k
      · have he := str_same hk
        rw [if_pos hk, List.append_nil] at hds
        have HD := Lib.hid hds
        clear hk hds
        go_wp2
        refine ⟨⟨j + 1, by omega, by go_num, ?_, HO.out, hfr⟩, by simp [RowKit.intOf]; omega⟩
        rw [HD.out]
        exact HR.out
      · have he := str_other hk
        rw [if_neg hk] at hds
        have HD := Lib.hid hds
        clear hk hds
        go_wp2_with (at_builtin; refine wpList_append_row _ rfl (.tmp 21) (.tmp 26) 83 rfl 128 i0 _ 2 24 Tryd.underlying83 hi0 hz0 hz1 hz2 rfl (by decide) u5 _ _ rfl (HR.out.alloc _) _ 1 _ rfl (Row.made wr 128 2 1 #[.string (str name), .int .i64 m] rfl (by decide)).src (ent_one _ _) (by simp only [maxLen]; omega) (by omega) ?_; intro v3 w3 hrow3 hfr3 hwh3)
        refine ⟨⟨j + 1, by omega, by go_num, ?_, ?_, (hfr.alloc _).trans hfr3 fun q hq => .inr (HO.out q hq)⟩, by simp [RowKit.intOf]; omega⟩
        · rw [HD.out]
          unfold Ents
          rw [entCells_append, List.length_append]
          exact hrow3
        · intro q hq
          rcases hwh3 with h | h
          · exact HO.out q (by rw [← h]; exact hq)
          · rw [h] at hq
            injection hq with hq
            have := hfr.size
            simp at hq
            omega
    · obtain rfl : j = l.length := by omega
      have HO := Lib.hid hown
      have HR := Lib.hid hrow
      clear hown hrow
      go_wp2
      go_ret
      refine ⟨_, rfl, ?_, HO.out, hfr⟩
      have := HR.out
      rw [List.take_length] at this
      exact this
theorem less_before : ∀ (a b : Txt), (!(Op.bytesLess a b || a == b)) = bytesBefore b a
  | [], [] => rfl
  | [], _ :: _ => rfl
  | _ :: _, [] => rfl
  | x :: r, y :: s => by
    have ih := less_before r s
    unfold Op.bytesLess bytesBefore
    by_cases h1 : x < y
    · have h2 : ¬ y < x := by rw [UInt8.lt_iff_toNat_lt] at h1 ⊢; omega
      have h3 : ¬ y = x := by rintro rfl; exact h2 h1
      have h4 : ¬ x = y := fun e => h3 e.symm
      simp [h1, h2, h3]
    · by_cases h2 : y < x
      · have h3 : ¬ y = x := by rintro rfl; exact h1 h2
        have h4 : ¬ x = y := fun e => h3 e.symm
        simp [h1, h2, h4]
      · have h3 : x = y := by
          apply UInt8.toNat_inj.1
          rw [UInt8.lt_iff_toNat_lt] at h1 h2
          omega
        subst h3
        simp
        rw [← ih]
        simp
end Chart

/- The document's cabinet: with. -/
namespace Chart
open Go Go.RowKit Go.Proofs
attribute [local go_sem ↓] Go.wp_at_zero Go.wp_at_succ

def rchgV (x : RChg) : Value := .agg #[.string (str x.old), .string (str x.name), .int .i64 x.file]

theorem str_emp {k : Txt} (h : k = []) : (str k).toList.isEmpty = true := by rw [List.isEmpty_iff, toList_nil]; exact h
theorem str_full {k : Txt} (h : ¬ k = []) : (str k).toList.isEmpty = false := by
  rw [Bool.eq_false_iff]
  intro e
  rw [List.isEmpty_iff, toList_nil] at e
  exact h e

/-- The list behind j rounds of with's loop. -/
def laidIn (k : Txt) (L : Folder) (j : Nat) : Bool := (L.take j).any fun y => bytesBefore k y.1
def insTo (k : Txt) (m : Nat) (L : Folder) (j : Nat) : Folder := if laidIn k L j = true then Folder.ins k m (L.take j) else L.take j
theorem ins_done (k : Txt) (m : Nat) (y : Txt × Nat) : ∀ t : Folder, (t.any fun y => bytesBefore k y.1) = true → Folder.ins k m (t ++ [y]) = Folder.ins k m t ++ [y]
  | [], h => by simp at h
  | z :: r, h => by
    simp only [List.cons_append, Folder.ins]
    by_cases hz : bytesBefore k z.1 = true
    · rw [if_pos hz, if_pos hz]
      rfl
    · rw [if_neg hz, if_neg hz]
      have : (r.any fun y => bytesBefore k y.1) = true := by simpa [hz] using h
      rw [ins_done k m y r this]
      rfl
theorem ins_none (k : Txt) (m : Nat) : ∀ t : Folder, (t.any fun y => bytesBefore k y.1) = false → Folder.ins k m t = t ++ [(k, m)]
  | [], _ => rfl
  | z :: r, h => by
    simp only [List.any_cons, Bool.or_eq_false_iff] at h
    simp only [Folder.ins, h.1, List.cons_append]
    rw [ins_none k m r h.2]
    rfl
theorem ins_here (k : Txt) (m : Nat) (y : Txt × Nat) (hy : bytesBefore k y.1 = true) : ∀ t : Folder, (t.any fun y => bytesBefore k y.1) = false → Folder.ins k m (t ++ [y]) = t ++ [(k, m)] ++ [y]
  | [], _ => by simp [Folder.ins, hy]
  | z :: r, h => by
    simp only [List.any_cons, Bool.or_eq_false_iff] at h
    simp only [Folder.ins, h.1, List.cons_append]
    rw [ins_here k m y hy r h.2]
    simp
theorem laidIn_snoc {k : Txt} {L : Folder} {j : Nat} {y : Txt × Nat} (h : L[j]? = some y) : laidIn k L (j + 1) = (laidIn k L j || bytesBefore k y.1) := by
  unfold laidIn
  rw [take_snoc' _ _ _ h, List.any_append]
  simp
theorem insTo_done {k : Txt} {m : Nat} {L : Folder} {j : Nat} {y : Txt × Nat} (h : L[j]? = some y) (hd : laidIn k L j = true) : insTo k m L (j + 1) = insTo k m L j ++ [y] := by
  unfold insTo
  rw [laidIn_snoc h, hd, Bool.true_or, if_pos rfl, if_pos rfl, take_snoc' _ _ _ h]
  exact ins_done k m y _ hd
theorem insTo_here {k : Txt} {m : Nat} {L : Folder} {j : Nat} {y : Txt × Nat} (h : L[j]? = some y) (hd : laidIn k L j = false) (hy : bytesBefore k y.1 = true) : insTo k m L (j + 1) = insTo k m L j ++ [(k, m)] ++ [y] := by
  unfold insTo
  rw [laidIn_snoc h, hd, hy, Bool.false_or, if_pos rfl, if_neg (by decide), take_snoc' _ _ _ h]
  exact ins_here k m y hy _ hd
theorem insTo_later {k : Txt} {m : Nat} {L : Folder} {j : Nat} {y : Txt × Nat} (h : L[j]? = some y) (hd : laidIn k L j = false) (hy : bytesBefore k y.1 = false) : insTo k m L (j + 1) = insTo k m L j ++ [y] := by
  unfold insTo
  rw [laidIn_snoc h, hd, hy, Bool.false_or, if_neg (by decide), if_neg (by decide), take_snoc' _ _ _ h]
theorem insTo_length (k : Txt) (m : Nat) (L : Folder) (j : Nat) : (insTo k m L j).length ≤ j + 1 := by
  unfold insTo
  split
  · rw [ins_length, List.length_take]
    omega
  · rw [List.length_take]
    omega
theorem insTo_end (k : Txt) (m : Nat) (L : Folder) : (laidIn k L L.length = true → insTo k m L L.length = Folder.ins k m L) ∧ (laidIn k L L.length = false → insTo k m L L.length ++ [(k, m)] = Folder.ins k m L) := by
  unfold insTo laidIn
  rw [List.take_length]
  constructor
  · intro h
    rw [if_pos h]
  · intro h
    rw [h, if_neg (by decide), ins_none k m L h]
theorem less_str (a b : Txt) : (!(Op.bytesLess (str a).toList (str b).toList || (str a).toList == (str b).toList)) = bytesBefore b a := by
  rw [ByteArray.toList_eq, ByteArray.toList_eq, str_toList, str_toList]
  exact less_before a b

set_option maxHeartbeats 4000000 in
theorem rwith_calls (l : Folder) (v : Value) (x : RChg) (w : World) (h : Ents w v l) (hn : l.length ≤ 10000000) :
    Calls Tryd.prog 74 #[v, rchgV x] w fun e w' => ∃ v', e = .returned v' ∧ Ents w' v' (l.wth x) ∧ (∀ q, v'.ownBlock = some q → v.ownBlock = some q ∨ w.heap.size ≤ q) ∧ Fr (fun _ => False) w w' := by
  obtain ⟨i0, hi0, hz0, hz1, hz2⟩ := info_parts ent_info
  obtain ⟨old, name, file⟩ := x
  unfold rchgV
  simp only
  obtain ⟨W, hW⟩ : ∃ W, W = w.alloc (.cells #[.string (str old), .string (str name), .int .i64 file] 124) := ⟨_, rfl⟩
  have hbox : Blk W w.heap.size 124 #[.string (str old), .string (str name), .int .i64 file] := by rw [hW]; exact Blk.new w _ _
  have hfr0 : Fr (fun _ => False) w W := by rw [hW]; exact (Fr.refl (fun _ => False) w).alloc _
  have hl0 : Ents W v l := by rw [hW]; exact h.alloc _
  have HW := Lib.hid hW
  clear hW
  by_cases ho : old = []
  · have ho2 := str_emp ho
    by_cases hm : name = []
    · have hm2 := str_emp hm
      have HO := Lib.hid ho
      have HM := Lib.hid hm
      clear ho hm
      go_enter Tryd.func74, Tryd.ntmps74
      go_wp2_with fail
      go_ret
      refine ⟨v, rfl, ?_, fun q hq => .inl hq, (Fr.refl (fun _ => False) w).alloc _⟩
      have e : l.wth ⟨old, name, file⟩ = l := by unfold Folder.wth; simp [HO.out, HM.out]
      rw [e]
      exact h.alloc _
    · have hm2 := str_full hm
      have HO := Lib.hid ho
      have HM := Lib.hid hm
      clear ho hm
      go_enter Tryd.func74, Tryd.ntmps74
      go_wp2_with (go_at_call 91; refine (rwithout_calls l v name _ (h.alloc _) (by omega)).mono ?_; rintro e w2 ⟨v2, rfl, h2, o2, f2⟩)
      have hf2 : Fr (fun _ => False) w w2 := ((Fr.refl (fun _ => False) w).alloc _).trans f2 fun _ h => h.elim
      have hbox2 : Blk w2 w.heap.size 124 #[.string (str old), .string (str name), .int .i64 file] := by
        have := hbox.fr (HW.out ▸ f2) id
        exact this
      have hL2 : Folder.ins name file (l.del name) = l.wth ⟨old, name, file⟩ := by unfold Folder.wth Folder.put; simp [HO.out, HM.out]
      have hLn : (l.del name).length ≤ 10000000 := Nat.le_trans (del_length name l) hn
      generalize l.del name = L at *
      have HBX := Lib.hid hbox2
      have H2 := Lib.hid h2
      have HL2 := Lib.hid hL2
      obtain ⟨A2, cp2, rfl, hcp1, hcp2⟩ := h2.shape
      have hst : Ents (w2.alloc (.cells #[] 128)) (.slice (some ⟨w2.heap.size, 0, none⟩) 0 0) (insTo name file L 0) := Row.made w2 128 2 0 #[] rfl (Nat.zero_le _)
      have HST := Lib.hid hst
      obtain ⟨B, hB⟩ : ∃ B, B = w.heap.size := ⟨_, rfl⟩
      rw [← hB] at HBX ⊢
      have HBB := Lib.hid hB
      clear hst hbox hbox2 h2 hL2 h hl0 hB
      go_wp2_with fail
      go_loopw [5, 6, 7] (fun o b i wr => ∃ j : Nat, j ≤ L.length ∧ i = .int .i64 j ∧ b = .bool (laidIn name L j) ∧ Ents wr o (insTo name file L j) ∧ (∀ q, o.ownBlock = some q → w2.heap.size ≤ q) ∧ Fr (fun _ => False) w2 wr) (fun o b i _ => L.length - (RowKit.intOf i).toNat)
      case atStart => exact ⟨0, Nat.zero_le _, rfl, rfl, HST.out, fun q hq => by simp [Value.ownBlock] at hq; omega, (Fr.refl (fun _ => False) w2).alloc _⟩
      case round =>
        obtain ⟨j, hj, rfl, rfl, hrow, hown, hfr⟩ := hrel
        have hil := insTo_length name file L j
        by_cases hlt : j < L.length
        · obtain ⟨⟨nm, m⟩, hmem⟩ : ∃ y, L[j]? = some y := ⟨_, List.getElem?_eq_getElem hlt⟩
          have hL := H2.out.fr hfr fun _ _ => id
          obtain ⟨g, cp', hv, _, _, hcell, _, _⟩ := hL.form (by omega)
          obtain ⟨rfl, rfl⟩ : A2 = some ⟨g, 0, none⟩ ∧ cp2 = cp' := by simpa using hv
          obtain ⟨d0, d1⟩ := entCells_get L j _ hmem
          have c0 := hcell _ _ d0
          have c1 := hcell _ _ d1
          simp only at c0 c1
          have hbx := HBX.out.fr hfr id
          have e1 : wr.cell? ⟨B, 1, none⟩ = some (.string (str name)) := hbx.cell 1
          have HM' := Lib.hid hmem
          have HOW := Lib.hid hown
          have HR := Lib.hid hrow
          have HBR := Lib.hid hbx
          clear hmem hv d0 d1 hcell hown hrow hL hbx
          cases hd : laidIn name L j
          · have hless := less_str nm name
            cases hb1 : Op.bytesLess (str nm).toList (str name).toList <;> cases hb2 : ((str nm).toList == (str name).toList)
            · rw [hb1, hb2] at hless
              have HLS := Lib.hid hless.symm
              have HD := Lib.hid hd
              clear hless hd
              go_wp2_with fail
              go_quiet (fail)
              have hfrV := hfr.drewN nq
              replace c0 : (wr.drewN nq).cell? _ = _ := c0
              replace c1 : (wr.drewN nq).cell? _ = _ := c1
              have e1 : (wr.drewN nq).cell? ⟨B, 1, none⟩ = some (.string (str name)) := HBR.out.cell 1
              have e2 : (wr.drewN nq).cell? ⟨B, 2, none⟩ = some (.int .i64 file) := HBR.out.cell 2
              have HRV := Lib.hid (HR.out.drewN nq)
              clear hfr HR HBR
              generalize wr.drewN nq = V at *
              go_wp2_with (first
                | (at_builtin; refine wpList_append_row _ rfl (.tmp 42) (.tmp 48) 83 rfl 128 i0 _ 2 24 Tryd.underlying83 hi0 hz0 hz1 hz2 rfl (by decide) u5 _ _ rfl (HRV.out.alloc _) _ 1 _ rfl (Row.made V 128 2 1 #[.string (str name), .int .i64 file] rfl (by decide)).src (ent_one _ _) (by simp only [maxLen]; omega) (by omega) ?_; intro v3 w3 hrow3 hfr3 hwh3; have HR3 := Lib.hid hrow3; have hfr4 : Fr (fun _ => False) w2 w3 := (hfrV.alloc _).trans hfr3 fun q hq => .inr (HOW.out q hq); have g0 := (H2.out.fr hfr4 fun _ _ => id); obtain ⟨d0', d1'⟩ := entCells_get L j _ HM'.out; obtain ⟨g', cp'', hv', _, _, hcell', _, _⟩ := g0.form (Nat.lt_of_le_of_lt (Nat.zero_le j) hlt); obtain ⟨rfl, rfl⟩ : g = g' ∧ cp2 = cp'' := (by simpa using hv'); have c0' := hcell' _ _ d0'; have c1' := hcell' _ _ d1'; clear hrow3 hv' g0 d0' d1' hcell')
                | (at_builtin; refine wpList_append_row _ rfl (.tmp 50) (.tmp 55) 83 rfl 128 i0 _ 2 24 Tryd.underlying83 hi0 hz0 hz1 hz2 rfl (by decide) v3 _ _ rfl (HR3.out.alloc _) _ 1 _ rfl (Row.made w3 128 2 1 #[.string (str nm), .int .i64 m] rfl (by decide)).src (ent_one _ _) (by simp only [maxLen]; omega) (by omega) ?_; intro v5 w5 hrow5 hfr5 hwh5))
              have o3 : ∀ q, v3.ownBlock = some q → w2.heap.size ≤ q := fun q hq => by
                rcases hwh3 with h | h
                · exact HOW.out q (by rw [← h]; exact hq)
                · rw [h] at hq
                  injection hq with hq
                  have := hfrV.size
                  simp at hq
                  omega
              refine ⟨⟨j + 1, by omega, by go_num, ?_, ?_, ?_, (hfr4.alloc _).trans hfr5 fun q hq => .inr (o3 q hq)⟩, by simp [RowKit.intOf]; omega⟩
              · rw [laidIn_snoc HM'.out, HD.out, HLS.out]
                rfl
              · rw [insTo_here HM'.out HD.out HLS.out]
                unfold Ents
                rw [entCells_append, entCells_append, List.length_append, List.length_append]
                exact hrow5
              · intro q hq
                rcases hwh5 with h | h
                · exact o3 q (by rw [← h]; exact hq)
                · rw [h] at hq
                  injection hq with hq
                  have := hfr4.size
                  simp at hq
                  omega
            all_goals
              rw [hb1, hb2] at hless
              have HLS := Lib.hid hless.symm
              have HD := Lib.hid hd
              clear hless hd
              go_wp2_with fail
              go_quiet (fail)
              have hfrV := hfr.drewN nq
              replace c0 : (wr.drewN nq).cell? _ = _ := c0
              replace c1 : (wr.drewN nq).cell? _ = _ := c1
              have HRV := Lib.hid (HR.out.drewN nq)
              clear hfr HR HBR e1
              generalize wr.drewN nq = V at *
              go_wp2_with (at_builtin; refine wpList_append_row _ rfl (.tmp 50) (.tmp 55) 83 rfl 128 i0 _ 2 24 Tryd.underlying83 hi0 hz0 hz1 hz2 rfl (by decide) u5 _ _ rfl (HRV.out.alloc _) _ 1 _ rfl (Row.made V 128 2 1 #[.string (str nm), .int .i64 m] rfl (by decide)).src (ent_one _ _) (by simp only [maxLen]; omega) (by omega) ?_; intro v5 w5 hrow5 hfr5 hwh5)
              refine ⟨⟨j + 1, by omega, by go_num, ?_, ?_, ?_, (hfrV.alloc _).trans hfr5 fun q hq => .inr (HOW.out q hq)⟩, by simp [RowKit.intOf]; omega⟩
              · rw [laidIn_snoc HM'.out, HD.out, HLS.out]
                rfl
              · rw [insTo_later HM'.out HD.out HLS.out]
                unfold Ents
                rw [entCells_append, List.length_append]
                exact hrow5
              · intro q hq
                rcases hwh5 with h | h
                · exact HOW.out q (by rw [← h]; exact hq)
                · rw [h] at hq
                  injection hq with hq
                  have := hfrV.size
                  simp at hq
                  omega
          · have HD := Lib.hid hd
            clear hd
            go_wp2_with fail
            go_quiet (fail)
            have hfrV := hfr.drewN nq
            replace c0 : (wr.drewN nq).cell? _ = _ := c0
            replace c1 : (wr.drewN nq).cell? _ = _ := c1
            have HRV := Lib.hid (HR.out.drewN nq)
            clear hfr HR HBR e1
            generalize wr.drewN nq = V at *
            go_wp2_with (at_builtin; refine wpList_append_row _ rfl (.tmp 50) (.tmp 55) 83 rfl 128 i0 _ 2 24 Tryd.underlying83 hi0 hz0 hz1 hz2 rfl (by decide) u5 _ _ rfl (HRV.out.alloc _) _ 1 _ rfl (Row.made V 128 2 1 #[.string (str nm), .int .i64 m] rfl (by decide)).src (ent_one _ _) (by simp only [maxLen]; omega) (by omega) ?_; intro v5 w5 hrow5 hfr5 hwh5)
            refine ⟨⟨j + 1, by omega, by go_num, ?_, ?_, ?_, (hfrV.alloc _).trans hfr5 fun q hq => .inr (HOW.out q hq)⟩, by simp [RowKit.intOf]; omega⟩
            · rw [laidIn_snoc HM'.out, HD.out]
              rfl
            · rw [insTo_done HM'.out HD.out]
              unfold Ents
              rw [entCells_append, List.length_append]
              exact hrow5
            · intro q hq
              rcases hwh5 with h | h
              · exact HOW.out q (by rw [← h]; exact hq)
              · rw [h] at hq
                injection hq with hq
                have := hfrV.size
                simp at hq
                omega
        · obtain rfl : j = L.length := by omega
          have hend := insTo_end name file L
          have hbx := HBX.out.fr hfr id
          have e1 : wr.cell? ⟨B, 1, none⟩ = some (.string (str name)) := hbx.cell 1
          have e2 : wr.cell? ⟨B, 2, none⟩ = some (.int .i64 file) := hbx.cell 2
          have HOW := Lib.hid hown
          have HR := Lib.hid hrow
          clear hown hrow hbx
          have hs2 := hf2.size
          cases hd : laidIn name L L.length
          · have he := hend.2 hd
            have HE := Lib.hid he
            clear hend he hd
            go_wp2_with (at_builtin; refine wpList_append_row _ rfl (.tmp 59) (.tmp 65) 83 rfl 128 i0 _ 2 24 Tryd.underlying83 hi0 hz0 hz1 hz2 rfl (by decide) u5 _ _ rfl (HR.out.alloc _) _ 1 _ rfl (Row.made wr 128 2 1 #[.string (str name), .int .i64 file] rfl (by decide)).src (ent_one _ _) (by simp only [maxLen]; omega) (by omega) ?_; intro v5 w5 hrow5 hfr5 hwh5)
            go_ret
            refine ⟨v5, rfl, ?_, ?_, hf2.trans ((hfr.alloc _).trans hfr5 fun q hq => .inr (HOW.out q hq)) fun _ h => h.elim⟩
            · rw [← HL2.out, ← HE.out]
              unfold Ents
              rw [entCells_append, List.length_append]
              exact hrow5
            · intro q hq
              rcases hwh5 with h | h
              · have := HOW.out q (by rw [← h]; exact hq)
                exact .inr (by omega)
              · rw [h] at hq
                injection hq with hq
                have := hfr.size
                simp at hq
                exact .inr (by omega)
          · have he := hend.1 hd
            have HE := Lib.hid he
            clear hend he hd
            go_wp2_with fail
            go_ret
            refine ⟨u5, rfl, ?_, fun q hq => .inr (by have := HOW.out q hq; omega), hf2.trans hfr fun _ h => h.elim⟩
            rw [← HL2.out, ← HE.out]
            exact HR.out
  · have ho2 := str_full ho
    by_cases hm : name = []
    · have hm2 := str_emp hm
      have HO := Lib.hid ho
      have HM := Lib.hid hm
      clear ho hm
      go_enter Tryd.func74, Tryd.ntmps74
      go_wp2_with (go_at_call 91; refine (rwithout_calls l v old _ (h.alloc _) (by omega)).mono ?_; rintro e w2 ⟨v2, rfl, h2, o2, f2⟩; have hbox2 := hbox.fr (HW.out ▸ f2) id; have b0 : w2.cell? ⟨w.heap.size, 0, none⟩ = some (.string (str old)) := hbox2.cell 0; have b1 : w2.cell? ⟨w.heap.size, 1, none⟩ = some (.string (str name)) := hbox2.cell 1)
      go_ret
      refine ⟨v2, rfl, ?_, fun q hq => .inr (by have := o2 q hq; simp at this; omega), ((Fr.refl (fun _ => False) w).alloc _).trans f2 fun _ h => h.elim⟩
      have e : l.wth ⟨old, name, file⟩ = l.del old := by unfold Folder.wth; simp [HO.out, HM.out]
      rw [e]
      exact h2
    · have hm2 := str_full hm
      have HO := Lib.hid ho
      have HM := Lib.hid hm
      clear ho hm
      go_enter Tryd.func74, Tryd.ntmps74
      go_wp2_with fail
      go_at_call 91
      refine (rwithout_calls l v old _ (h.alloc _) (by omega)).mono ?_
      rintro e w1 ⟨v1, rfl, h1, o1, f1⟩
      have hbox1 := hbox.fr (HW.out ▸ f1) id
      have b0 : w1.cell? ⟨w.heap.size, 0, none⟩ = some (.string (str old)) := hbox1.cell 0
      have b1 : w1.cell? ⟨w.heap.size, 1, none⟩ = some (.string (str name)) := hbox1.cell 1
      go_wp2_with fail
      go_at_call 91
      refine (rwithout_calls (l.del old) v1 name _ h1 (Nat.le_trans (del_length old l) (Nat.le_trans hn (by decide)))).mono ?_
      rintro e w2 ⟨v2, rfl, h2, o2, f2⟩
      have hf1 : Fr (fun _ => False) w w1 := ((Fr.refl (fun _ => False) w).alloc _).trans f1 fun _ h => h.elim
      have hf2 : Fr (fun _ => False) w w2 := hf1.trans f2 fun _ h => h.elim
      have hbox2 := hbox1.fr f2 id
      clear b0 b1
      have hL2 : Folder.ins name file ((l.del old).del name) = l.wth ⟨old, name, file⟩ := by unfold Folder.wth Folder.put; simp [HO.out, HM.out]
      have hLn : ((l.del old).del name).length ≤ 10000000 := Nat.le_trans (del_length name _) (Nat.le_trans (del_length old l) hn)
      generalize (l.del old).del name = L at *
      have HBX := Lib.hid hbox2
      have H2 := Lib.hid h2
      have HL2 := Lib.hid hL2
      obtain ⟨A2, cp2, rfl, hcp1, hcp2⟩ := h2.shape
      have hst : Ents (w2.alloc (.cells #[] 128)) (.slice (some ⟨w2.heap.size, 0, none⟩) 0 0) (insTo name file L 0) := Row.made w2 128 2 0 #[] rfl (Nat.zero_le _)
      have HST := Lib.hid hst
      obtain ⟨B, hB⟩ : ∃ B, B = w.heap.size := ⟨_, rfl⟩
      rw [← hB] at HBX ⊢
      have HBB := Lib.hid hB
      clear hst hbox hbox2 h2 hL2 h hl0 hB
      go_wp2_with fail
      go_loopw [5, 6, 7] (fun o b i wr => ∃ j : Nat, j ≤ L.length ∧ i = .int .i64 j ∧ b = .bool (laidIn name L j) ∧ Ents wr o (insTo name file L j) ∧ (∀ q, o.ownBlock = some q → w2.heap.size ≤ q) ∧ Fr (fun _ => False) w2 wr) (fun o b i _ => L.length - (RowKit.intOf i).toNat)
      case atStart => exact ⟨0, Nat.zero_le _, rfl, rfl, HST.out, fun q hq => by simp [Value.ownBlock] at hq; omega, (Fr.refl (fun _ => False) w2).alloc _⟩
      case round =>
        obtain ⟨j, hj, rfl, rfl, hrow, hown, hfr⟩ := hrel
        have hil := insTo_length name file L j
        by_cases hlt : j < L.length
        · obtain ⟨⟨nm, m⟩, hmem⟩ : ∃ y, L[j]? = some y := ⟨_, List.getElem?_eq_getElem hlt⟩
          have hL := H2.out.fr hfr fun _ _ => id
          obtain ⟨g, cp', hv, _, _, hcell, _, _⟩ := hL.form (by omega)
          obtain ⟨rfl, rfl⟩ : A2 = some ⟨g, 0, none⟩ ∧ cp2 = cp' := by simpa using hv
          obtain ⟨d0, d1⟩ := entCells_get L j _ hmem
          have c0 := hcell _ _ d0
          have c1 := hcell _ _ d1
          simp only at c0 c1
          have hbx := HBX.out.fr hfr id
          have e1 : wr.cell? ⟨B, 1, none⟩ = some (.string (str name)) := hbx.cell 1
          have HM' := Lib.hid hmem
          have HOW := Lib.hid hown
          have HR := Lib.hid hrow
          have HBR := Lib.hid hbx
          clear hmem hv d0 d1 hcell hown hrow hL hbx
          cases hd : laidIn name L j
          · have hless := less_str nm name
            cases hb1 : Op.bytesLess (str nm).toList (str name).toList <;> cases hb2 : ((str nm).toList == (str name).toList)
            · rw [hb1, hb2] at hless
              have HLS := Lib.hid hless.symm
              have HD := Lib.hid hd
              clear hless hd
              go_wp2_with fail
              go_quiet (fail)
              have hfrV := hfr.drewN nq
              replace c0 : (wr.drewN nq).cell? _ = _ := c0
              replace c1 : (wr.drewN nq).cell? _ = _ := c1
              have e1 : (wr.drewN nq).cell? ⟨B, 1, none⟩ = some (.string (str name)) := HBR.out.cell 1
              have e2 : (wr.drewN nq).cell? ⟨B, 2, none⟩ = some (.int .i64 file) := HBR.out.cell 2
              have HRV := Lib.hid (HR.out.drewN nq)
              clear hfr HR HBR
              generalize wr.drewN nq = V at *
              go_wp2_with (first
                | (at_builtin; refine wpList_append_row _ rfl (.tmp 42) (.tmp 48) 83 rfl 128 i0 _ 2 24 Tryd.underlying83 hi0 hz0 hz1 hz2 rfl (by decide) u5 _ _ rfl (HRV.out.alloc _) _ 1 _ rfl (Row.made V 128 2 1 #[.string (str name), .int .i64 file] rfl (by decide)).src (ent_one _ _) (by simp only [maxLen]; omega) (by omega) ?_; intro v3 w3 hrow3 hfr3 hwh3; have HR3 := Lib.hid hrow3; have hfr4 : Fr (fun _ => False) w2 w3 := (hfrV.alloc _).trans hfr3 fun q hq => .inr (HOW.out q hq); have g0 := (H2.out.fr hfr4 fun _ _ => id); obtain ⟨d0', d1'⟩ := entCells_get L j _ HM'.out; obtain ⟨g', cp'', hv', _, _, hcell', _, _⟩ := g0.form (Nat.lt_of_le_of_lt (Nat.zero_le j) hlt); obtain ⟨rfl, rfl⟩ : g = g' ∧ cp2 = cp'' := (by simpa using hv'); have c0' := hcell' _ _ d0'; have c1' := hcell' _ _ d1'; clear hrow3 hv' g0 d0' d1' hcell')
                | (at_builtin; refine wpList_append_row _ rfl (.tmp 50) (.tmp 55) 83 rfl 128 i0 _ 2 24 Tryd.underlying83 hi0 hz0 hz1 hz2 rfl (by decide) v3 _ _ rfl (HR3.out.alloc _) _ 1 _ rfl (Row.made w3 128 2 1 #[.string (str nm), .int .i64 m] rfl (by decide)).src (ent_one _ _) (by simp only [maxLen]; omega) (by omega) ?_; intro v5 w5 hrow5 hfr5 hwh5))
              have o3 : ∀ q, v3.ownBlock = some q → w2.heap.size ≤ q := fun q hq => by
                rcases hwh3 with h | h
                · exact HOW.out q (by rw [← h]; exact hq)
                · rw [h] at hq
                  injection hq with hq
                  have := hfrV.size
                  simp at hq
                  omega
              refine ⟨⟨j + 1, by omega, by go_num, ?_, ?_, ?_, (hfr4.alloc _).trans hfr5 fun q hq => .inr (o3 q hq)⟩, by simp [RowKit.intOf]; omega⟩
              · rw [laidIn_snoc HM'.out, HD.out, HLS.out]
                rfl
              · rw [insTo_here HM'.out HD.out HLS.out]
                unfold Ents
                rw [entCells_append, entCells_append, List.length_append, List.length_append]
                exact hrow5
              · intro q hq
                rcases hwh5 with h | h
                · exact o3 q (by rw [← h]; exact hq)
                · rw [h] at hq
                  injection hq with hq
                  have := hfr4.size
                  simp at hq
                  omega
            all_goals
              rw [hb1, hb2] at hless
              have HLS := Lib.hid hless.symm
              have HD := Lib.hid hd
              clear hless hd
              go_wp2_with fail
              go_quiet (fail)
              have hfrV := hfr.drewN nq
              replace c0 : (wr.drewN nq).cell? _ = _ := c0
              replace c1 : (wr.drewN nq).cell? _ = _ := c1
              have HRV := Lib.hid (HR.out.drewN nq)
              clear hfr HR HBR e1
              generalize wr.drewN nq = V at *
              go_wp2_with (at_builtin; refine wpList_append_row _ rfl (.tmp 50) (.tmp 55) 83 rfl 128 i0 _ 2 24 Tryd.underlying83 hi0 hz0 hz1 hz2 rfl (by decide) u5 _ _ rfl (HRV.out.alloc _) _ 1 _ rfl (Row.made V 128 2 1 #[.string (str nm), .int .i64 m] rfl (by decide)).src (ent_one _ _) (by simp only [maxLen]; omega) (by omega) ?_; intro v5 w5 hrow5 hfr5 hwh5)
              refine ⟨⟨j + 1, by omega, by go_num, ?_, ?_, ?_, (hfrV.alloc _).trans hfr5 fun q hq => .inr (HOW.out q hq)⟩, by simp [RowKit.intOf]; omega⟩
              · rw [laidIn_snoc HM'.out, HD.out, HLS.out]
                rfl
              · rw [insTo_later HM'.out HD.out HLS.out]
                unfold Ents
                rw [entCells_append, List.length_append]
                exact hrow5
              · intro q hq
                rcases hwh5 with h | h
                · exact HOW.out q (by rw [← h]; exact hq)
                · rw [h] at hq
                  injection hq with hq
                  have := hfrV.size
                  simp at hq
                  omega
          · have HD := Lib.hid hd
            clear hd
            go_wp2_with fail
            go_quiet (fail)
            have hfrV := hfr.drewN nq
            replace c0 : (wr.drewN nq).cell? _ = _ := c0
            replace c1 : (wr.drewN nq).cell? _ = _ := c1
            have HRV := Lib.hid (HR.out.drewN nq)
            clear hfr HR HBR e1
            generalize wr.drewN nq = V at *
            go_wp2_with (at_builtin; refine wpList_append_row _ rfl (.tmp 50) (.tmp 55) 83 rfl 128 i0 _ 2 24 Tryd.underlying83 hi0 hz0 hz1 hz2 rfl (by decide) u5 _ _ rfl (HRV.out.alloc _) _ 1 _ rfl (Row.made V 128 2 1 #[.string (str nm), .int .i64 m] rfl (by decide)).src (ent_one _ _) (by simp only [maxLen]; omega) (by omega) ?_; intro v5 w5 hrow5 hfr5 hwh5)
            refine ⟨⟨j + 1, by omega, by go_num, ?_, ?_, ?_, (hfrV.alloc _).trans hfr5 fun q hq => .inr (HOW.out q hq)⟩, by simp [RowKit.intOf]; omega⟩
            · rw [laidIn_snoc HM'.out, HD.out]
              rfl
            · rw [insTo_done HM'.out HD.out]
              unfold Ents
              rw [entCells_append, List.length_append]
              exact hrow5
            · intro q hq
              rcases hwh5 with h | h
              · exact HOW.out q (by rw [← h]; exact hq)
              · rw [h] at hq
                injection hq with hq
                have := hfrV.size
                simp at hq
                omega
        · obtain rfl : j = L.length := by omega
          have hend := insTo_end name file L
          have hbx := HBX.out.fr hfr id
          have e1 : wr.cell? ⟨B, 1, none⟩ = some (.string (str name)) := hbx.cell 1
          have e2 : wr.cell? ⟨B, 2, none⟩ = some (.int .i64 file) := hbx.cell 2
          have HOW := Lib.hid hown
          have HR := Lib.hid hrow
          clear hown hrow hbx
          have hs2 := hf2.size
          cases hd : laidIn name L L.length
          · have he := hend.2 hd
            have HE := Lib.hid he
            clear hend he hd
            go_wp2_with (at_builtin; refine wpList_append_row _ rfl (.tmp 59) (.tmp 65) 83 rfl 128 i0 _ 2 24 Tryd.underlying83 hi0 hz0 hz1 hz2 rfl (by decide) u5 _ _ rfl (HR.out.alloc _) _ 1 _ rfl (Row.made wr 128 2 1 #[.string (str name), .int .i64 file] rfl (by decide)).src (ent_one _ _) (by simp only [maxLen]; omega) (by omega) ?_; intro v5 w5 hrow5 hfr5 hwh5)
            go_ret
            refine ⟨v5, rfl, ?_, ?_, hf2.trans ((hfr.alloc _).trans hfr5 fun q hq => .inr (HOW.out q hq)) fun _ h => h.elim⟩
            · rw [← HL2.out, ← HE.out]
              unfold Ents
              rw [entCells_append, List.length_append]
              exact hrow5
            · intro q hq
              rcases hwh5 with h | h
              · have := HOW.out q (by rw [← h]; exact hq)
                exact .inr (by omega)
              · rw [h] at hq
                injection hq with hq
                have := hfr.size
                simp at hq
                exact .inr (by omega)
          · have he := hend.1 hd
            have HE := Lib.hid he
            clear hend he hd
            go_wp2_with fail
            go_ret
            refine ⟨u5, rfl, ?_, fun q hq => .inr (by have := HOW.out q hq; omega), hf2.trans hfr fun _ h => h.elim⟩
            rw [← HL2.out, ← HE.out]
            exact HR.out
end Chart

/- The document's cabinet: New, power, Fail, Turn, Read. -/
namespace Chart
open Go Go.RowKit Go.Proofs
attribute [local go_sem ↓] Go.wp_at_zero Go.wp_at_succ

section
variable {w w1 : World} {p : Nat} {c : RCab} {fv nv sv wv : Value} {D : Nat → Prop}
theorem RefIn.setAfter (h : RefIn w p c fv nv sv wv) (a : Int) : RefIn (w.setCell ⟨p, 5, none⟩ (.int .i64 a)) p { c with after := a } fv nv sv wv where
  blk := h.blk.set 5 _
  files := h.files.far (h.files.ne_blk h.blk (by decide)) _
  now := h.now.far (h.now.ne_blk h.blk (by decide)) _
  sure := h.sure.far (h.sure.ne_blk h.blk (by decide)) _
  waiting := h.waiting.far (h.waiting.ne_blk h.blk (by decide)) _
theorem RefIn.setTimed (h : RefIn w p c fv nv sv wv) (b : Bool) : RefIn (w.setCell ⟨p, 6, none⟩ (.bool b)) p { c with timed := b } fv nv sv wv where
  blk := h.blk.set 6 _
  files := h.files.far (h.files.ne_blk h.blk (by decide)) _
  now := h.now.far (h.now.ne_blk h.blk (by decide)) _
  sure := h.sure.far (h.sure.ne_blk h.blk (by decide)) _
  waiting := h.waiting.far (h.waiting.ne_blk h.blk (by decide)) _
theorem RefIn.setOff (h : RefIn w p c fv nv sv wv) (b : Bool) : RefIn (w.setCell ⟨p, 7, none⟩ (.bool b)) p { c with off := b } fv nv sv wv where
  blk := h.blk.set 7 _
  files := h.files.far (h.files.ne_blk h.blk (by decide)) _
  now := h.now.far (h.now.ne_blk h.blk (by decide)) _
  sure := h.sure.far (h.sure.ne_blk h.blk (by decide)) _
  waiting := h.waiting.far (h.waiting.ne_blk h.blk (by decide)) _
theorem RefIn.setNow (h : RefIn w p c fv nv sv wv) {v : Value} {l : Folder} (hv : Ents w v l) : RefIn (w.setCell ⟨p, 2, none⟩ v) p { c with now := l } fv v sv wv where
  blk := h.blk.set 2 _
  files := h.files.far (h.files.ne_blk h.blk (by decide)) _
  now := hv.far (hv.ne_blk h.blk (by decide)) _
  sure := h.sure.far (h.sure.ne_blk h.blk (by decide)) _
  waiting := h.waiting.far (h.waiting.ne_blk h.blk (by decide)) _
theorem RefIn.setSure (h : RefIn w p c fv nv sv wv) {v : Value} {l : Folder} (hv : Ents w v l) : RefIn (w.setCell ⟨p, 3, none⟩ v) p { c with sure := l } fv nv v wv where
  blk := h.blk.set 3 _
  files := h.files.far (h.files.ne_blk h.blk (by decide)) _
  now := h.now.far (h.now.ne_blk h.blk (by decide)) _
  sure := hv.far (hv.ne_blk h.blk (by decide)) _
  waiting := h.waiting.far (h.waiting.ne_blk h.blk (by decide)) _
theorem RefIn.setWaiting (h : RefIn w p c fv nv sv wv) {v : Value} {l : List RChg} (hv : Row w 124 3 v l.length (rchgCells l)) : RefIn (w.setCell ⟨p, 4, none⟩ v) p { c with waiting := l } fv nv sv v where
  blk := h.blk.set 4 _
  files := h.files.far (h.files.ne_blk h.blk (by decide)) _
  now := h.now.far (h.now.ne_blk h.blk (by decide)) _
  sure := h.sure.far (h.sure.ne_blk h.blk (by decide)) _
  waiting := hv.far (hv.ne_blk h.blk (by decide)) _
theorem RefIn.setFiles (h : RefIn w p c fv nv sv wv) {v : Value} {l : List FileS} (hv : Row w 126 2 v l.length (rfileCells l)) : RefIn (w.setCell ⟨p, 1, none⟩ v) p { c with files := l } v nv sv wv where
  blk := h.blk.set 1 _
  files := hv.far (hv.ne_blk h.blk (by decide)) _
  now := h.now.far (h.now.ne_blk h.blk (by decide)) _
  sure := h.sure.far (h.sure.ne_blk h.blk (by decide)) _
  waiting := h.waiting.far (h.waiting.ne_blk h.blk (by decide)) _

set_option maxHeartbeats 1000000 in
theorem RefIn.power (h : RefIn w p c fv nv sv wv) (a0' : c.timed = true → -9223372036854775807 ≤ c.after) (a1 : c.after ≤ 9223372036854775807) :
    Calls Tryd.prog 89 #[.pointer (some ⟨p, 0, none⟩)] w fun e w' => e = .returned (.int .i64 c.power.2) ∧ RefIn w' p c.power.1 fv nv sv wv ∧ Fr (· = p) w w' := by
  have h6 : w.cell? ⟨p, 6, none⟩ = some (.bool c.timed) := h.blk.cell 6
  have h5 : w.cell? ⟨p, 5, none⟩ = some (.int .i64 c.after) := h.blk.cell 5
  have h7 : w.cell? ⟨p, 7, none⟩ = some (.bool c.off) := h.blk.cell 7
  have f5 := h.blk.frozen 5
  have f7 := h.blk.frozen 7
  have HA := Lib.hid (h.setOff true)
  have HB := Lib.hid (h.setAfter (c.after - 1))
  have HC := Lib.hid h
  unfold RCab.power
  cases ht : c.timed
  · rw [ht] at h6
    simp only [Bool.false_eq_true, false_and, if_false]
    clear h ht a0'
    go_enter Tryd.func89, Tryd.ntmps89
    go_wp2
    go_ret
    exact ⟨rfl, HC.out, Fr.refl _ _⟩
  · rw [ht] at h6
    have a0 := a0' ht
    have HT := Lib.hid ht
    clear a0'
    by_cases ha : c.after = 0
    · rw [ha] at h5
      simp only [ha, true_and, if_true]
      clear h ht a0 a1
      have HAA := Lib.hid ha
      clear ha
      go_enter Tryd.func89, Tryd.ntmps89
      go_wp2
      go_ret
      refine ⟨rfl, ?_, (Fr.refl (· = p) w).setCell (p := ⟨p, 7, none⟩) (.inl rfl) _⟩
      have := HA.out
      rw [HAA.out, HT.out] at this
      exact this
    · simp only [ha, and_false, if_false, if_true]
      clear h ht
      go_enter Tryd.func89, Tryd.ntmps89
      go_wp2
      go_ret
      have hb := HB.out
      rw [HT.out] at hb
      exact ⟨rfl, hb, (Fr.refl (· = p) w).setCell (p := ⟨p, 5, none⟩) (.inl rfl) _⟩

set_option maxHeartbeats 1000000 in
theorem RefIn.fail (h : RefIn w p c fv nv sv wv) (n : Int) :
    Calls Tryd.prog 36 #[.pointer (some ⟨p, 0, none⟩), .int .i64 n] w fun e w' => e = .returned (.tuple #[]) ∧ RefIn w' p (c.fail n) fv nv sv wv ∧ Fr (· = p) w w' := by
  have h6 : w.cell? ⟨p, 6, none⟩ = some (.bool c.timed) := h.blk.cell 6
  have h5 : w.cell? ⟨p, 5, none⟩ = some (.int .i64 c.after) := h.blk.cell 5
  have f5 := h.blk.frozen 5
  have f6 := h.blk.frozen 6
  have HA := Lib.hid ((h.setTimed (decide (0 ≤ n))).setAfter n)
  clear h
  go_enter Tryd.func36, Tryd.ntmps36
  go_wp2
  go_end0
  exact ⟨rfl, HA.out, ((Fr.refl (· = p) w).setCell (p := ⟨p, 6, none⟩) (.inl rfl) _).setCell (p := ⟨p, 5, none⟩) (.inl rfl) _⟩

set_option maxHeartbeats 400000 in
theorem rnew_bad (q : Int) (w : World) (hq : q < 1 ∨ 1073741824 < q) : Calls Tryd.prog 11 #[.int .i64 q] w fun e w' => e = .returned (.tuple #[.pointer none, .int .i64 1]) ∧ w = w' := by
  rcases hq with hq | hq
  · go_enter Tryd.func11, Tryd.ntmps11
    go_wp2
    go_ret2
    exact ⟨rfl, rfl⟩
  · have hq1 : ¬ q < 1 := by omega
    go_enter Tryd.func11, Tryd.ntmps11
    go_wp2
    go_ret2
    exact ⟨rfl, rfl⟩
set_option maxHeartbeats 400000 in
theorem rnew_calls (q : Int) (w : World) (h1 : 1 ≤ q) (h2 : q ≤ 1073741824) : Calls Tryd.prog 11 #[.int .i64 q] w fun e w' => e = .returned (.tuple #[.pointer (some ⟨w.heap.size, 0, none⟩), .int .i64 0]) ∧
    RefIn w' w.heap.size (RCab.new q) (.slice none 0 0) (.slice none 0 0) (.slice none 0 0) (.slice none 0 0) ∧ Fr (fun _ => False) w w' := by
  have hin : RefIn (w.alloc (.cells #[.int .i64 q, .slice none 0 0, .slice none 0 0, .slice none 0 0, .slice none 0 0, .int .i64 0, .bool false, .bool false] 86)) w.heap.size (RCab.new q) (.slice none 0 0) (.slice none 0 0) (.slice none 0 0) (.slice none 0 0) := {
    blk := Blk.new w _ _
    files := Row.nil _ _ _
    now := Row.nil _ _ _
    sure := Row.nil _ _ _
    waiting := Row.nil _ _ _ }
  have HI := Lib.hid hin
  clear hin
  have h1' : ¬ q < 1 := by omega
  have h2' : ¬ 1073741824 < q := by omega
  go_enter Tryd.func11, Tryd.ntmps11
  go_wp2
  go_ret2
  exact ⟨rfl, HI.out, (Fr.refl (fun _ => False) w).alloc _⟩

theorem at_cases (l : Folder) (k : Txt) : (l.get? k = none ∧ l.at_ k = -1) ∨ ∃ n : Nat, l.get? k = some n ∧ l.at_ k = n := by
  unfold Folder.at_
  cases h : l.get? k with
  | none => exact .inl ⟨rfl, rfl⟩
  | some n => exact .inr ⟨n, rfl, rfl⟩

set_option maxHeartbeats 1000000 in
theorem RefIn.read (h : RefIn w p c fv nv sv wv) (k : Txt) (hnn : ∀ x ∈ c.now, x.2 < c.files.length) :
    Calls Tryd.prog 38 #[.pointer (some ⟨p, 0, none⟩), .string (str k)] w fun e w' => e = .returned (.tuple #[.string (str (c.read k).1), .int .i64 (c.read k).2]) ∧ w = w' := by
  have h7 : w.cell? ⟨p, 7, none⟩ = some (.bool c.off) := h.blk.cell 7
  have h2 : w.cell? ⟨p, 2, none⟩ = some nv := h.blk.cell 2
  have h1 : w.cell? ⟨p, 1, none⟩ = some fv := h.blk.cell 1
  have hf := rfind_calls c.now nv k w h.now
  obtain ⟨A, cp, rfl, _, _⟩ := h.now.shape
  obtain ⟨A2, cp2, rfl, _, _⟩ := h.files.shape
  unfold RCab.read
  cases ho : c.off
  · rw [ho] at h7
    rcases at_cases c.now k with ⟨e1, e2⟩ | ⟨n, e1, e2⟩
    · rw [e2] at hf
      have HF := Lib.hid hf
      simp only [Bool.false_eq_true, if_false, e1]
      clear ho hf e1 e2 h
      go_enter Tryd.func38, Tryd.ntmps38
      go_wp2_with (go_at_call 75; refine HF.out.mono ?_; rintro e w' ⟨rfl, rfl⟩)
      go_ret2
      exact ⟨rfl, rfl⟩
    · rw [e2] at hf
      have HF := Lib.hid hf
      have hn : n < c.files.length := hnn _ (get_mem e1)
      obtain ⟨f, hfn⟩ : ∃ f, c.files[n]? = some f := ⟨_, List.getElem?_eq_getElem hn⟩
      have hcf : c.file n = f := by unfold RCab.file; rw [List.getD_eq_getElem?_getD, hfn]; rfl
      simp only [Bool.false_eq_true, if_false, e1, hcf]
      obtain ⟨g, cp', hv, _, _, hcell, _, _⟩ := h.files.form (by omega)
      obtain ⟨rfl, rfl⟩ : A2 = some ⟨g, 0, none⟩ ∧ cp2 = cp' := by simpa using hv
      obtain ⟨d0, d1⟩ := rfileCells_get c.files n _ hfn
      have c0 := hcell _ _ d0
      have i1 : (0 : Int) ≤ (n : Int) := by omega
      have i2 : (n : Int) < (c.files.length : Int) := by omega
      clear ho hf e1 e2 h hfn hcf hv d0 d1 hcell
      go_enter Tryd.func38, Tryd.ntmps38
      go_wp2_with (go_at_call 75; refine HF.out.mono ?_; rintro e w' ⟨rfl, rfl⟩)
      go_ret2
      exact ⟨rfl, rfl⟩
  · rw [ho] at h7
    have HF := Lib.hid hf
    simp only [if_true]
    clear ho hf h
    go_enter Tryd.func38, Tryd.ntmps38
    go_wp2_with (go_at_call 75; refine HF.out.mono ?_; rintro e w' ⟨rfl, rfl⟩)
    go_ret2
    exact ⟨rfl, rfl⟩
end
end Chart

/- The document's cabinet: Names, Texts, Used. -/
namespace Chart
open Go Go.RowKit Go.Proofs
attribute [local go_sem ↓] Go.wp_at_zero Go.wp_at_succ

theorem string_info : (Tryd.prog.info? 9).map (fun i => (i.zero, i.size, i.bytes)) = some (some (.string ⟨#[]⟩), 1, 16) := by kernel_rfl
theorem string_one (a : ByteArray) : ∀ u ∈ (#[.string a] : Array Value).toList, u.oneCell' = true := by
  intro u hu
  simp at hu
  subst hu
  rfl
theorem strV_snoc (l : List Txt) (j : Nat) (k : Txt) (h : l[j]? = some k) : strV (l.take (j + 1)) = strV (l.take j) ++ [.string (str k)] := by
  rw [take_snoc' _ _ _ h]
  simp [strV]
theorem keys_get (l : Folder) (j : Nat) (y : Txt × Nat) (h : l[j]? = some y) : l.keys[j]? = some y.1 := by
  unfold Folder.keys
  rw [List.getElem?_map, h]
  rfl

section
variable {w w1 : World} {p : Nat} {c : RCab} {fv nv sv wv : Value} {D : Nat → Prop}
set_option maxHeartbeats 2000000 in
theorem RefIn.names (h : RefIn w p c fv nv sv wv) (hn : c.now.length ≤ 10000000) :
    Calls Tryd.prog 39 #[.pointer (some ⟨p, 0, none⟩)] w fun e w' => ∃ v', e = .returned (.tuple #[v', .int .i64 c.namesOf.2]) ∧ Row w' 9 1 v' c.namesOf.1.length (strV c.namesOf.1) ∧ (∀ q, v'.ownBlock = some q → w.heap.size ≤ q) ∧ Fr (fun _ => False) w w' := by
  obtain ⟨i0, hi0, hz0, hz1, hz2⟩ := info_parts string_info
  have h7 : w.cell? ⟨p, 7, none⟩ = some (.bool c.off) := h.blk.cell 7
  have h2 : w.cell? ⟨p, 2, none⟩ = some nv := h.blk.cell 2
  have hpl := h.blk.lt
  have hst : Row (w.alloc (.cells #[] 9)) 9 1 (.slice (some ⟨w.heap.size, 0, none⟩) 0 0) 0 [] := Row.made w 9 1 0 #[] rfl (Nat.zero_le _)
  have HST := Lib.hid hst
  have H := Lib.hid h
  unfold RCab.namesOf
  cases ho : c.off
  · rw [ho] at h7
    simp only [Bool.false_eq_true, if_false]
    obtain ⟨A, cp, rfl, hcp1, hcp2⟩ := h.now.shape
    clear ho h hst
    go_enter Tryd.func39, Tryd.ntmps39
    go_wp2
    go_loopw [4, 5] (fun o i wr => ∃ j : Nat, j ≤ c.now.length ∧ i = .int .i64 j ∧ Row wr 9 1 o j (strV (c.now.keys.take j)) ∧ (∀ q, o.ownBlock = some q → w.heap.size ≤ q) ∧ Fr (fun _ => False) w wr) (fun o i _ => c.now.length - (RowKit.intOf i).toNat)
    case atStart => exact ⟨0, Nat.zero_le _, rfl, HST.out, fun q hq => by simp [Value.ownBlock] at hq; omega, (Fr.refl (fun _ => False) w).alloc _⟩
    case round =>
      obtain ⟨j, hj, rfl, hrow, hown, hfr⟩ := hrel
      have hin := H.out.fr hfr fun _ _ => id
      have b2 : wr.cell? ⟨p, 2, none⟩ = some (.slice A c.now.length cp) := hin.blk.cell 2
      by_cases hlt : j < c.now.length
      · obtain ⟨⟨name, m⟩, hmem⟩ : ∃ y, c.now[j]? = some y := ⟨_, List.getElem?_eq_getElem hlt⟩
        obtain ⟨g, cp', hv, _, _, hcell, _, _⟩ := hin.now.form (by omega)
        obtain ⟨rfl, rfl⟩ : A = some ⟨g, 0, none⟩ ∧ cp = cp' := by simpa using hv
        obtain ⟨d0, d1⟩ := entCells_get c.now j _ hmem
        have c0 := hcell _ _ d0
        simp only at c0
        have HM := Lib.hid hmem
        have HR := Lib.hid hrow
        have HO := Lib.hid hown
        clear hv d0 d1 hcell hmem hrow hown hin
        go_wp2_with (at_builtin; refine wpList_append_row _ rfl (.tmp 21) (.tmp 30) 44 rfl 9 i0 _ 1 16 Tryd.underlying44 hi0 hz0 hz1 hz2 rfl (by decide) u4 _ _ rfl (HR.out.alloc _) _ 1 _ rfl (Row.made wr 9 1 1 #[.string (str name)] rfl (by decide)).src (string_one _) (by simp only [maxLen]; omega) (by omega) ?_; intro v5 w5 hrow5 hfr5 hwh5)
        refine ⟨⟨j + 1, by omega, by go_num, ?_, ?_, (hfr.alloc _).trans hfr5 fun q hq => .inr (HO.out q hq)⟩, by simp [RowKit.intOf]; omega⟩
        · rw [strV_snoc _ j name (keys_get _ _ _ HM.out)]
          exact hrow5
        · intro q hq
          rcases hwh5 with h | h
          · exact HO.out q (by rw [← h]; exact hq)
          · rw [h] at hq
            injection hq with hq
            have := hfr.size
            simp at hq
            omega
      · obtain rfl : j = c.now.length := by omega
        have HR := Lib.hid hrow
        have HO := Lib.hid hown
        clear hrow hown hin
        go_wp2
        go_ret2
        refine ⟨_, rfl, ?_, HO.out, hfr⟩
        have := HR.out
        have e : c.now.keys.length = c.now.length := by simp [Folder.keys]
        rw [← e, List.take_length] at this
        exact this
  · rw [ho] at h7
    simp only [if_true]
    clear ho h hst
    go_enter Tryd.func39, Tryd.ntmps39
    go_wp2
    go_ret2
    exact ⟨_, rfl, HST.out, fun q hq => by simp [Value.ownBlock] at hq; omega, (Fr.refl (fun _ => False) w).alloc _⟩
end

set_option maxHeartbeats 2000000 in
theorem texts_calls (v u : Value) (a b : List Txt) (w : World) (ha : Row w 9 1 v a.length (strV a)) (hb : Row w 9 1 u b.length (strV b)) :
    Calls Tryd.prog 40 #[v, u] w fun e w' => e = .returned (.bool (decide (a = b))) ∧ Fr (fun _ => False) w w' := by
  obtain ⟨A, cp, rfl, hcp1, hcp2⟩ := ha.shape
  obtain ⟨A2, cq, rfl, hcq1, hcq2⟩ := hb.shape
  have HA := Lib.hid ha
  have HB := Lib.hid hb
  have ha1 := ha.le
  have hb1 := hb.le
  clear ha hb
  by_cases hl : a.length = b.length
  · have hl1 : (a.length : Int) = (b.length : Int) := by omega
    have HL := Lib.hid hl
    rw [hl] at HA ⊢
    clear hl hl1
    go_enter Tryd.func40, Tryd.ntmps40
    go_wp2
    go_loopw [5] (fun i wr => ∃ j : Nat, j ≤ b.length ∧ i = .int .i64 j ∧ a.take j = b.take j ∧ Fr (fun _ => False) w wr) (fun i _ => b.length - (RowKit.intOf i).toNat)
    case atStart => exact ⟨0, Nat.zero_le _, rfl, rfl, Fr.refl _ _⟩
    case round =>
      obtain ⟨j, hj, rfl, hsame, hfr⟩ := hrel
      have HS := Lib.hid hsame
      clear hsame
      by_cases hlt : j < b.length
      · obtain ⟨y, hy⟩ : ∃ y, b[j]? = some y := ⟨_, List.getElem?_eq_getElem hlt⟩
        obtain ⟨x, hx⟩ : ∃ x, a[j]? = some x := ⟨_, List.getElem?_eq_getElem (by rw [HL.out]; exact hlt)⟩
        have hra := HA.out.fr hfr fun _ _ => id
        have hrb := HB.out.fr hfr fun _ _ => id
        obtain ⟨g, cp', hv, _, _, hcell, _, _⟩ := hra.form (by omega)
        obtain ⟨rfl, rfl⟩ : A = some ⟨g, 0, none⟩ ∧ cp = cp' := by simpa using hv
        obtain ⟨g2, cq', hv2, _, _, hcell2, _, _⟩ := hrb.form (by omega)
        obtain ⟨rfl, rfl⟩ : A2 = some ⟨g2, 0, none⟩ ∧ cq = cq' := by simpa using hv2
        have c0 := hcell j (.string (str x)) (by unfold strV; rw [List.getElem?_map, hx]; rfl)
        have c1 := hcell2 j (.string (str y)) (by unfold strV; rw [List.getElem?_map, hy]; rfl)
        have HX := Lib.hid hx
        have HY := Lib.hid hy
        clear hv hv2 hcell hcell2 hx hy hra hrb
        by_cases he : x = y
        · have he2 := str_same he
          have HE := Lib.hid he
          clear he
          go_wp2_with fail
          go_quiet (fail)
          go_wp2_with fail
          refine ⟨⟨j + 1, by omega, by go_num, ?_, hfr.drewN nq⟩, by simp [RowKit.intOf]; omega⟩
          rw [take_snoc' _ _ _ HX.out, take_snoc' _ _ _ HY.out, HS.out, HE.out]
        · have he2 := str_other he
          have HE := Lib.hid he
          clear he
          go_wp2_with fail
          go_quiet (fail)
          go_wp2_with fail
          go_ret
          have e : decide (a = b) = false := by
            rw [decide_eq_false_iff_not]
            intro e
            have h1 := HX.out
            rw [e, HY.out] at h1
            injection h1 with h1
            exact HE.out h1.symm
          exact ⟨by rw [e]; rfl, hfr.drewN nq⟩
      · obtain rfl : j = b.length := by omega
        go_wp2
        go_ret
        have e : decide (a = b) = true := by
          rw [decide_eq_true_eq]
          have := HS.out
          rw [List.take_length, ← HL.out, List.take_length] at this
          exact this
        exact ⟨by rw [e]; rfl, hfr⟩
  · have hl1 : ¬ (a.length : Int) = (b.length : Int) := by omega
    have e : decide (a = b) = false := by
      rw [decide_eq_false_iff_not]
      rintro rfl
      exact hl rfl
    rw [e]
    clear e hl
    go_enter Tryd.func40, Tryd.ntmps40
    go_wp2
    go_ret
    exact ⟨rfl, Fr.refl _ _⟩
end Chart
