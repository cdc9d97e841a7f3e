/- Append. -/
import Derived.Test.YtophgamjhngppaaDoorCabK
namespace Chart
open Go Go.RowKit Go.Proofs
attribute [local go_sem ↓] Go.wp_at_zero Go.wp_at_succ

theorem u8_info : (Tryd.prog.info? 5).map (fun i => (i.zero, i.size, i.bytes)) = some (some (.int .u8 0), 1, 1) := by kernel_rfl

section
variable {w w' w1 w2 : World} {p : Nat} {c : Cab} {fv : Value} {avs : List Value} {nb sb : Nat} {wv : Value} {D : Nat → Prop}

theorem append_end (h : CabIn w p c fv avs nb sb wv) (hD : ∀ k, CabOwn p fv avs nb sb wv k → D k) {n g cp : Nat} {f : FileS} {v v' : Value} {l : Txt} (hfv : fv = .slice (some ⟨g, 0, none⟩) c.files.length cp) (hf : c.files[n]? = some f) (hv : avs[n]? = some v)
    (hrow : Bytes w1 v' (f.all ++ l)) (hfr : Fr (fun k => v.ownBlock = some k) w w1) (hw : v'.ownBlock = v.ownBlock ∨ v'.ownBlock = some w.heap.size) :
    ∃ D', After w D p { c with files := c.files.set n { f with all := f.all ++ l } } D' (w1.setCell ⟨g, n * 2, none⟩ v') := by
  subst hfv
  have hn : n < c.files.length := (List.getElem?_eq_some_iff.1 hf).1
  obtain ⟨v0, hv0, hb⟩ := h.bytes n f hf
  rw [hv] at hv0
  cases hv0
  have hv' : ∀ k, v'.ownBlock = some k → v.ownBlock = some k ∨ w.heap.size ≤ k := by
    intro k hk
    rcases hw with e | e
    · exact .inl (by rw [← e]; exact hk)
    · rw [e] at hk
      injection hk with hk
      exact .inr (by omega)
  have hr1 := h.files.fr hfr fun k hk e => h.files.ne_row hb (by decide) hk e
  have hr := hr1.set (n * 2) v'
  rw [fileCells_all avs c.files n f hf v' (f.all ++ l) h.len] at hr
  have F2 : Fr (fun k => (Value.slice (some ⟨g, 0, none⟩) c.files.length cp).ownBlock = some k) w1 (w1.setCell ⟨g, n * 2, none⟩ v') := (Fr.refl (fun k => (Value.slice (some ⟨g, 0, none⟩) c.files.length cp).ownBlock = some k) w1).setCell (p := ⟨g, n * 2, none⟩) (.inl rfl) _
  have ht := h.turnFile (f' := { f with all := f.all ++ l }) hv hfr (fun _ h => h) hrow hv' hr F2
  refine ⟨_, ⟨_, _, nb, sb, wv, ht, fun _ h => h, ht.lt⟩, ?_, ?_⟩
  · exact (hfr.mono fun k _ hk => hD k (.inr (.inr (.inl ⟨v, List.mem_of_getElem? hv, hk⟩)))).trans F2 fun k hk => .inl (hD _ (.inr (.inl hk)))
  · rintro k (rfl | hk | ⟨u, hu, hk⟩ | rfl | rfl | hk)
    · exact .inl (hD _ (.inl rfl))
    · exact .inl (hD _ (.inr (.inl hk)))
    · rcases List.mem_or_eq_of_mem_set hu with h1 | h1
      · exact .inl (hD _ (.inr (.inr (.inl ⟨u, h1, hk⟩))))
      · subst h1
        rcases hv' k hk with h2 | h2
        · exact .inl (hD _ (.inr (.inr (.inl ⟨v, List.mem_of_getElem? hv, h2⟩))))
        · exact .inr h2
    · exact .inl (hD _ (.inr (.inr (.inr (.inl rfl)))))
    · exact .inl (hD _ (.inr (.inr (.inr (.inr (.inl rfl))))))
    · exact .inl (hD _ (.inr (.inr (.inr (.inr (.inr hk))))))

theorem CabAt.used (h : CabAt w p c D) (hall : ∀ f ∈ c.files, f.all.length ≤ 1048576) (hn : c.files.length ≤ 1000000) :
    Calls Tryd.prog 18 #[.pointer (some ⟨p, 0, none⟩)] w fun e w' => e = .returned (.tuple #[.int .i64 (c.used : Nat), .int .i64 c.quota]) ∧ Fr (fun _ => False) w w' := by
  obtain ⟨fv, avs, nb, sb, wv, hi, hD, hlt⟩ := h
  exact hi.used hall hn

theorem used_le (hall : ∀ f ∈ c.files, f.all.length ≤ 1048576) (hn : c.files.length ≤ 1000000) : c.used ≤ 1048576000000 := by
  have := usedTo_le 1048576 c.files hall c.files.length
  rw [List.take_length] at this
  have e : usedTo c.files = c.used := rfl
  rw [e] at this
  exact Nat.le_trans this (Nat.mul_le_mul_right 1048576 hn)

set_option maxRecDepth 100000 in
set_option maxHeartbeats 4000000 in
theorem append_calls (h : CabAt w p c D) (k : Txt) (hk : k.length ≤ maxLen) (a0 : -1 ≤ c.after) (a1 : c.after ≤ 9223372036854775807) (q0 : 1 ≤ c.quota) (q1 : c.quota ≤ 1073741824) (hnn : ∀ x ∈ c.now, x.2 < c.files.length)
    (hall : ∀ f ∈ c.files, f.all.length ≤ 1048576) (hfl : c.files.length ≤ 1000000) (l : Txt) (B : Value) (hB : BytesSrc w B l) (hBD : ∀ k, B.ownBlock = some k → ¬ D k) :
    Calls Tryd.prog 20 #[.pointer (some ⟨p, 0, none⟩), .string (str k), B] w fun e w' => e = .returned (.int .i64 (c.append k l).2) ∧ ∃ D', After w D p (c.append k l).1 D' w' := by
  have hf := h.find k hk
  have HA := Lib.hid h
  have hfl' := find_lt hnn (k := k)
  have hu := h.used hall hfl
  have hul := used_le hall hfl
  obtain ⟨_, AB, cB, rfl, hlc, hlm, _⟩ := id hB
  generalize hfe : c.find k = r at hf hfl'
  obtain ⟨n, q⟩ := r
  simp only at hf hfl'
  by_cases hq : q = 0
  · subst hq
    have hn := hfl' rfl
    obtain ⟨fv, avs, nb, sb, wv, hi, hD, hlt⟩ := id h
    obtain ⟨g, cp, v, f, hv, hcp, ha, hfn, hg, c0, c1, hb⟩ := hi.file hn
    have hfall := hall f (List.mem_of_getElem? hfn)
    have hcf : c.file n = f := by unfold Cab.file; rw [List.getD_eq_getElem?_getD, hfn]; rfl
    subst hv
    obtain ⟨A', c', rfl, _, _⟩ := hb.shape
    have b1 : w.cell? ⟨p, 1, none⟩ = some (.slice (some ⟨g, 0, none⟩) c.files.length cp) := hi.blk.cell 1
    have i1 : (0 : Int) ≤ (n : Int) := by omega
    have i2 : (n : Int) < (c.files.length : Int) := by omega
    by_cases h17 : (1048576 : Int) - (f.all.length : Int) < (l.length : Int)
    · have ht : c.append k l = (c, 17) := by unfold Cab.append; rw [hfe]; simp only [hcf]; simp [h17]
      rw [ht]
      have HF := Lib.hid hf
      have HU := Lib.hid hu
      clear ht h hf hfe hnn hfl' hu hcf hfn hall ha
      go_enter Tryd.func20, Tryd.ntmps20
      go_wp2_with (first
        | (go_at_call 49; refine HF.out.mono ?_; rintro e w' ⟨rfl, rfl⟩)
        | (go_at_call 18; refine HU.out.mono ?_; rintro e w1 ⟨rfl, hF1⟩; have b1' := hF1.cell b1 id; have c0' := hF1.cell c0 id))
      go_ret
      exact ⟨rfl, D, HA.out.fr hF1 (fun _ _ => id), hF1.mono fun _ _ h => h.elim, fun _ h => .inl h⟩
    · by_cases h10 : c.quota - (c.used : Int) < (l.length : Int)
      · have ht : c.append k l = (c, 10) := by unfold Cab.append; rw [hfe]; simp only [hcf]; simp [h17, h10]
        rw [ht]
        have HF := Lib.hid hf
        have HU := Lib.hid hu
        clear ht h hf hfe hnn hfl' hu hcf hfn hall ha
        go_enter Tryd.func20, Tryd.ntmps20
        go_wp2_with (first
          | (go_at_call 49; refine HF.out.mono ?_; rintro e w' ⟨rfl, rfl⟩)
          | (go_at_call 18; refine HU.out.mono ?_; rintro e w1 ⟨rfl, hF1⟩; have b1' := hF1.cell b1 id; have c0' := hF1.cell c0 id))
        go_ret
        exact ⟨rfl, D, HA.out.fr hF1 (fun _ _ => id), hF1.mono fun _ _ h => h.elim, fun _ h => .inl h⟩
      · have hs := fun (w1 : World) (h1 : CabAt w1 p c D) => h1.spend a0 a1
        rcases spend_cases c with ⟨e2, e1⟩ | ⟨e2, a, e1⟩
        · have ht : c.append k l = (c.spend.1, 11) := by unfold Cab.append; rw [hfe]; simp only [hcf]; simp [h17, h10, e2]; rw [← e2]
          rw [ht]
          simp only [e2] at hs
          have HF := Lib.hid hf
          have HU := Lib.hid hu
          have HS := Lib.hid hs
          clear ht h hf hfe hnn hfl' hu hcf hfn hall ha hs e1 e2
          go_enter Tryd.func20, Tryd.ntmps20
          go_wp2_with (first
            | (go_at_call 49; refine HF.out.mono ?_; rintro e w' ⟨rfl, rfl⟩)
            | (go_at_call 18; refine HU.out.mono ?_; rintro e w1 ⟨rfl, hF1⟩; have b1' := hF1.cell b1 id; have c0' := hF1.cell c0 id)
            | (go_at_call 53; refine (HS.out _ (HA.out.fr hF1 (fun _ _ => id))).mono ?_; rintro e w2 ⟨rfl, hA1⟩))
          go_ret
          exact ⟨rfl, _, (After.mk (HA.out.fr hF1 (fun _ _ => id)) (hF1.mono fun _ _ h => h.elim) fun _ h => .inl h).trans hA1⟩
        · have ht : c.append k l = (c.spend.1.setFile n { c.spend.1.file n with all := (c.spend.1.file n).all ++ l }, 0) := by unfold Cab.append; rw [hfe]; simp only [hcf]; simp [h17, h10, e2]
          rw [ht]
          simp only [e2] at hs
          have hn1 : n < c.spend.1.files.length := by rw [e1]; exact hn
          have hf2 : c.spend.1.files[n]? = some f := by rw [e1]; exact hfn
          have HF := Lib.hid hf
          have HU := Lib.hid hu
          have HS := Lib.hid hs
          have HF2 := Lib.hid hf2
          clear ht h hf hfe hnn hfl' hu hcf hfn hall ha hs e1 e2 hf2
          obtain ⟨i0, hi0, hz0, hz1, hz2⟩ := info_parts u8_info
          go_enter Tryd.func20, Tryd.ntmps20
          go_wp2_with (first
            | (go_at_call 49; refine HF.out.mono ?_; rintro e w' ⟨rfl, rfl⟩)
            | (go_at_call 18; refine HU.out.mono ?_; rintro e w1 ⟨rfl, hF1⟩; have b1' := hF1.cell b1 id; have c0' := hF1.cell c0 id)
            | (go_at_call 53; refine (HS.out _ (HA.out.fr hF1 (fun _ _ => id))).mono ?_; rintro e w2 ⟨rfl, hA1⟩))
          have hB2 := (hB.fr hF1 fun _ _ _ => id).fr hA1.fr fun k _ hk => hBD k hk
          obtain ⟨fv2, avs2, nb2, sb2, wv2, hi2, hD2, hlt2⟩ := hA1.at_
          obtain ⟨g2, cp2, v2, f2, hv2, _, ha2, hfn2, hg2, d0, d1, hb2⟩ := hi2.file hn1
          rw [HF2.out] at hfn2
          cases hfn2
          subst hv2
          obtain ⟨A2, c2, rfl, _, _⟩ := hb2.shape
          have r1 : w2.cell? ⟨p, 1, none⟩ = some (.slice (some ⟨g2, 0, none⟩) c.spend.1.files.length cp2) := hi2.blk.cell 1
          have i3 : (n : Int) < (c.spend.1.files.length : Int) := by omega
          have hpb : ¬ (Value.slice A2 f.all.length c2).ownBlock = some p := fun e => hb2.ne_blk hi2.blk (by decide) e
          have hgb : ¬ (Value.slice A2 f.all.length c2).ownBlock = some g2 := fun e => hb2.ne_row hi2.files (by decide) e rfl
          have hsum1 : f.all.length + l.length ≤ maxLen := by simp only [maxLen]; omega
          have hsum2 : (f.all.length + l.length) * 1 ≤ 140737488355328 := by omega
          have HHA := Lib.hid ha2
          have HI2 := Lib.hid hi2
          have hd := hi2.files
          clear ha2
          go_region_law ((refine step_append_row _ (by rfl) (.tmp 64) (.tmp 65) 35 (by rfl) 5 i0 _ 1 1 Tryd.underlying35 hi0 hz0 hz1 hz2 (by rfl) (by decide) (.slice A2 f.all.length c2) f.all.length (bytesV f.all) (by rfl) hb2.drew (.slice AB l.length cB) l.length (bytesV l) (by rfl) hB2.drew (bytesV_one l) hsum1 hsum2 ?_; intro v3 w3 hrow3 hfr3 hwh3; obtain ⟨A3, c3, rfl, _, _⟩ := hrow3.shape; have s1 := hfr3.undrew.cell r1 hpb; have s2 := hfr3.undrew.cell d0 hgb; have s3 := rowfree (hd.fr hfr3.undrew (fun k hk e => hgb (e.trans hk.symm))) (n * 2)))
          all_goals
            go_wp2_with fail
            go_ret
            have hfd : c.spend.1.file n = f := by unfold Cab.file; rw [List.getD_eq_getElem?_getD, HF2.out]; rfl
            have hbb : Bytes w3 (.slice A3 (f.all.length + l.length) c3) (f.all ++ l) := by
              show Row _ _ _ _ _ _
              rw [List.length_append, bytesV_append]
              exact hrow3
            obtain ⟨D3, hA3⟩ := append_end HI2.out hD2 rfl HF2.out HHA.out hbb hfr3.undrew hwh3
            unfold Cab.setFile
            rw [hfd]
            exact ⟨rfl, D3, ((After.mk (HA.out.fr hF1 (fun _ _ => id)) (hF1.mono fun _ _ h => h.elim) fun _ h => .inl h).trans hA1).trans hA3⟩
  · have ht : c.append k l = (c, q) := by unfold Cab.append; rw [hfe]; simp [hq]
    rw [ht]
    have HF := Lib.hid hf
    have hb : (q == 0) = false := by simp [hq]
    have hb2 : (q != 0) = true := by simp [hq]
    clear ht h hf hfe hnn hfl' hu hall
    go_enter Tryd.func20, Tryd.ntmps20
    go_wp2_with (go_at_call 49; refine HF.out.mono ?_; rintro e w' ⟨rfl, rfl⟩)
    go_ret
    exact ⟨rfl, D, After.same HA.out⟩
end
end Chart
