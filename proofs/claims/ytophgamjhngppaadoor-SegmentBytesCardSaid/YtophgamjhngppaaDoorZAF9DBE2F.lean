import Derived.Test.YtophgamjhngppaaDoorZ7F645C99
import Derived.WalkSpells
import Derived.Maps.Ext
import Derived.Laws.BitsAllLaws
/- Append. -/
namespace Chart
open Go Go.RowKit Go.Proofs
attribute [local go_sem ↓] Go.wp_at_zero Go.wp_at_succ

theorem u8_info : (Tryd.prog.info? 5).map (fun i => (i.zero, i.size, i.bytes)) = some (some (.int .u8 0), 1, 1) := by kernel_rfl

section
variable {w w' w1 w2 : World} {p : Nat} {c : Cab} {fv : Value} {avs : List Value} {nb sb : Nat} {wv : Value} {D : Nat → Prop}

theorem append_end (h : CabIn w p c fv avs nb sb wv) (hD : ∀ k, CabOwn p fv avs nb sb wv k → D k) {n g cp : Nat} {f : FileS} {v v' : Value} {l : Txt} (hfv : fv = .slice (some ⟨g, 0, none⟩) c.files.length cp) (hf : c.files[n]? = some f) (hv : avs[n]? = some v)
    (hrow : Bytes w1 v' (f.all ++ l)) (hfr : Fr (fun k => v.ownBlock = some k) w w1) (hw : v'.ownBlock = v.ownBlock ∨ v'.ownBlock = some w.heap.size) :
    ∃ D', After w D p { c with files := c.files.set n { f with all := f.all ++ l } } D' (w1.setCell ⟨g, n * 2, none⟩ v') := by
  subst hfv
  have hn : n < c.files.length := (List.getElem?_eq_some_iff.1 hf).1
  obtain ⟨v0, hv0, hb⟩ := h.bytes n f hf
  rw [hv] at hv0
  cases hv0
  have hv' : ∀ k, v'.ownBlock = some k → v.ownBlock = some k ∨ w.heap.size ≤ k := by
    intro k hk
    rcases hw with e | e
    · exact .inl (by rw [← e]; exact hk)
    · rw [e] at hk
      injection hk with hk
      exact .inr (by omega)
  have hr1 := h.files.fr hfr fun k hk e => h.files.ne_row hb (by decide) hk e
  have hr := hr1.set (n * 2) v'
  rw [fileCells_all avs c.files n f hf v' (f.all ++ l) h.len] at hr
  have F2 : Fr (fun k => (Value.slice (some ⟨g, 0, none⟩) c.files.length cp).ownBlock = some k) w1 (w1.setCell ⟨g, n * 2, none⟩ v') := (Fr.refl (fun k => (Value.slice (some ⟨g, 0, none⟩) c.files.length cp).ownBlock = some k) w1).setCell (p := ⟨g, n * 2, none⟩) (.inl rfl) _
  have ht := h.turnFile (f' := { f with all := f.all ++ l }) hv hfr (fun _ h => h) hrow hv' hr F2
  refine ⟨_, ⟨_, _, nb, sb, wv, ht, fun _ h => h, ht.lt⟩, ?_, ?_⟩
  · exact (hfr.mono fun k _ hk => hD k (.inr (.inr (.inl ⟨v, List.mem_of_getElem? hv, hk⟩)))).trans F2 fun k hk => .inl (hD _ (.inr (.inl hk)))
  · rintro k (rfl | hk | ⟨u, hu, hk⟩ | rfl | rfl | hk)
    · exact .inl (hD _ (.inl rfl))
    · exact .inl (hD _ (.inr (.inl hk)))
    · rcases List.mem_or_eq_of_mem_set hu with h1 | h1
      · exact .inl (hD _ (.inr (.inr (.inl ⟨u, h1, hk⟩))))
      · subst h1
        rcases hv' k hk with h2 | h2
        · exact .inl (hD _ (.inr (.inr (.inl ⟨v, List.mem_of_getElem? hv, h2⟩))))
        · exact .inr h2
    · exact .inl (hD _ (.inr (.inr (.inr (.inl rfl)))))
    · exact .inl (hD _ (.inr (.inr (.inr (.inr (.inl rfl))))))
    · exact .inl (hD _ (.inr (.inr (.inr (.inr (.inr hk))))))

theorem CabAt.used (h : CabAt w p c D) (hall : ∀ f ∈ c.files, f.all.length ≤ 1048576) (hn : c.files.length ≤ 1000000) :
    Calls Tryd.prog 18 #[.pointer (some ⟨p, 0, none⟩)] w fun e w' => e = .returned (.tuple #[.int .i64 (c.used : Nat), .int .i64 c.quota]) ∧ Fr (fun _ => False) w w' := by
  obtain ⟨fv, avs, nb, sb, wv, hi, hD, hlt⟩ := h
  exact hi.used hall hn

theorem used_le (hall : ∀ f ∈ c.files, f.all.length ≤ 1048576) (hn : c.files.length ≤ 1000000) : c.used ≤ 1048576000000 := by
  have := usedTo_le 1048576 c.files hall c.files.length
  rw [List.take_length] at this
  have e : usedTo c.files = c.used := rfl
  rw [e] at this
  exact Nat.le_trans this (Nat.mul_le_mul_right 1048576 hn)

set_option maxRecDepth 100000 in
set_option maxHeartbeats 4000000 in
theorem append_calls (h : CabAt w p c D) (k : Txt) (hk : k.length ≤ maxLen) (a0 : -1 ≤ c.after) (a1 : c.after ≤ 9223372036854775807) (q0 : 1 ≤ c.quota) (q1 : c.quota ≤ 1073741824) (hnn : ∀ x ∈ c.now, x.2 < c.files.length)
    (hall : ∀ f ∈ c.files, f.all.length ≤ 1048576) (hfl : c.files.length ≤ 1000000) (l : Txt) (B : Value) (hB : BytesSrc w B l) (hBD : ∀ k, B.ownBlock = some k → 0 < l.length → ¬ D k) :
    Calls Tryd.prog 20 #[.pointer (some ⟨p, 0, none⟩), .string (str k), B] w fun e w' => e = .returned (.int .i64 (c.append k l).2) ∧ ∃ D', After w D p (c.append k l).1 D' w' := by
  have hf := h.find k hk
  have HA := Lib.hid h
  have hfl' := find_lt hnn (k := k)
  have hu := h.used hall hfl
  have hul := used_le hall hfl
  obtain ⟨_, AB, cB, rfl, hlc, hlm, _⟩ := id hB
  generalize hfe : c.find k = r at hf hfl'
  obtain ⟨n, q⟩ := r
  simp only at hf hfl'
  by_cases hq : q = 0
  · subst hq
    have hn := hfl' rfl
    obtain ⟨fv, avs, nb, sb, wv, hi, hD, hlt⟩ := id h
    obtain ⟨g, cp, v, f, hv, hcp, ha, hfn, hg, c0, c1, hb⟩ := hi.file hn
    have hfall := hall f (List.mem_of_getElem? hfn)
    have hcf : c.file n = f := by unfold Cab.file; rw [List.getD_eq_getElem?_getD, hfn]; rfl
    subst hv
    obtain ⟨A', c', rfl, _, _⟩ := hb.shape
    have b1 : w.cell? ⟨p, 1, none⟩ = some (.slice (some ⟨g, 0, none⟩) c.files.length cp) := hi.blk.cell 1
    have i1 : (0 : Int) ≤ (n : Int) := by omega
    have i2 : (n : Int) < (c.files.length : Int) := by omega
    by_cases h17 : (1048576 : Int) - (f.all.length : Int) < (l.length : Int)
    · have ht : c.append k l = (c, 17) := by unfold Cab.append; rw [hfe]; simp only [hcf]; simp [h17]
      rw [ht]
      have HF := Lib.hid hf
      have HU := Lib.hid hu
      clear ht h hf hfe hnn hfl' hu hcf hfn hall ha
      go_enter Tryd.func20, Tryd.ntmps20
      go_wp2_with (first
        | (go_at_call 49; refine HF.out.mono ?_; rintro e w' ⟨rfl, rfl⟩)
        | (go_at_call 18; refine HU.out.mono ?_; rintro e w1 ⟨rfl, hF1⟩; have b1' := hF1.cell b1 id; have c0' := hF1.cell c0 id))
      go_ret
      exact ⟨rfl, D, HA.out.fr hF1 (fun _ _ => id), hF1.mono fun _ _ h => h.elim, fun _ h => .inl h⟩
    · by_cases h10 : c.quota - (c.used : Int) < (l.length : Int)
      · have ht : c.append k l = (c, 10) := by unfold Cab.append; rw [hfe]; simp only [hcf]; simp [h17, h10]
        rw [ht]
        have HF := Lib.hid hf
        have HU := Lib.hid hu
        clear ht h hf hfe hnn hfl' hu hcf hfn hall ha
        go_enter Tryd.func20, Tryd.ntmps20
        go_wp2_with (first
          | (go_at_call 49; refine HF.out.mono ?_; rintro e w' ⟨rfl, rfl⟩)
          | (go_at_call 18; refine HU.out.mono ?_; rintro e w1 ⟨rfl, hF1⟩; have b1' := hF1.cell b1 id; have c0' := hF1.cell c0 id))
        go_ret
        exact ⟨rfl, D, HA.out.fr hF1 (fun _ _ => id), hF1.mono fun _ _ h => h.elim, fun _ h => .inl h⟩
      · have hs := fun (w1 : World) (h1 : CabAt w1 p c D) => h1.spend a0 a1
        rcases spend_cases c with ⟨e2, e1⟩ | ⟨e2, a, e1⟩
        · have ht : c.append k l = (c.spend.1, 11) := by unfold Cab.append; rw [hfe]; simp only [hcf]; simp [h17, h10, e2]; rw [← e2]
          rw [ht]
          simp only [e2] at hs
          have HF := Lib.hid hf
          have HU := Lib.hid hu
          have HS := Lib.hid hs
          clear ht h hf hfe hnn hfl' hu hcf hfn hall ha hs e1 e2
          go_enter Tryd.func20, Tryd.ntmps20
          go_wp2_with (first
            | (go_at_call 49; refine HF.out.mono ?_; rintro e w' ⟨rfl, rfl⟩)
            | (go_at_call 18; refine HU.out.mono ?_; rintro e w1 ⟨rfl, hF1⟩; have b1' := hF1.cell b1 id; have c0' := hF1.cell c0 id)
            | (go_at_call 53; refine (HS.out _ (HA.out.fr hF1 (fun _ _ => id))).mono ?_; rintro e w2 ⟨rfl, hA1⟩))
          go_ret
          exact ⟨rfl, _, (After.mk (HA.out.fr hF1 (fun _ _ => id)) (hF1.mono fun _ _ h => h.elim) fun _ h => .inl h).trans hA1⟩
        · have ht : c.append k l = (c.spend.1.setFile n { c.spend.1.file n with all := (c.spend.1.file n).all ++ l }, 0) := by unfold Cab.append; rw [hfe]; simp only [hcf]; simp [h17, h10, e2]
          rw [ht]
          simp only [e2] at hs
          have hn1 : n < c.spend.1.files.length := by rw [e1]; exact hn
          have hf2 : c.spend.1.files[n]? = some f := by rw [e1]; exact hfn
          have HF := Lib.hid hf
          have HU := Lib.hid hu
          have HS := Lib.hid hs
          have HF2 := Lib.hid hf2
          clear ht h hf hfe hnn hfl' hu hcf hfn hall ha hs e1 e2 hf2
          obtain ⟨i0, hi0, hz0, hz1, hz2⟩ := info_parts u8_info
          go_enter Tryd.func20, Tryd.ntmps20
          go_wp2_with (first
            | (go_at_call 49; refine HF.out.mono ?_; rintro e w' ⟨rfl, rfl⟩)
            | (go_at_call 18; refine HU.out.mono ?_; rintro e w1 ⟨rfl, hF1⟩; have b1' := hF1.cell b1 id; have c0' := hF1.cell c0 id)
            | (go_at_call 53; refine (HS.out _ (HA.out.fr hF1 (fun _ _ => id))).mono ?_; rintro e w2 ⟨rfl, hA1⟩))
          have hB2 := (hB.fr hF1 fun _ _ _ => id).frl hA1.fr hBD
          obtain ⟨fv2, avs2, nb2, sb2, wv2, hi2, hD2, hlt2⟩ := hA1.at_
          obtain ⟨g2, cp2, v2, f2, hv2, _, ha2, hfn2, hg2, d0, d1, hb2⟩ := hi2.file hn1
          rw [HF2.out] at hfn2
          cases hfn2
          subst hv2
          obtain ⟨A2, c2, rfl, _, _⟩ := hb2.shape
          have r1 : w2.cell? ⟨p, 1, none⟩ = some (.slice (some ⟨g2, 0, none⟩) c.spend.1.files.length cp2) := hi2.blk.cell 1
          have i3 : (n : Int) < (c.spend.1.files.length : Int) := by omega
          have hpb : ¬ (Value.slice A2 f.all.length c2).ownBlock = some p := fun e => hb2.ne_blk hi2.blk (by decide) e
          have hgb : ¬ (Value.slice A2 f.all.length c2).ownBlock = some g2 := fun e => hb2.ne_row hi2.files (by decide) e rfl
          have hsum1 : f.all.length + l.length ≤ maxLen := by simp only [maxLen]; omega
          have hsum2 : (f.all.length + l.length) * 1 ≤ 140737488355328 := by omega
          have HHA := Lib.hid ha2
          have HI2 := Lib.hid hi2
          have hd := hi2.files
          clear ha2
          go_region_law ((refine step_append_row _ (by rfl) (.tmp 64) (.tmp 65) 35 (by rfl) 5 i0 _ 1 1 Tryd.underlying35 hi0 hz0 hz1 hz2 (by rfl) (by decide) (.slice A2 f.all.length c2) f.all.length (bytesV f.all) (by rfl) hb2.drew (.slice AB l.length cB) l.length (bytesV l) (by rfl) hB2.drew (bytesV_one l) hsum1 hsum2 ?_; intro v3 w3 hrow3 hfr3 hwh3; obtain ⟨A3, c3, rfl, _, _⟩ := hrow3.shape; have s1 := hfr3.undrew.cell r1 hpb; have s2 := hfr3.undrew.cell d0 hgb; have s3 := rowfree (hd.fr hfr3.undrew (fun k hk e => hgb (e.trans hk.symm))) (n * 2)))
          all_goals
            go_wp2_with fail
            go_ret
            have hfd : c.spend.1.file n = f := by unfold Cab.file; rw [List.getD_eq_getElem?_getD, HF2.out]; rfl
            have hbb : Bytes w3 (.slice A3 (f.all.length + l.length) c3) (f.all ++ l) := by
              show Row _ _ _ _ _ _
              rw [List.length_append, bytesV_append]
              exact hrow3
            obtain ⟨D3, hA3⟩ := append_end HI2.out hD2 rfl HF2.out HHA.out hbb hfr3.undrew hwh3
            unfold Cab.setFile
            rw [hfd]
            exact ⟨rfl, D3, ((After.mk (HA.out.fr hF1 (fun _ _ => id)) (hF1.mono fun _ _ h => h.elim) fun _ h => .inl h).trans hA1).trans hA3⟩
  · have ht : c.append k l = (c, q) := by unfold Cab.append; rw [hfe]; simp [hq]
    rw [ht]
    have HF := Lib.hid hf
    have hb : (q == 0) = false := by simp [hq]
    have hb2 : (q != 0) = true := by simp [hq]
    clear ht h hf hfe hnn hfl' hu hall
    go_enter Tryd.func20, Tryd.ntmps20
    go_wp2_with (go_at_call 49; refine HF.out.mono ?_; rintro e w' ⟨rfl, rfl⟩)
    go_ret
    exact ⟨rfl, D, After.same HA.out⟩
end
end Chart

/- slices.Clone, slices.Clip of bytes; Read, Names. -/
namespace Chart
open Go Go.RowKit Go.Proofs

theorem clip_calls (v : Value) (l : Txt) (w : World) (h : Bytes w v l) :
    Calls Tryd.prog 47 #[v] w fun e w' => ∃ v', e = .returned v' ∧ Bytes w v' l ∧ v'.ownBlock = v.ownBlock ∧ w = w' := by
  rcases h.2 with ⟨rfl, h0⟩ | ⟨g, cap, cur, rfl, hg, hc, hm, hs, ht⟩
  · go_enter Tryd.func47, Tryd.ntmps47
    go_wp2
    go_ret
    exact ⟨_, rfl, h, rfl, rfl⟩
  · have hl := h.le
    have hfront := Row.front h l.length l.length (Nat.le_refl _) (Nat.le_refl _) hc
    rw [List.take_of_length_le (by rw [bytesV_length]; omega)] at hfront
    clear h hg ht
    go_enter Tryd.func47, Tryd.ntmps47
    go_wp2
    go_ret
    exact ⟨_, rfl, hfront, rfl, rfl⟩

set_option maxHeartbeats 1000000 in
theorem cloneb_calls (B : Value) (l : Txt) (w : World) (h : BytesSrc w B l) (hl : l.length ≤ 140737488355328) :
    Calls Tryd.prog 50 #[B] w fun e w' => ∃ v', e = .returned v' ∧ Bytes w' v' l ∧ (∀ k, v'.ownBlock = some k → w.heap.size ≤ k) ∧ Fr (fun _ => False) w w' := by
  obtain ⟨i0, hi0, hz0, hz1, hz2⟩ := info_parts u8_info
  obtain ⟨_, A, c, rfl, hlc, hlm, hA, _⟩ := id h
  cases A with
  | none =>
    obtain ⟨h0, rfl⟩ := hA rfl
    obtain rfl : l = [] := List.eq_nil_of_length_eq_zero h0
    have he := @Lib.run_eql_slice_nil
    go_enter Tryd.func50, Tryd.ntmps50
    go_wp2
    go_ret
    exact ⟨_, rfl, Row.nil _ _ _, fun k hk => by simp [Value.ownBlock] at hk, Fr.refl _ _⟩
  | some a =>
    have he := @Lib.run_eql_slice_nil
    go_enter Tryd.func50, Tryd.ntmps50
    go_wp2_with (at_builtin; refine wpList_append_row _ rfl (.tmp 5) (.tmp 6) 35 rfl 5 i0 _ 1 1 Tryd.underlying35 hi0 hz0 hz1 hz2 rfl (by decide) (.slice (some ⟨w.heap.size, 0, none⟩) 0 0) 0 [] rfl (Row.made w 5 1 0 #[] rfl (Nat.zero_le _)) (.slice (some a) l.length c) l.length (bytesV l) rfl (h.alloc _) (bytesV_one l) (by simp only [maxLen]; omega) (by omega) ?_; intro v3 w3 hrow3 hfr3 hwh3)
    go_ret
    refine ⟨v3, rfl, by simpa using hrow3, fun k hk => ?_, ((Fr.refl (fun _ => False) w).alloc _).trans hfr3 fun i h => .inr (by simp [Value.ownBlock] at h; omega)⟩
    · rcases hwh3 with h | h
      · rw [h] at hk
        simp [Value.ownBlock] at hk
        omega
      · rw [h] at hk
        injection hk with hk
        simp at hk
        omega

section
variable {w w' : World} {p : Nat} {c : Cab} {fv : Value} {avs : List Value} {nb sb : Nat} {wv : Value} {D : Nat → Prop}
set_option maxHeartbeats 1000000 in
theorem read_calls (h : CabAt w p c D) (k : Txt) (hk : k.length ≤ maxLen) (hnn : ∀ x ∈ c.now, x.2 < c.files.length) (hall : ∀ f ∈ c.files, f.all.length ≤ 1048576) :
    Calls Tryd.prog 16 #[.pointer (some ⟨p, 0, none⟩), .string (str k)] w fun e w' => ∃ v', e = .returned (.tuple #[v', .int .i64 (c.read k).2]) ∧ Bytes w' v' (c.read k).1 ∧ (∀ q, v'.ownBlock = some q → w.heap.size ≤ q) ∧ Fr (fun _ => False) w w' := by
  have hf := h.find k hk
  have hfl' := find_lt hnn (k := k)
  generalize hfe : c.find k = r at hf hfl'
  obtain ⟨n, q⟩ := r
  simp only at hf hfl'
  by_cases hq : q = 0
  · subst hq
    have hn := hfl' rfl
    obtain ⟨fv, avs, nb, sb, wv, hi, hD, hlt⟩ := id h
    obtain ⟨g, cp, v, f, hv, hcp, ha, hfn, hg, c0, c1, hb⟩ := hi.file hn
    have hfall := hall f (List.mem_of_getElem? hfn)
    have hcf : c.file n = f := by unfold Cab.file; rw [List.getD_eq_getElem?_getD, hfn]; rfl
    have ht : c.read k = (f.all, 0) := by unfold Cab.read; rw [hfe]; simp [hcf]
    rw [ht]
    subst hv
    have b1 : w.cell? ⟨p, 1, none⟩ = some (.slice (some ⟨g, 0, none⟩) c.files.length cp) := hi.blk.cell 1
    have HCl := Lib.hid (cloneb_calls v f.all w hb.src (by omega))
    obtain ⟨A', c', rfl, _, _⟩ := hb.shape
    have HF := Lib.hid hf
    clear ht h hf hfe hnn hfl' hcf hfn hall ha
    go_enter Tryd.func16, Tryd.ntmps16
    go_wp2_with (first
      | (go_at_call 49; refine HF.out.mono ?_; rintro e w' ⟨rfl, rfl⟩)
      | (go_at_call 50; refine HCl.out.mono ?_; rintro e w1 ⟨v1, rfl, hb1, hn1, hf1⟩)
      | (go_at_call 47; refine (clip_calls v1 f.all w1 hb1).mono ?_; rintro e w2 ⟨v2, rfl, hb2, ho2, rfl⟩))
    go_ret2
    exact ⟨v2, rfl, hb2, fun q hq => hn1 q (by rw [← ho2]; exact hq), hf1⟩
  · have ht : c.read k = ([], q) := by unfold Cab.read; rw [hfe]; simp [hq]
    rw [ht]
    have HF := Lib.hid hf
    have hb : (q == 0) = false := by simp [hq]
    have hb2 : (q != 0) = true := by simp [hq]
    clear ht h hf hfe hnn hfl' hall
    go_enter Tryd.func16, Tryd.ntmps16
    go_wp2_with (go_at_call 49; refine HF.out.mono ?_; rintro e w' ⟨rfl, rfl⟩)
    go_ret2
    exact ⟨_, rfl, Row.nil _ _ _, fun q hq => by simp [Value.ownBlock] at hq, Fr.refl _ _⟩
end
end Chart

/- slices.Sorted(maps.Keys(..)); Names. -/
namespace Chart
open Go Go.RowKit Go.Proofs Go.Maps Go.Sort Go.Shelf

def strV (l : List Txt) : List Value := l.map fun s => .string (str s)
theorem strV_length (l : List Txt) : (strV l).length = l.length := by simp [strV]

theorem before_lt : ∀ (a b : Txt), bytesBefore a b = true ↔ a < b
  | [], [] => by simp [bytesBefore]
  | [], _ :: _ => by simp [bytesBefore]
  | _ :: _, [] => by simp [bytesBefore]
  | x :: r, y :: s => by
    rw [List.cons_lt_cons_iff, ← before_lt r s]
    simp [bytesBefore]

theorem folder_sorted {P : Program} {k e : TypeId} (hk : P.underlying k = some .string) {w : World} {b : Nat} {F : Folder} (h : FolderAt P k e w b F) : F.Pairwise fun p q => bytesBefore p.1 q.1 = true := by
  obtain ⟨es, he, hp, _⟩ := World.ownsMap.canon h (Go.Maps.string_keyed hk)
  unfold folderD at he
  injection he with he
  subst he
  unfold folderEs at hp
  rw [List.pairwise_map] at hp
  exact hp

theorem keys_sort {F : Folder} (h : F.Pairwise fun p q => bytesBefore p.1 q.1 = true) {ss : List Txt} (hp : ss.Perm (strKeys (folderD F))) : ss.mergeSort (fun x y => decide (x ≤ y)) = F.keys := by
  have e : strKeys (folderD F) = F.keys := by
    unfold folderD strKeys folderEs Folder.keys
    simp only [List.map_map]
    rfl
  rw [e] at hp
  refine List.Perm.eq_of_pairwise (le := fun x y => decide (x ≤ y) = true) ?_ ?_ ?_ ((List.mergeSort_perm _ _).trans hp)
  · intro a b _ _ h1 h2
    simp only [decide_eq_true_eq] at h1 h2
    exact List.le_antisymm h1 h2
  · refine List.pairwise_mergeSort ?_ ?_ _
    · intro a b c h1 h2
      simp only [decide_eq_true_eq] at h1 h2 ⊢
      exact List.le_trans h1 h2
    · intro a b
      simp only [Bool.or_eq_true, decide_eq_true_eq]
      exact List.le_total a b
  · unfold Folder.keys
    rw [List.pairwise_map]
    exact h.imp fun h => by
      simp only [decide_eq_true_eq]
      exact List.le_of_lt ((before_lt _ _).1 h)

theorem sortsM (m : Nat) : AnyZ.SortsIn Tryd.prog Tryd.sortedM_ren Fence.wide m :=
  ⟨fun blk off cap ss W hH hblk hsz => callsIn_wide.2 (AnyM.slices_Sort_string Tryd.sortM blk off cap ss W hH hblk hsz),
   fun p cap W => callsIn_wide.2 (AnyM.slices_Sort_string_none Tryd.sortM p cap W)⟩

theorem keys_calls (mb : Option Nat) (W : World) : Calls Tryd.prog 46 #[.map mb] W fun e w' => e = .returned (.func (.func 79) #[] #[.pointer (some ⟨W.heap.size, 0, none⟩)]) ∧ w' = W.alloc (.cells #[.map mb] 77) :=
  (callsIn_wide (n := 5)).1 (AnyZ.keys_in Tryd.keysM Fence.wide 5 trivial rfl mb W)

set_option maxHeartbeats 1000000 in
theorem sorted_calls (b : Nat) (F : Folder) (w : World) (h : FolderIn w b F) (hn : F.length ≤ 100000000) :
    Calls Tryd.prog 45 #[.func (.func 79) #[] #[.pointer (some ⟨w.heap.size, 0, none⟩)]] (w.alloc (.cells #[.map (some b)] 77)) fun e w' => ∃ v, e = .returned v ∧
      Row w' 9 1 v F.keys.length (strV F.keys) ∧ (∀ q, v.ownBlock = some q → w.heap.size ≤ q) ∧ Fr (fun _ => False) w w' := by
  have hbl := h.lt
  have hmax : Maps.size (folderD F) ≤ maxLen := by rw [folderD_size]; simp only [maxLen]; omega
  have hbytes : Maps.size (folderD F) * 16 ≤ 140737488355328 := by rw [folderD_size]; omega
  have hseq : SeqGives Fence.wide 2 Tryd.prog 79 #[.pointer (some ⟨w.heap.size, 0, none⟩)] encStr (fun ss => ss.Perm (strKeys (folderD F))) (Maps.size (folderD F)) (w.alloc (.cells #[.map (some b)] 77)) :=
    AnyZ.keys_gives (ρ := Tryd.keysM_ren) { Tryd.keysM with } Fence.wide _ trivial rfl (by omega) w.heap.size b F.length (folderD F) _ (by simp) (by simp) (by
      obtain ⟨es, clock, hb, Ft, hs, hD⟩ := h
      exact ⟨es, clock, (Below.heap_alloc _ _ b hbl).trans hb, Ft, hs, hD⟩)
  have hc := (callsIn_wide (n := 5)).1 (AnyZ.sorted_in Tryd.sortedM Fence.wide 5 trivial trivial trivial trivial rfl (by omega) (sortsM _) (enters_of Tryd.func78 (by kernel_rfl) rfl) 79 #[.pointer (some ⟨w.heap.size, 0, none⟩)] trivial (enters_of Tryd.func79 (by kernel_rfl) rfl) _ _ hmax hbytes _ hseq)
  refine Calls.mono hc fun e w' hh => ?_
  obtain ⟨v, ss, rfl, hS, hrow, hnil, hb⟩ := hh
  have hs := keys_sort (folder_sorted Tryd.underlying9 h) hS
  have hr := Row.of_own hrow
  rw [hs] at hr
  have hl : ss.length = F.keys.length := by rw [← hs, List.length_mergeSort]
  rw [hl] at hr
  refine ⟨v, rfl, ?_, fun q hq => ?_, ?_⟩
  · have : (F.keys.map encStr) = strV F.keys := rfl
    rw [this] at hr
    exact hr
  · have := (hrow.lt q hq).1
    simp at this
    omega
  · exact ((Fr.refl (fun _ => False) w).alloc _).trans (Fr.of_below (fun _ => False) hb) fun _ h => h.elim

section
variable {w w' : World} {p : Nat} {c : Cab} {fv : Value} {avs : List Value} {nb sb : Nat} {wv : Value} {D : Nat → Prop}
set_option maxHeartbeats 1000000 in
theorem names_calls (h : CabAt w p c D) (hn : c.now.length ≤ 100000000) :
    Calls Tryd.prog 17 #[.pointer (some ⟨p, 0, none⟩)] w fun e w' => ∃ v', e = .returned (.tuple #[v', .int .i64 c.names.2]) ∧ Row w' 9 1 v' c.names.1.length (strV c.names.1) ∧ (∀ q, v'.ownBlock = some q → w.heap.size ≤ q) ∧ Fr (fun _ => False) w w' := by
  have hr := h.ready
  obtain ⟨fv, avs, nb, sb, wv, hi, hD, hlt⟩ := id h
  obtain ⟨_, _, k2, _, _, _, _⟩ := hi.cells
  have HS := Lib.hid (sorted_calls nb c.now w hi.now hn)
  cases ho : c.off
  · rw [ho] at hr
    have ht : c.names = (c.now.keys, 0) := by unfold Cab.names; rw [ho]; rfl
    rw [ht]
    have HR := Lib.hid hr
    clear hr h ho ht hi hD hlt
    go_enter Tryd.func17, Tryd.ntmps17
    go_wp2_with (first
      | (go_at_call 51; refine HR.out.mono ?_; rintro e w' ⟨rfl, rfl⟩)
      | (go_at_call 46; refine (keys_calls _ _).mono ?_; rintro e w1 ⟨rfl, rfl⟩)
      | (go_at_call 45; refine HS.out.mono ?_; rintro e w2 ⟨v, rfl, hrow, hown, hfr⟩))
    go_ret2
    exact ⟨v, rfl, hrow, hown, hfr⟩
  · rw [ho] at hr
    have ht : c.names = ([], 11) := by unfold Cab.names; rw [ho]; rfl
    rw [ht]
    have HR := Lib.hid hr
    clear hr h ho ht hi hD hlt
    go_enter Tryd.func17, Tryd.ntmps17
    go_wp2_with (go_at_call 51; refine HR.out.mono ?_; rintro e w' ⟨rfl, rfl⟩)
    go_ret2
    exact ⟨_, rfl, Row.nil _ _ _, fun q hq => by simp [Value.ownBlock] at hq, Fr.refl _ _⟩
end
end Chart

/- part; the lemmas of Crash. -/
namespace Chart
open Go Go.RowKit Go.Proofs
attribute [local go_sem ↓] Go.wp_at_zero Go.wp_at_succ

set_option maxHeartbeats 1000000 in
theorem part_calls (n m : Int) (w : World) : Calls Tryd.prog 43 #[.int .i64 n, .int .i64 m] w fun e w' => e = .returned (.int .i64 (Cab.part n m)) ∧ w = w' := by
  unfold Cab.part
  go_enter Tryd.func43, Tryd.ntmps43
  go_wp2
  go_ret
  exact ⟨rfl, rfl⟩

theorem crashFiles_append (now : Folder) (keep : List Int) (turn : UInt8) : ∀ (a b : List Txt) (i : Nat) (fs : List FileS), Cab.crashFiles now keep turn (a ++ b) i fs = Cab.crashFiles now keep turn b (i + a.length) (Cab.crashFiles now keep turn a i fs)
  | [], b, i, fs => by simp [Cab.crashFiles]
  | x :: a, b, i, fs => by
    simp only [List.cons_append, Cab.crashFiles, List.length_cons]
    rw [crashFiles_append now keep turn a b (i + 1)]
    congr 1
    omega
theorem crashFiles_length (now : Folder) (keep : List Int) (turn : UInt8) : ∀ (a : List Txt) (i : Nat) (fs : List FileS), (Cab.crashFiles now keep turn a i fs).length = fs.length
  | [], _, _ => rfl
  | x :: a, i, fs => by
    simp only [Cab.crashFiles]
    rw [crashFiles_length now keep turn a (i + 1)]
    simp

theorem foldl_length (xs : List Chg) : ∀ F : Folder, (xs.foldl Folder.apply F).length ≤ F.length + xs.length := by
  induction xs with
  | nil => intro F; simp
  | cons x r ih =>
    intro F
    have h1 := ih (F.apply x)
    have h2 := apply_length x F
    simp only [List.foldl_cons, List.length_cons]
    omega

theorem chgCells_get : ∀ (l : List Chg) (k : Nat) (x : Chg), l[k]? = some x → (chgCells l)[k * 4]? = some (.int .i64 x.kind) ∧ (chgCells l)[k * 4 + 1]? = some (.string (str x.old)) ∧ (chgCells l)[k * 4 + 2]? = some (.string (str x.name)) ∧ (chgCells l)[k * 4 + 3]? = some (.int .i64 x.file)
  | [], _, _, h => by simp at h
  | y :: r, 0, x, h => by simp at h; subst h; exact ⟨rfl, rfl, rfl, rfl⟩
  | y :: r, k + 1, x, h => by
    simp only [List.getElem?_cons_succ] at h
    have ih := chgCells_get r k x h
    have e0 : (k + 1) * 4 = k * 4 + 1 + 1 + 1 + 1 := by omega
    simp only [chgCells, e0, List.getElem?_cons_succ]
    exact ih

section
variable {w w1 : World} {p : Nat} {c : Cab} {fv : Value} {avs : List Value} {nb sb : Nat} {wv : Value} {D : Nat → Prop}
/-- The names are as they lasted. -/
theorem crash_mid (hi : CabIn w p c fv avs nb sb wv) (hF1 : FolderIn w1 w.heap.size c.sure) (hB1 : Below w.heap.size w w1) :
    CabIn (w1.setCell ⟨p, 2, none⟩ (.map (some w.heap.size))) p { c with now := c.sure } fv avs w.heap.size sb wv := by
  have F := Fr.of_below (fun _ => False) hB1
  have hb1 := hi.blk.fr F id
  have hp := hi.blk.lt
  exact {
    blk := hb1.set 2 _
    files := (hi.files.fr F fun _ _ => id).far (fun e => hi.files.ne_blk hi.blk (by decide) e) _
    len := hi.len
    bytes := fun i f hf => by
      obtain ⟨v, hv, hr⟩ := hi.bytes i f hf
      exact ⟨v, hv, (hr.fr F fun _ _ => id).far (fun e => hr.ne_blk hi.blk (by decide) e) _⟩
    apart := hi.apart
    now := hF1.far (by simp; omega) _
    sure := (hi.sure.fr F id).far (fun e => hi.blk.ne_map hi.sure (by simpa using e.symm)) _
    two := by have := hi.sure.lt; omega
    waiting := (hi.waiting.fr F fun _ _ => id).far (fun e => hi.waiting.ne_blk hi.blk (by decide) e) _ }
/-- The names have turned. -/
theorem CabIn.newNow (hi : CabIn w p c fv avs nb sb wv) {F' : Folder} (hfr : Fr (· = nb) w w1) (hF : FolderIn w1 nb F') : CabIn w1 p { c with now := F' } fv avs nb sb wv := {
    blk := hi.blk.fr hfr (hi.blk.ne_map hi.now)
    files := hi.files.fr hfr fun k hk e => hi.files.ne_map hi.now (by rw [hk, show k = nb from e])
    len := hi.len
    bytes := fun i f hf => by
      obtain ⟨v, hv, hr⟩ := hi.bytes i f hf
      exact ⟨v, hv, hr.fr hfr fun k hk e => hr.ne_map hi.now (by rw [hk, show k = nb from e])⟩
    apart := hi.apart
    now := hF
    sure := hi.sure.fr hfr fun e => hi.two e.symm
    two := hi.two
    waiting := hi.waiting.fr hfr fun k hk e => hi.waiting.ne_map hi.now (by rw [hk, show k = nb from e]) }
end
end Chart

/- Crash. -/
namespace Chart
open Go Go.RowKit Go.Proofs
attribute [local go_sem ↓] Go.wp_at_zero Go.wp_at_succ

structure CrashOk (c : Cab) : Prop where
  files : c.files.length ≤ 1000000
  waiting : c.waiting.length ≤ 1000000
  sure : c.sure.length ≤ 1000000
  chg : ∀ x ∈ c.waiting, x.kind ≤ 2 ∧ x.old.length ≤ maxLen ∧ x.name.length ≤ maxLen ∧ x.file ≤ 9223372036854775807
  rep : ∀ j, ∀ x ∈ (c.waiting.take j).foldl Folder.apply c.sure, x.2 < c.files.length ∧ x.1.length ≤ maxLen
  all : ∀ f ∈ c.files, f.all.length ≤ 1048576 ∧ f.sure ≤ f.all.length

theorem get_le {F : Folder} {N : Nat} (h : ∀ x ∈ F, x.2 < N) (k : Txt) : (F.get? k).getD 0 ≤ N := by
  cases hg : F.get? k with
  | none => exact Nat.zero_le _
  | some n => exact Nat.le_of_lt (h _ (get_mem hg))

theorem get_some {F : Folder} {k : Txt} {m : Nat} (h : (k, m) ∈ F) : ∃ n, F.get? k = some n := by
  unfold Folder.get?
  cases hf : F.find? fun p => p.1 == k with
  | some y => exact ⟨_, rfl⟩
  | none =>
    rw [List.find?_eq_none] at hf
    exact absurd (hf _ h) (by simp)
/-- What holds of a file behind a crash, too. -/
def FileOk (f : FileS) : Prop := f.all.length ≤ 1048576 ∧ f.sure ≤ f.all.length
theorem part_le (n m : Int) (h : 0 ≤ m) : 0 ≤ Cab.part n m ∧ Cab.part n m ≤ m := by unfold Cab.part; omega
theorem cut_ok {f : FileS} (h : FileOk f) (more : Int) (turn : UInt8) (hm : more ≤ (f.all.length : Int) - f.sure) : FileOk (Cab.cut f more turn) := by
  obtain ⟨h1, h2⟩ := h
  unfold Cab.cut
  simp only
  split <;> rename_i hc <;> refine ⟨?_, ?_⟩ <;> simp <;> omega
theorem crashFiles_ok (now : Folder) (keep : List Int) (turn : UInt8) : ∀ (a : List Txt) (i : Nat) (fs : List FileS), (∀ f ∈ fs, FileOk f) → ∀ f ∈ Cab.crashFiles now keep turn a i fs, FileOk f
  | [], _, _, h => h
  | x :: a, i, fs, h => by
    refine crashFiles_ok now keep turn a (i + 1) _ fun f hf => ?_
    rcases List.mem_or_eq_of_mem_set hf with h1 | h1
    · exact h f h1
    · subst h1
      have hd : FileOk (fs.getD ((now.get? x).getD 0) ⟨[], 0⟩) := by
        rw [List.getD_eq_getElem?_getD]
        cases hg : fs[(now.get? x).getD 0]? with
        | none => exact ⟨by simp, by simp⟩
        | some y => exact h _ (List.mem_of_getElem? hg)
      refine cut_ok hd _ _ ?_
      split
      · exact (part_le _ _ (by have := hd.2; omega)).2
      · have := hd.2; omega

theorem crashFiles_step (now : Folder) (keep : List Int) (turn : UInt8) (ks : List Txt) (j : Nat) (name : Txt) (n : Nat) (hk : ks[j]? = some name) (hn : now.get? name = some n) (fs : List FileS) (f : FileS) (hf : (Cab.crashFiles now keep turn (ks.take j) 0 fs)[n]? = some f) :
    Cab.crashFiles now keep turn (ks.take (j + 1)) 0 fs = (Cab.crashFiles now keep turn (ks.take j) 0 fs).set n (Cab.cut f (if j < keep.length then Cab.part (keep.getD j 0) ((f.all.length : Int) - (f.sure : Int)) else 0) turn) := by
  have hl : (ks.take j).length = j := by
    have := (List.getElem?_eq_some_iff.1 hk).1
    rw [List.length_take]
    omega
  rw [take_snoc' ks j name hk, crashFiles_append]
  simp only [Cab.crashFiles, hl, hn, Option.getD_some, Nat.zero_add]
  rw [List.getD_eq_getElem?_getD, hf]
  rfl

theorem Bytes.upto {w : World} {A : Option Addr} {cp : Nat} {l : Txt} (h : Bytes w (.slice A l.length cp) l) (k : Nat) (hk : k ≤ l.length) : Bytes w (.slice A k cp) (l.take k) := by
  have hl : (l.take k).length = k := by rw [List.length_take]; omega
  unfold Bytes
  rw [hl, ← bytesV_take]
  rcases id h.2 with ⟨hv, h0⟩ | ⟨g, cap, cur, hv, hg, hc, hm, _⟩
  · injection hv with h1 h2 h3
    subst h1 h3
    obtain rfl : l = [] := List.eq_nil_of_length_eq_zero h0
    obtain rfl : k = 0 := by simpa using hk
    exact Row.nil _ _ _
  · injection hv with h1 h2 h3
    subst h1 h3
    have := Row.front h k cp hk (by omega) (Nat.le_refl _)
    rwa [Nat.mul_one] at this
/-- A byte of it is turned. -/
theorem Bytes.turn {w : World} {g cp : Nat} {l : Txt} (h : Bytes w (.slice (some ⟨g, 0, none⟩) l.length cp) l) (k : Nat) (x : UInt8) : Bytes (w.setCell ⟨g, k, none⟩ (bv x)) (.slice (some ⟨g, 0, none⟩) (l.set k x).length cp) (l.set k x) := by
  have := Row.set h k (bv x)
  unfold Bytes
  rw [List.length_set]
  have e : (bytesV l).set k (bv x) = bytesV (l.set k x) := by unfold bytesV; rw [List.map_set]
  rwa [e] at this

theorem crash_round {V V1 w2 : World} {p g cp n S nb sb : Nat} {c : Cab} {NF : Folder} {fs : List FileS} {avs avs' : List Value} {v v' wv : Value} {f' : FileS} {D : Nat → Prop} {AN : Option Addr} {cN : Nat} {KV : Value} {keep : List Int} {nn : Nat} {ns : List Value}
    (hin : CabIn V p { c with now := NF, files := fs } (.slice (some ⟨g, 0, none⟩) c.files.length cp) avs' S sb wv) (hlen : fs.length = c.files.length) (hv : avs'[n]? = some v)
    (hb : Bytes V1 v' f'.all) (ho : v'.ownBlock = v.ownBlock) (hF : Fr (fun k => v.ownBlock = some k) V V1)
    (hsub : ∀ u ∈ avs', ∀ q, u.ownBlock = some q → ∃ v ∈ avs, v.ownBlock = some q)
    (hD : ∀ k, CabOwn p (.slice (some ⟨g, 0, none⟩) c.files.length cp) avs nb sb wv k → D k) (hfr : Fr D w2 V)
    (hrow : Row V 9 1 (.slice AN nn cN) nn ns) (hK : Src V 1 KV keep.length (keep.map (Value.int .i64))) (hKD : ∀ k, KV.ownBlock = some k → 0 < keep.length → ¬ D k) :
    CabIn ((V1.setCell ⟨g, n * 2, none⟩ v').setCell ⟨g, n * 2 + 1, none⟩ (.int .i64 f'.sure)) p { c with now := NF, files := fs.set n f' } (.slice (some ⟨g, 0, none⟩) c.files.length cp) (avs'.set n v') S sb wv ∧
    (∀ u ∈ avs'.set n v', ∀ q, u.ownBlock = some q → ∃ v ∈ avs, v.ownBlock = some q) ∧
    Fr D w2 ((V1.setCell ⟨g, n * 2, none⟩ v').setCell ⟨g, n * 2 + 1, none⟩ (.int .i64 f'.sure)) ∧
    Row ((V1.setCell ⟨g, n * 2, none⟩ v').setCell ⟨g, n * 2 + 1, none⟩ (.int .i64 f'.sure)) 9 1 (.slice AN nn cN) nn ns ∧
    Src ((V1.setCell ⟨g, n * 2, none⟩ v').setCell ⟨g, n * 2 + 1, none⟩ (.int .i64 f'.sure)) 1 KV keep.length (keep.map (Value.int .i64)) := by
  have hvm := List.mem_of_getElem? hv
  have hnl : n < fs.length := by
    have := (List.getElem?_eq_some_iff.1 hv).1
    have := hin.len
    simp only at this
    omega
  have hr0 := hin.files
  simp only [hlen] at hr0
  have hvr : ∃ f : FileS, Bytes V v f.all := by
    obtain ⟨u, hu, hub⟩ := hin.bytes n _ (List.getElem?_eq_getElem hnl)
    rw [hv] at hu
    cases hu
    exact ⟨_, hub⟩
  obtain ⟨f0, hvb⟩ := hvr
  have hr1 := ((hr0.fr hF fun k hk hk' => hvb.ne_row hr0 (by decide) hk' hk).set (n * 2) v').set (n * 2 + 1) (.int .i64 f'.sure)
  have hl' := hin.len
  simp only at hl'
  have e := fileCells_set avs' fs n v' f' hnl hl'
  rw [e] at hr1
  have F2 : Fr (fun q => (Value.slice (some ⟨g, 0, none⟩) c.files.length cp).ownBlock = some q) V1 ((V1.setCell ⟨g, n * 2, none⟩ v').setCell ⟨g, n * 2 + 1, none⟩ (.int .i64 f'.sure)) := ((Fr.refl (fun q => (Value.slice (some ⟨g, 0, none⟩) c.files.length cp).ownBlock = some q) V1).setCell (p := ⟨g, n * 2, none⟩) (.inl rfl) _).setCell (p := ⟨g, n * 2 + 1, none⟩) (.inl rfl) _
  have ht := hin.turnFile (v' := v') (f' := f') hv hF (fun _ h => h) hb (fun k hk => .inl (by rw [← ho]; exact hk)) (by simp only [hlen]; exact hr1) F2
  have FD : Fr D V ((V1.setCell ⟨g, n * 2, none⟩ v').setCell ⟨g, n * 2 + 1, none⟩ (.int .i64 f'.sure)) := by
    refine (hF.mono fun k _ hk => ?_).trans F2 fun k hk => .inl (hD k (.inr (.inl hk)))
    obtain ⟨u, hu, huk⟩ := hsub v hvm k hk
    exact hD k (.inr (.inr (.inl ⟨u, hu, huk⟩)))
  have hnr : ∀ k, (Value.slice AN nn cN).ownBlock = some k → ¬ (v.ownBlock = some k) ∧ ¬ ((Value.slice (some ⟨g, 0, none⟩) c.files.length cp).ownBlock = some k) := fun k hk => ⟨fun h => hrow.ne_row hvb (by decide) hk h, fun h => hrow.ne_row hr0 (by decide) hk h⟩
  refine ⟨ht, ?_, hfr.trans FD fun _ h => .inl h, (hrow.fr hF fun k hk => (hnr k hk).1).fr F2 fun k hk => (hnr k hk).2, hK.frl FD hKD⟩
  intro u hu q hq
  rcases List.mem_or_eq_of_mem_set hu with h | h
  · exact hsub u h q hq
  · subst h
    exact hsub v hvm q (by rw [← ho]; exact hq)
theorem xor_bv (a b : UInt8) : (Value.int .u8 (bits BinOp.xor IntKind.u8 (a.toNat : Int) (b.toNat : Int))) = bv (a ^^^ b) := by
  rw [u8_xor_nat _ _ (UInt8.toNat_lt a) (UInt8.toNat_lt b)]
  unfold bv
  rw [UInt8.toNat_xor]
theorem take_turned (l : Txt) (k : Nat) (x : UInt8) (h : k < l.length) : (l.set k x).take (k + 1) = l.take k ++ [x] := by
  apply List.ext_getElem?
  intro i
  rw [List.getElem?_take, List.getElem?_set]
  by_cases hi : i < k
  · rw [if_pos (by omega), if_neg (by omega), List.getElem?_append_left (by rw [List.length_take]; omega), List.getElem?_take, if_pos hi]
  · by_cases he : i = k
    · subst he
      rw [if_pos (by omega), if_pos rfl, if_pos h, List.getElem?_append_right (by rw [List.length_take]; omega), List.length_take, Nat.min_eq_left (by omega), Nat.sub_self]
      rfl
    · rw [if_neg (by omega), List.getElem?_append_right (by rw [List.length_take]; omega), List.length_take, Nat.min_eq_left (by omega), List.getElem?_eq_none (by simp; omega)]
end Chart
