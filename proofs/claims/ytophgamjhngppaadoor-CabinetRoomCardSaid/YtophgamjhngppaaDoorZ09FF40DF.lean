import Derived.Test.YtophgamjhngppaaDoorZE7CA9164
import Derived.Test.YtophgamjhngppaaDoorZ881F3962
import Derived.Test.YtophgamjhngppaaDoorZ7F645C99
/- The document's cabinet: Crash. -/
namespace Chart
open Go Go.RowKit Go.Proofs
attribute [local go_sem ↓] Go.wp_at_zero Go.wp_at_succ

theorem rcrashFiles_append (keep : List Int) (turn : UInt8) : ∀ (a b : Folder) (i : Nat) (fs : List FileS), RCab.crashFiles keep turn (a ++ b) i fs = RCab.crashFiles keep turn b (i + a.length) (RCab.crashFiles keep turn a i fs)
  | [], b, i, fs => by simp [RCab.crashFiles]
  | x :: a, b, i, fs => by
    simp only [List.cons_append, RCab.crashFiles, List.length_cons]
    rw [rcrashFiles_append keep turn a b (i + 1)]
    congr 1
    omega
theorem rcrashFiles_length (keep : List Int) (turn : UInt8) : ∀ (a : Folder) (i : Nat) (fs : List FileS), (RCab.crashFiles keep turn a i fs).length = fs.length
  | [], _, _ => rfl
  | x :: a, i, fs => by
    simp only [RCab.crashFiles]
    rw [rcrashFiles_length keep turn a (i + 1)]
    simp
theorem rcrashFiles_step (keep : List Int) (turn : UInt8) (l : Folder) (j : Nat) (name : Txt) (n : Nat) (hk : l[j]? = some (name, n)) (fs : List FileS) (f : FileS) (hf : (RCab.crashFiles keep turn (l.take j) 0 fs)[n]? = some f) :
    RCab.crashFiles keep turn (l.take (j + 1)) 0 fs = (RCab.crashFiles keep turn (l.take j) 0 fs).set n (Cab.cut f (if j < keep.length then RCab.part (keep.getD j 0) ((f.all.length : Int) - (f.sure : Int)) else 0) turn) := by
  have hl : (l.take j).length = j := by
    have := (List.getElem?_eq_some_iff.1 hk).1
    rw [List.length_take]
    omega
  rw [take_snoc' l j _ hk, rcrashFiles_append]
  simp only [RCab.crashFiles, hl, Nat.zero_add]
  rw [List.getD_eq_getElem?_getD, hf]
  rfl
theorem rpart_le (n m : Int) (h : 0 ≤ m) : 0 ≤ RCab.part n m ∧ RCab.part n m ≤ m := by unfold RCab.part; split <;> (try split) <;> omega
theorem rcrashFiles_ok (keep : List Int) (turn : UInt8) : ∀ (a : Folder) (i : Nat) (fs : List FileS), (∀ f ∈ fs, FileOk f) → ∀ f ∈ RCab.crashFiles keep turn a i fs, FileOk f
  | [], _, _, h => h
  | x :: a, i, fs, h => by
    refine rcrashFiles_ok keep turn a (i + 1) _ fun f hf => ?_
    rcases List.mem_or_eq_of_mem_set hf with h1 | h1
    · exact h f h1
    · subst h1
      have hd : FileOk (fs.getD x.2 ⟨[], 0⟩) := by
        rw [List.getD_eq_getElem?_getD]
        cases hg : fs[x.2]? with
        | none => exact ⟨by simp, by simp⟩
        | some y => exact h _ (List.mem_of_getElem? hg)
      refine cut_ok hd _ _ ?_
      split
      · exact (rpart_le _ _ (by have := hd.2; omega)).2
      · have := hd.2; omega
theorem wth_length (l : Folder) (x : RChg) : (l.wth x).length ≤ l.length + 1 := by
  have hput : ∀ (F : Folder), (F.put x.name x.file).length ≤ F.length + 1 := fun F => by
    have h2 := del_length x.name F
    unfold Folder.put
    rw [ins_length]
    omega
  have h1 := del_length x.old l
  have h3 := hput l
  have h4 := hput (l.del x.old)
  unfold Folder.wth
  by_cases ho : x.old = [] <;> by_cases hm : x.name = [] <;> simp only [ho, hm, if_true, if_false] at * <;> omega
theorem wfold_length (xs : List RChg) : ∀ F : Folder, (xs.foldl Folder.wth F).length ≤ F.length + xs.length := by
  induction xs with
  | nil => intro F; simp
  | cons x r ih =>
    intro F
    have h1 := ih (F.wth x)
    have h2 := wth_length F x
    simp only [List.foldl_cons, List.length_cons]
    omega

theorem ext_take (l : Txt) (e : Nat) : (str l).extract 0 e = str (l.take e) := by
  apply ByteArray.ext
  simp [str]
theorem rcrash_round {V w2 : World} {p g n nf cp : Nat} {c : RCab} {fs : List FileS} {nv sv wv : Value} (hin : RefIn V p { c with files := fs } (.slice (some ⟨g, 0, none⟩) nf cp) nv sv wv) (hn : n < fs.length) (f' : FileS) (hfr : Fr (fun k => (Value.slice (some ⟨g, 0, none⟩) nf cp).ownBlock = some k) w2 V) (hl : fs.length = nf) :
    RefIn ((V.setCell ⟨g, n * 2, none⟩ (.string (str f'.all))).setCell ⟨g, n * 2 + 1, none⟩ (.int .i64 f'.sure)) p { c with files := fs.set n f' } (.slice (some ⟨g, 0, none⟩) nf cp) nv sv wv ∧
    Fr (fun k => (Value.slice (some ⟨g, 0, none⟩) nf cp).ownBlock = some k) w2 ((V.setCell ⟨g, n * 2, none⟩ (.string (str f'.all))).setCell ⟨g, n * 2 + 1, none⟩ (.int .i64 f'.sure)) := by
  subst hl
  have hr := (hin.files.set (n * 2) (.string (str f'.all))).set (n * 2 + 1) (.int .i64 f'.sure)
  simp only at hr
  rw [rfileCells_set _ _ _ hn] at hr
  have F : Fr (fun k => (Value.slice (some ⟨g, 0, none⟩) fs.length cp).ownBlock = some k) V ((V.setCell ⟨g, n * 2, none⟩ (.string (str f'.all))).setCell ⟨g, n * 2 + 1, none⟩ (.int .i64 f'.sure)) := ((Fr.refl (fun k => (Value.slice (some ⟨g, 0, none⟩) fs.length cp).ownBlock = some k) V).setCell (p := ⟨g, n * 2, none⟩) (.inl rfl) _).setCell (p := ⟨g, n * 2 + 1, none⟩) (.inl rfl) _
  exact ⟨hin.turnFile F (l := fs.set n f') (by rw [List.length_set]; exact hr), hfr.trans F fun _ h => .inl h⟩

structure RCrashOk (c : RCab) : Prop where
  num : c.Num
  rep : ∀ j, ∀ x ∈ (c.waiting.take j).foldl Folder.wth c.sure, x.2 < c.files.length
  all : ∀ f ∈ c.files, FileOk f

section
variable {w w1 : World} {p : Nat} {c : RCab} {fv nv sv wv : Value} {D : Nat → Prop}
set_option maxRecDepth 100000 in
set_option maxHeartbeats 8000000 in
theorem RefIn.crash (h : RefIn w p c fv nv sv wv) (ok : RCrashOk c) (names : Int) (KV : Value) (keep : List Int) (hK : Src w 1 KV keep.length (keep.map (Value.int .i64))) (hKD : ∀ k, KV.ownBlock = some k → 0 < keep.length → ¬ fv.ownBlock = some k) (turn : UInt8) :
    Calls Tryd.prog 37 #[.pointer (some ⟨p, 0, none⟩), .int .i64 names, KV, .int .u8 turn.toNat] w fun e w' => e = .returned (.tuple #[]) ∧ ∃ lv, RefIn w' p (c.crash names keep turn) fv lv lv (.slice none 0 0) ∧ (∀ q, lv.ownBlock = some q → sv.ownBlock = some q ∨ w.heap.size ≤ q) ∧ Fr (fun k => k = p ∨ fv.ownBlock = some k) w w' := by
  have OK := Lib.hid ok
  have H := Lib.hid h
  have hp := h.blk.lt
  obtain ⟨A, cp, rfl, _, _⟩ := h.files.shape
  obtain ⟨AS, cS, rfl, hcS, _⟩ := h.sure.shape
  obtain ⟨AW, cW, rfl, hcW, _⟩ := h.waiting.shape
  have b3 : w.cell? ⟨p, 3, none⟩ = some (.slice AS c.sure.length cS) := h.blk.cell 3
  have hpt := rpart_le names c.waiting.length (by omega)
  obtain ⟨kn, hkn⟩ : ∃ kn : Nat, RCab.part names c.waiting.length = kn := ⟨_, (Int.toNat_of_nonneg hpt.1).symm⟩
  have hkl : kn ≤ c.waiting.length := by omega
  have HP := rpart_calls names (c.waiting.length : Nat)
  simp only [hkn] at HP
  have HP := Lib.hid HP
  have HKN := Lib.hid hkn
  have hwn := ok.num.waiting
  have hsn := ok.num.sure
  obtain ⟨FF, hFF⟩ : ∃ FF : Nat → Folder, FF = fun j => (c.waiting.take j).foldl Folder.wth c.sure := ⟨_, rfl⟩
  have hFl : ∀ j, (FF j).length ≤ 200000 := fun j => by
    rw [hFF]
    have h1 := wfold_length (c.waiting.take j) c.sure
    have h2 : (c.waiting.take j).length ≤ c.waiting.length := by rw [List.length_take]; omega
    simp only
    omega
  have HFl := Lib.hid hFl
  have hrep : ∀ j, ∀ x ∈ FF j, x.2 < c.files.length := by rw [hFF]; exact ok.rep
  have HREP := Lib.hid hrep
  have HFF := Lib.hid hFF
  have hF0 : Ents w (.slice AS c.sure.length cS) (FF 0) := by rw [hFF]; exact h.sure
  have HF0 := Lib.hid hF0
  have HKD := Lib.hid hKD
  have HK := Lib.hid hK
  clear hpt hkn h ok hFF hFl hrep hF0 hKD hK
  obtain ⟨_, AK, cK, rfl, hKc, hKm, _, _⟩ := id HK.out
  go_enter Tryd.func37, Tryd.ntmps37
  go_wp2_with fail
  go_loopw [8, 9] (fun lv i wr => ∃ j : Nat, j ≤ kn ∧ i = .int .i64 j ∧ Ents wr lv (FF j) ∧ (∀ q, lv.ownBlock = some q → (Value.slice AS c.sure.length cS).ownBlock = some q ∨ w.heap.size ≤ q) ∧ Fr (fun _ => False) w wr) (fun lv i _ => kn - (RowKit.intOf i).toNat)
  case atStart => exact ⟨0, Nat.zero_le _, rfl, HF0.out, fun q hq => .inl hq, Fr.refl _ _⟩
  case round =>
    obtain ⟨j, hj, rfl, hrow, hown, hfr⟩ := hrel
    have hin := H.out.fr hfr fun _ _ => id
    have b4 : wr.cell? ⟨p, 4, none⟩ = some (.slice AW c.waiting.length cW) := hin.blk.cell 4
    have HR := Lib.hid hrow
    have HO := Lib.hid hown
    clear hrow hown
    by_cases hlt : j < kn
    · obtain ⟨⟨old, name, m⟩, hmem⟩ : ∃ y, c.waiting[j]? = some y := ⟨_, List.getElem?_eq_getElem (by omega)⟩
      obtain ⟨g, cp', hv, _, _, hcell, _, _⟩ := hin.waiting.form (by omega)
      obtain ⟨rfl, rfl⟩ : AW = some ⟨g, 0, none⟩ ∧ cW = cp' := by simpa using hv
      obtain ⟨d0, d1, d2⟩ := rchgCells_get c.waiting j _ hmem
      have c0 := hcell _ _ d0
      have c1 := hcell _ _ d1
      have c2 := hcell _ _ d2
      simp only at c0 c1 c2
      have HM := Lib.hid hmem
      clear hmem hv d0 d1 d2 hcell hin
      go_wp2_with (first
        | (go_at_call 73; refine (HP.out _).mono ?_; rintro e w' ⟨rfl, rfl⟩)
        | (go_at_call 74; refine (rwith_calls (FF j) u8 ⟨old, name, m⟩ _ HR.out (Nat.le_trans (HFl.out j) (by decide))).mono ?_; rintro e w2 ⟨v2, rfl, h2, o2, f2⟩))
      refine ⟨⟨j + 1, by omega, by go_num, ?_, ?_, hfr.trans f2 fun _ h => h.elim⟩, by simp [RowKit.intOf]; omega⟩
      · have e : FF (j + 1) = (FF j).wth ⟨old, name, m⟩ := by
          rw [HFF.out]
          simp only
          rw [take_snoc' _ _ _ HM.out, List.foldl_append]
          rfl
        rw [e]
        exact h2
      · intro q hq
        rcases o2 q hq with h | h
        · exact HO.out q h
        · exact .inr (Nat.le_trans hfr.size h)
    · obtain rfl : j = kn := by omega
      have HIN := Lib.hid hin
      clear hin
      go_wp2_with (go_at_call 73; refine (HP.out _).mono ?_; rintro e w' ⟨rfl, rfl⟩)
      clear b4
      obtain ⟨AL, cL, rfl, hcL, _⟩ := HR.out.shape
      have HF1 := Lib.hid hfr
      generalize hLL : FF j = LL at *
      have HLL := Lib.hid hLL
      have hLn := HFl.out j
      have hLr := HREP.out j
      rw [hLL] at hLn hLr
      have HLR := Lib.hid hLr
      clear hLL hLr hfr
      obtain ⟨CF, hCF⟩ : ∃ CF : Nat → List FileS, CF = fun i => RCab.crashFiles keep turn (LL.take i) 0 c.files := ⟨_, rfl⟩
      have HCF := Lib.hid hCF
      have hC0 : CF 0 = c.files := by rw [hCF]; rfl
      have hCl : ∀ i, (CF i).length = c.files.length := by intro i; rw [hCF]; exact rcrashFiles_length _ _ _ _ _
      have hok : ∀ i, ∀ f ∈ CF i, FileOk f := by intro i; rw [hCF]; exact rcrashFiles_ok _ _ _ _ _ OK.out.all
      have HCl := Lib.hid hCl
      have HOKF := Lib.hid hok
      have hin0 : RefIn wr p { c with files := CF 0 } (.slice A c.files.length cp) nv (.slice AS c.sure.length cS) (.slice AW c.waiting.length cW) := by rw [hC0]; exact HIN.out
      have HIN0 := Lib.hid hin0
      have HKw := Lib.hid (HK.out.fr HF1.out fun _ _ _ => id)
      clear hCF hC0 hCl hok hin0
      generalize wr = wl at *
      go_loopw [10] (fun i wv => ∃ j2 : Nat, j2 ≤ LL.length ∧ i = .int .i64 j2 ∧ RefIn wv p { c with files := CF j2 } (.slice A c.files.length cp) nv (.slice AS c.sure.length cS) (.slice AW c.waiting.length cW) ∧ Fr (fun k => (Value.slice A c.files.length cp).ownBlock = some k) wl wv) (fun i _ => LL.length - (RowKit.intOf i).toNat)
      case atStart => exact ⟨0, Nat.zero_le _, rfl, HIN0.out, Fr.refl _ _⟩
      case round =>
        obtain ⟨i, hi, rfl, hin, hfr⟩ := hrel
        have hLrow : Ents wr (.slice AL LL.length cL) LL := HR.out.fr hfr fun k hk => HR.out.ne_row HIN0.out.files (by decide) hk
        have hKs := HKw.out.frl hfr HKD.out
        by_cases hlt2 : i < LL.length
        · obtain ⟨⟨name, n⟩, hmem⟩ : ∃ y, LL[i]? = some y := ⟨_, List.getElem?_eq_getElem hlt2⟩
          obtain ⟨gL, cL', hv, _, _, hcell, _, _⟩ := hLrow.form (by omega)
          obtain ⟨rfl, rfl⟩ : AL = some ⟨gL, 0, none⟩ ∧ cL = cL' := by simpa using hv
          obtain ⟨d0, d1⟩ := entCells_get LL i _ hmem
          have e1 := hcell _ _ d1
          simp only at e1
          have hnl : n < c.files.length := HLR.out _ (List.mem_of_getElem? hmem)
          obtain ⟨f, hfn⟩ : ∃ f, (CF i)[n]? = some f := ⟨_, List.getElem?_eq_getElem (by rw [HCl.out]; exact hnl)⟩
          have hFO := HOKF.out i f (List.mem_of_getElem? hfn)
          obtain ⟨hf1, hf2⟩ := hFO
          have hrow := hin.files
          simp only [HCl.out] at hrow
          obtain ⟨g, cp', hv2, _, _, hcell2, hfz, _⟩ := hrow.form (by omega)
          obtain ⟨rfl, rfl⟩ : A = some ⟨g, 0, none⟩ ∧ cp = cp' := by simpa using hv2
          obtain ⟨d2, d3⟩ := rfileCells_get (CF i) n _ hfn
          have c0 := hcell2 _ _ d2
          have c1 := hcell2 _ _ d3
          have f0 := hfz (n * 2)
          have f1 := hfz (n * 2 + 1)
          have b1 : wr.cell? ⟨p, 1, none⟩ = some (.slice (some ⟨g, 0, none⟩) c.files.length cp) := by
            have : wr.cell? ⟨p, 1, none⟩ = some (.slice (some ⟨g, 0, none⟩) c.files.length cp) := hin.blk.cell 1
            exact this
          have i1 : (0 : Int) ≤ (n : Int) := by omega
          have i2 : (n : Int) < (c.files.length : Int) := by omega
          have HM := Lib.hid hmem
          have HFN := Lib.hid hfn
          have HINR := Lib.hid hin
          have HROW := Lib.hid hrow
          have hpl := hin.blk.lt
          have hgl : g < wr.heap.size := hin.files.lt rfl
          clear hmem hv hcell d0 d1 hfn hv2 hcell2 hfz d2 d3 hin hrow
          go_wp2_with fail
          go_region
          have hbx := (Blk.new wr 126 #[.string (str f.all), .int .i64 f.sure]).drew
          have hfrV : Fr (fun k => (Value.slice (some ⟨g, 0, none⟩) c.files.length cp).ownBlock = some k) wl (wr.alloc (.cells #[.string (str f.all), .int .i64 f.sure] 126)).drew := (hfr.alloc _).drew
          have hfa : Fr (fun _ => False) wr (wr.alloc (.cells #[.string (str f.all), .int .i64 f.sure] 126)).drew := ((Fr.refl (fun _ => False) wr).alloc _).drew
          have HINV := Lib.hid (HINR.out.fr hfa fun _ _ => id)
          have HROWV := Lib.hid (HROW.out.fr hfa fun _ _ => id)
          have hKV := hKs.fr hfa fun _ _ _ => id
          have e1V := hfa.cell e1 id
          have b1V := hfa.cell b1 id
          obtain ⟨B, hB⟩ : ∃ B, B = wr.heap.size := ⟨_, rfl⟩
          rw [← hB] at hbx ⊢
          have hBg : ¬ B = g := by omega
          have hBp : ¬ B = p := by omega
          generalize (wr.alloc (.cells #[.string (str f.all), .int .i64 f.sure] 126)).drew = V at *
          have x0 : V.cell? ⟨B, 0, none⟩ = some (.string (str f.all)) := hbx.cell 0
          have x1 : V.cell? ⟨B, 1, none⟩ = some (.int .i64 f.sure) := hbx.cell 1
          have hsz : ((str f.all).size : Int) = (f.all.length : Int) := by rw [str_size]
          clear hB hKs e1 b1 c0 c1 f0 f1 hfr hfa HINR HROW hbx hLrow
          by_cases hkk : i < keep.length
          · obtain ⟨kj, hkj⟩ : ∃ kj, keep[i]? = some kj := ⟨_, List.getElem?_eq_getElem hkk⟩
            obtain ⟨_, A2, c2, hv3, _, _, hAn, hcell2⟩ := id hKV
            obtain ⟨rfl, rfl⟩ : AK = A2 ∧ cK = c2 := by simpa using hv3
            cases AK with
            | none => have := (hAn rfl).1; omega
            | some aK =>
            have rk : V.cell? (aK.add i) = some (.int .i64 kj) := hcell2 aK rfl i _ (by rw [List.getElem?_map, hkj]; rfl)
            obtain ⟨mo, hmo⟩ : ∃ mo : Nat, RCab.part kj ((f.all.length : Int) - (f.sure : Int)) = mo := ⟨_, (Int.toNat_of_nonneg (rpart_le kj _ (by omega)).1).symm⟩
            have hmo2 : f.sure + mo ≤ f.all.length := by have := (rpart_le kj ((f.all.length : Int) - (f.sure : Int)) (by omega)).2; omega
            have HPA := rpart_calls kj ((f.all.length : Int) - (f.sure : Int))
            simp only [hmo] at HPA
            have HPA := Lib.hid HPA
            have HMO : (if i < keep.length then RCab.part (keep.getD i 0) ((f.all.length : Int) - (f.sure : Int)) else 0) = (mo : Int) := by
              rw [if_pos hkk, List.getD_eq_getElem?_getD, hkj]
              exact hmo
            have HMO := Lib.hid HMO
            clear hv3 hAn hcell2 hmo hkj
            go_wp2_with fail
            go_quiet ((go_at_call 73; exact Calls.quiet_of_same ((HPA.out _).mono fun _ _ h => ⟨h.1, h.2.symm⟩)))
            have hfrV1 := hfrV.drewN nq
            replace x0 : (V.drewN nq).cell? _ = _ := x0
            replace x1 : (V.drewN nq).cell? _ = _ := x1
            replace e1V : (V.drewN nq).cell? _ = _ := e1V
            replace b1V : (V.drewN nq).cell? _ = _ := b1V
            have HINV1 := Lib.hid (HINV.out.fr ((Fr.refl (fun _ => False) V).drewN nq) fun _ _ => id)
            have HROWV1 := Lib.hid (HROWV.out.drewN nq)
            clear hfrV HINV HROWV hKV rk
            generalize V.drewN nq = V1 at *
            obtain ⟨g2, cp2, hv5, _, _, hcell3, hfz3, _⟩ := HROWV1.out.form (by omega)
            obtain rfl : g = g2 := by simp at hv5; omega
            have c0 := hcell3 _ _ (rfileCells_get (CF i) n _ HFN.out).1
            have c1 := hcell3 _ _ (rfileCells_get (CF i) n _ HFN.out).2
            have f0 := hfz3 (n * 2)
            have f1 := hfz3 (n * 2 + 1)
            clear hv5 hcell3 hfz3
            by_cases htu : turn = 0
            · have hmu : Cab.cut f ((mo : Nat) : Int) turn = ⟨f.all.take (f.sure + mo), (f.sure + mo)⟩ := by unfold Cab.cut; simp [htu]
              have htu2 : ¬ ¬ ((turn.toNat : Int) = 0) := by rw [htu]; decide
              clear htu
              have HMU := Lib.hid hmu
              clear hmu
              go_wp2_with fail
              go_region
              go_wp2_with fail
              have hmin : min (f.sure + mo) (str f.all).size = (f.sure + mo) := by rw [str_size]; omega
              have HFRV := hfrV1
              have hCF := rcrashFiles_step keep turn LL i name n HM.out c.files f (by have := HFN.out; rw [HCF.out] at this; exact this)
              rw [HMO.out, HMU.out] at hCF
              have hCF2 : CF (i + 1) = (CF i).set n ⟨f.all.take (f.sure + mo), (f.sure + mo)⟩ := by rw [HCF.out]; exact hCF
              obtain ⟨r1, r2⟩ := rcrash_round (n := n) HINV1.out (by rw [HCl.out]; exact hnl) ⟨f.all.take (f.sure + mo), (f.sure + mo)⟩ HFRV (HCl.out i)
              rw [← hCF2] at r1
              refine ⟨⟨i + 1, by omega, by go_num, ?_, ?_⟩, by simp [RowKit.intOf]; omega⟩
              · have e1 := r1.fr ((Fr.refl (fun _ => False) _).drew) fun _ _ => id
                rw [ext_take, hmin]
                exact e1
              · have e1 := r2.drew
                rw [ext_take, hmin]
                exact e1
            · have htu2 : ¬ ((turn.toNat : Int) = 0) := by
                intro e
                apply htu
                apply UInt8.toNat_inj.1
                have : turn.toNat = 0 := by omega
                simpa using this
              by_cases hel : (f.sure + mo) < f.all.length
              · have hel2 : ((f.sure : Int) + (mo : Int)) < (f.all.length : Int) := by omega
                obtain ⟨b, hbb⟩ : ∃ b, f.all[(f.sure + mo)]? = some b := ⟨_, List.getElem?_eq_getElem hel⟩
                have hlt : (f.sure + mo) < (str f.all).size := by rw [str_size]; exact hel
                have hb2 : (str f.all)[(f.sure + mo)]'hlt = b := by
                  have h1 : (str f.all)[(f.sure + mo)]'hlt = f.all[(f.sure + mo)]'hel := rfl
                  rw [h1]
                  have h2 := (List.getElem?_eq_getElem hel).symm.trans hbb
                  exact Option.some.inj h2
                have hX : Value.int .u8 (bits BinOp.xor IntKind.u8 (((str f.all)[(f.sure + mo)]'hlt).toNat : Int) (turn.toNat : Int)) = bv (b ^^^ turn) := by rw [hb2]; exact xor_bv b turn
                have hmu : Cab.cut f ((mo : Nat) : Int) turn = ⟨f.all.take (f.sure + mo) ++ [b ^^^ turn], (f.sure + mo) + 1⟩ := by
                  unfold Cab.cut
                  have hnt : turn ≠ 0 ∧ f.sure + ((mo : Nat) : Int).toNat < f.all.length := ⟨htu, by simpa using hel⟩
                  simp only []
                  rw [if_pos hnt]
                  have e1 : f.sure + ((mo : Nat) : Int).toNat = (f.sure + mo) := by simp
                  rw [e1, List.getD_eq_getElem?_getD, hbb]
                  rfl
                have kt : (convert 35 9 (.slice (some ⟨V1.heap.size, 0, none⟩) 1 1)).run Tryd.prog (V1.alloc (.cells #[Value.int .u8 (bits BinOp.xor IntKind.u8 (((str f.all)[(f.sure + mo)]'hlt).toNat : Int) (turn.toNat : Int))] 5)) = .ok (.string (str [b ^^^ turn])) (V1.alloc (.cells #[Value.int .u8 (bits BinOp.xor IntKind.u8 (((str f.all)[(f.sure + mo)]'hlt).toNat : Int) (turn.toNat : Int))] 5)) := by
                  rw [hX]
                  exact text_of (l := [b ^^^ turn]) (Row.made V1 5 1 1 #[bv (b ^^^ turn)] rfl (by decide)).src
                have kadd : ∀ w' : World, (Op.stringOp .add ((str f.all).extract 0 (f.sure + mo)) (str [b ^^^ turn])).run Tryd.prog w' = .ok (.string (str (f.all.take (f.sure + mo) ++ [b ^^^ turn]))) w' := fun w' => by
                  rw [ext_take, run_string_add_sum w' _ _ (by rw [str_size, str_size, List.length_take]; simp only [List.length_cons, List.length_nil]; omega), str_append]
                have hFA := fun o : Obj => (Fr.refl (fun _ => False) V1).alloc o
                have c0a := fun o : Obj => (hFA o).cell c0 id
                have c1a := fun o : Obj => (hFA o).cell c1 id
                have e1a := fun o : Obj => (hFA o).cell e1V id
                have b1a := fun o : Obj => (hFA o).cell b1V id
                have HMU := Lib.hid hmu
                have HX := Lib.hid hX
                have HBB := Lib.hid hbb
                clear hmu hX hbb hb2
                go_wp2_with fail
                go_region
                go_wp2_with fail
                have hmin : (str (f.all.take (f.sure + mo) ++ [b ^^^ turn])).size = (f.sure + mo) + 1 := by
                  rw [str_size, List.length_append, List.length_take]
                  simp only [List.length_cons, List.length_nil]
                  omega
                have HFRV := hfrV1
                have hCF := rcrashFiles_step keep turn LL i name n HM.out c.files f (by have := HFN.out; rw [HCF.out] at this; exact this)
                rw [HMO.out, HMU.out] at hCF
                have hCF2 : CF (i + 1) = (CF i).set n ⟨f.all.take (f.sure + mo) ++ [b ^^^ turn], (f.sure + mo) + 1⟩ := by rw [HCF.out]; exact hCF
                obtain ⟨r1, r2⟩ := rcrash_round (n := n) HINV1.out (by rw [HCl.out]; exact hnl) ⟨f.all.take (f.sure + mo) ++ [b ^^^ turn], (f.sure + mo) + 1⟩ HFRV (HCl.out i)
                rw [← hCF2] at r1
                rw [hmin]
                refine ⟨⟨i + 1, by omega, by go_num, ?_, ?_⟩, by simp [RowKit.intOf]; omega⟩
                · exact r1.fr (((Fr.refl (fun _ => False) _).alloc _).drew) fun _ _ => id
                · exact (r2.alloc _).drew
              · have hel2 : ¬ ((f.sure : Int) + (mo : Int)) < (f.all.length : Int) := by omega
                have hmu : Cab.cut f ((mo : Nat) : Int) turn = ⟨f.all.take (f.sure + mo), (f.sure + mo)⟩ := by unfold Cab.cut; simp [hel]
                have HMU := Lib.hid hmu
                clear hmu
                go_wp2_with fail
                go_region
                go_wp2_with fail
                have hmin : min (f.sure + mo) (str f.all).size = (f.sure + mo) := by rw [str_size]; omega
                have HFRV := hfrV1
                have hCF := rcrashFiles_step keep turn LL i name n HM.out c.files f (by have := HFN.out; rw [HCF.out] at this; exact this)
                rw [HMO.out, HMU.out] at hCF
                have hCF2 : CF (i + 1) = (CF i).set n ⟨f.all.take (f.sure + mo), (f.sure + mo)⟩ := by rw [HCF.out]; exact hCF
                obtain ⟨r1, r2⟩ := rcrash_round (n := n) HINV1.out (by rw [HCl.out]; exact hnl) ⟨f.all.take (f.sure + mo), (f.sure + mo)⟩ HFRV (HCl.out i)
                rw [← hCF2] at r1
                refine ⟨⟨i + 1, by omega, by go_num, ?_, ?_⟩, by simp [RowKit.intOf]; omega⟩
                · have e1 := r1.fr ((Fr.refl (fun _ => False) _).drew) fun _ _ => id
                  rw [ext_take, hmin]
                  exact e1
                · have e1 := r2.drew
                  rw [ext_take, hmin]
                  exact e1
          · have HMO : (if i < keep.length then RCab.part (keep.getD i 0) ((f.all.length : Int) - (f.sure : Int)) else 0) = ((0 : Nat) : Int) := by
              rw [if_neg hkk]
              rfl
            have HMO := Lib.hid HMO
            have hfrV1 := hfrV
            have HINV1 := HINV
            have HROWV1 := HROWV
            clear hfrV HINV HROWV hKV
            generalize V = V1 at *
            obtain ⟨g2, cp2, hv5, _, _, hcell3, hfz3, _⟩ := HROWV1.out.form (by omega)
            obtain rfl : g = g2 := by simp at hv5; omega
            have c0 := hcell3 _ _ (rfileCells_get (CF i) n _ HFN.out).1
            have c1 := hcell3 _ _ (rfileCells_get (CF i) n _ HFN.out).2
            have f0 := hfz3 (n * 2)
            have f1 := hfz3 (n * 2 + 1)
            clear hv5 hcell3 hfz3
            by_cases htu : turn = 0
            · have hmu : Cab.cut f ((0 : Nat) : Int) turn = ⟨f.all.take f.sure, f.sure⟩ := by unfold Cab.cut; simp [htu]
              have htu2 : ¬ ¬ ((turn.toNat : Int) = 0) := by rw [htu]; decide
              clear htu
              have HMU := Lib.hid hmu
              clear hmu
              go_wp2_with fail
              go_region
              go_wp2_with fail
              have hmin : min f.sure (str f.all).size = f.sure := by rw [str_size]; omega
              have HFRV := hfrV1
              have hCF := rcrashFiles_step keep turn LL i name n HM.out c.files f (by have := HFN.out; rw [HCF.out] at this; exact this)
              rw [HMO.out, HMU.out] at hCF
              have hCF2 : CF (i + 1) = (CF i).set n ⟨f.all.take f.sure, f.sure⟩ := by rw [HCF.out]; exact hCF
              obtain ⟨r1, r2⟩ := rcrash_round (n := n) HINV1.out (by rw [HCl.out]; exact hnl) ⟨f.all.take f.sure, f.sure⟩ HFRV (HCl.out i)
              rw [← hCF2] at r1
              refine ⟨⟨i + 1, by omega, by go_num, ?_, ?_⟩, by simp [RowKit.intOf]; omega⟩
              · have e1 := r1.fr ((Fr.refl (fun _ => False) _).drew) fun _ _ => id
                rw [ext_take, hmin]
                exact e1
              · have e1 := r2.drew
                rw [ext_take, hmin]
                exact e1
            · have htu2 : ¬ ((turn.toNat : Int) = 0) := by
                intro e
                apply htu
                apply UInt8.toNat_inj.1
                have : turn.toNat = 0 := by omega
                simpa using this
              by_cases hel : f.sure < f.all.length
              · have hel2 : (f.sure : Int) < (f.all.length : Int) := by omega
                obtain ⟨b, hbb⟩ : ∃ b, f.all[f.sure]? = some b := ⟨_, List.getElem?_eq_getElem hel⟩
                have hlt : f.sure < (str f.all).size := by rw [str_size]; exact hel
                have hb2 : (str f.all)[f.sure]'hlt = b := by
                  have h1 : (str f.all)[f.sure]'hlt = f.all[f.sure]'hel := rfl
                  rw [h1]
                  have h2 := (List.getElem?_eq_getElem hel).symm.trans hbb
                  exact Option.some.inj h2
                have hX : Value.int .u8 (bits BinOp.xor IntKind.u8 (((str f.all)[f.sure]'hlt).toNat : Int) (turn.toNat : Int)) = bv (b ^^^ turn) := by rw [hb2]; exact xor_bv b turn
                have hmu : Cab.cut f ((0 : Nat) : Int) turn = ⟨f.all.take f.sure ++ [b ^^^ turn], f.sure + 1⟩ := by
                  unfold Cab.cut
                  have hnt : turn ≠ 0 ∧ f.sure + ((0 : Nat) : Int).toNat < f.all.length := ⟨htu, by simpa using hel⟩
                  simp only []
                  rw [if_pos hnt]
                  have e1 : f.sure + ((0 : Nat) : Int).toNat = f.sure := by simp
                  rw [e1, List.getD_eq_getElem?_getD, hbb]
                  rfl
                have kt : (convert 35 9 (.slice (some ⟨V1.heap.size, 0, none⟩) 1 1)).run Tryd.prog (V1.alloc (.cells #[Value.int .u8 (bits BinOp.xor IntKind.u8 (((str f.all)[f.sure]'hlt).toNat : Int) (turn.toNat : Int))] 5)) = .ok (.string (str [b ^^^ turn])) (V1.alloc (.cells #[Value.int .u8 (bits BinOp.xor IntKind.u8 (((str f.all)[f.sure]'hlt).toNat : Int) (turn.toNat : Int))] 5)) := by
                  rw [hX]
                  exact text_of (l := [b ^^^ turn]) (Row.made V1 5 1 1 #[bv (b ^^^ turn)] rfl (by decide)).src
                have kadd : ∀ w' : World, (Op.stringOp .add ((str f.all).extract 0 f.sure) (str [b ^^^ turn])).run Tryd.prog w' = .ok (.string (str (f.all.take f.sure ++ [b ^^^ turn]))) w' := fun w' => by
                  rw [ext_take, run_string_add_sum w' _ _ (by rw [str_size, str_size, List.length_take]; simp only [List.length_cons, List.length_nil]; omega), str_append]
                have hFA := fun o : Obj => (Fr.refl (fun _ => False) V1).alloc o
                have c0a := fun o : Obj => (hFA o).cell c0 id
                have c1a := fun o : Obj => (hFA o).cell c1 id
                have e1a := fun o : Obj => (hFA o).cell e1V id
                have b1a := fun o : Obj => (hFA o).cell b1V id
                have HMU := Lib.hid hmu
                have HX := Lib.hid hX
                have HBB := Lib.hid hbb
                clear hmu hX hbb hb2
                go_wp2_with fail
                go_region
                go_wp2_with fail
                have hmin : (str (f.all.take f.sure ++ [b ^^^ turn])).size = f.sure + 1 := by
                  rw [str_size, List.length_append, List.length_take]
                  simp only [List.length_cons, List.length_nil]
                  omega
                have HFRV := hfrV1
                have hCF := rcrashFiles_step keep turn LL i name n HM.out c.files f (by have := HFN.out; rw [HCF.out] at this; exact this)
                rw [HMO.out, HMU.out] at hCF
                have hCF2 : CF (i + 1) = (CF i).set n ⟨f.all.take f.sure ++ [b ^^^ turn], f.sure + 1⟩ := by rw [HCF.out]; exact hCF
                obtain ⟨r1, r2⟩ := rcrash_round (n := n) HINV1.out (by rw [HCl.out]; exact hnl) ⟨f.all.take f.sure ++ [b ^^^ turn], f.sure + 1⟩ HFRV (HCl.out i)
                rw [← hCF2] at r1
                rw [hmin]
                refine ⟨⟨i + 1, by omega, by go_num, ?_, ?_⟩, by simp [RowKit.intOf]; omega⟩
                · exact r1.fr (((Fr.refl (fun _ => False) _).alloc _).drew) fun _ _ => id
                · exact (r2.alloc _).drew
              · have hel2 : ¬ (f.sure : Int) < (f.all.length : Int) := by omega
                have hmu : Cab.cut f ((0 : Nat) : Int) turn = ⟨f.all.take f.sure, f.sure⟩ := by unfold Cab.cut; simp [hel]
                have HMU := Lib.hid hmu
                clear hmu
                go_wp2_with fail
                go_region
                go_wp2_with fail
                have hmin : min f.sure (str f.all).size = f.sure := by rw [str_size]; omega
                have HFRV := hfrV1
                have hCF := rcrashFiles_step keep turn LL i name n HM.out c.files f (by have := HFN.out; rw [HCF.out] at this; exact this)
                rw [HMO.out, HMU.out] at hCF
                have hCF2 : CF (i + 1) = (CF i).set n ⟨f.all.take f.sure, f.sure⟩ := by rw [HCF.out]; exact hCF
                obtain ⟨r1, r2⟩ := rcrash_round (n := n) HINV1.out (by rw [HCl.out]; exact hnl) ⟨f.all.take f.sure, f.sure⟩ HFRV (HCl.out i)
                rw [← hCF2] at r1
                refine ⟨⟨i + 1, by omega, by go_num, ?_, ?_⟩, by simp [RowKit.intOf]; omega⟩
                · have e1 := r1.fr ((Fr.refl (fun _ => False) _).drew) fun _ _ => id
                  rw [ext_take, hmin]
                  exact e1
                · have e1 := r2.drew
                  rw [ext_take, hmin]
                  exact e1
        · obtain rfl : i = LL.length := by omega
          have HINE := Lib.hid hin
          have HLE := Lib.hid hLrow
          have HFE := Lib.hid hfr
          have z2 := hin.blk.frozen 2
          have z3 := hin.blk.frozen 3
          have z4 := hin.blk.frozen 4
          have z6 := hin.blk.frozen 6
          have z7 := hin.blk.frozen 7
          have y2 : wr.cell? ⟨p, 2, none⟩ = some nv := hin.blk.cell 2
          have y3 : wr.cell? ⟨p, 3, none⟩ = some (.slice AS c.sure.length cS) := hin.blk.cell 3
          have y4 : wr.cell? ⟨p, 4, none⟩ = some (.slice AW c.waiting.length cW) := hin.blk.cell 4
          have y6 : wr.cell? ⟨p, 6, none⟩ = some (.bool c.timed) := hin.blk.cell 6
          have y7 : wr.cell? ⟨p, 7, none⟩ = some (.bool c.off) := hin.blk.cell 7
          clear hin hLrow hfr hKs
          go_wp2_with fail
          go_end0
          have h1 := HINE.out.setNow HLE.out
          have h2 := h1.setSure (HLE.out.far (HLE.out.ne_blk HINE.out.blk (by decide)) (p := ⟨p, 2, none⟩) (.slice AL LL.length cL))
          have hnil : Row ((wr.setCell ⟨p, 2, none⟩ (.slice AL LL.length cL)).setCell ⟨p, 3, none⟩ (.slice AL LL.length cL)) 124 3 (.slice none 0 0) ([] : List RChg).length (rchgCells []) := Row.nil _ _ _
          have h3 := ((h2.setWaiting hnil).setTimed false).setOff false
          have hcr : c.crash names keep turn = { c with files := CF LL.length, now := LL, sure := LL, waiting := [], timed := false, off := false } := by
            unfold RCab.crash
            simp only []
            have eL : (c.waiting.take (RCab.part names c.waiting.length).toNat).foldl Folder.wth c.sure = LL := by
              rw [HKN.out, Int.toNat_natCast, ← HLL.out, HFF.out]
            rw [eL, HCF.out]
            simp only []
            rw [List.take_length]
          rw [hcr]
          refine ⟨rfl, _, h3, HO.out, ?_⟩
          have F0 : Fr (fun k => k = p ∨ (Value.slice A c.files.length cp).ownBlock = some k) w wr := (HF1.out.mono (D' := fun k => k = p ∨ (Value.slice A c.files.length cp).ownBlock = some k) fun _ _ h => h.elim).trans HFE.out fun _ h => .inl (.inr h)
          exact ((((F0.setCell (p := ⟨p, 2, none⟩) (.inl (.inl rfl)) _).setCell (p := ⟨p, 3, none⟩) (.inl (.inl rfl)) _).setCell (p := ⟨p, 4, none⟩) (.inl (.inl rfl)) _).setCell (p := ⟨p, 6, none⟩) (.inl (.inl rfl)) _).setCell (p := ⟨p, 7, none⟩) (.inl (.inl rfl)) _
end
end Chart

/- The two cabinets stay alike: a change is recorded, a file turned, the names settled. -/
namespace Chart
open Go (bytesBefore)

theorem names_rename {c : Cab} {x : Chg} {j : Nat} (hj : j ≤ c.waiting.length) : (c.rename x).names_ j = c.names_ j := by
  unfold Cab.names_ Cab.rename
  simp only
  rw [List.take_append_of_le_length hj]

section
variable {B : Nat} {c : Cab} {r : RCab}
theorem apply_length' {x : Chg} {F : Folder} : (F.apply x).length ≤ F.length + 1 := apply_length x F
theorem Sim.record (h : Sim B c r) (x : Chg) (hx : x.Fit c.now) (hf : x.file < c.files.length) (hfile : r.files[x.file]? = c.files[x.file]?) : Sim (B + 1) (c.rename x) (r.names x.toR) := by
  have ht : (r.names x.toR).taken = r.taken ++ [x.file] := by
    unfold RCab.taken RCab.names
    simp only [List.map_append, List.map_cons, List.map_nil, List.append_assoc]
    congr 3
    unfold Chg.toR
    split <;> rfl
  exact {
    quota := h.quota, q0 := h.q0, q1 := h.q1, off := h.off, pow := h.pow, after1 := h.after1
    now := by
      show r.now.wth x.toR = c.now.apply x
      rw [apply_wth hx, h.now]
    sure := h.sure
    wait := by
      show r.waiting ++ [x.toR] = (c.waiting ++ [x]).map Chg.toR
      rw [h.wait, List.map_append]
      rfl
    fit := fun j y hy => by
      have hy' : (c.waiting ++ [x])[j]? = some y := hy
      by_cases hj : j < c.waiting.length
      · rw [List.getElem?_append_left hj] at hy'
        obtain ⟨f1, f2⟩ := h.fit j y hy'
        rw [names_rename (by omega)]
        exact ⟨f1, f2⟩
      · rw [List.getElem?_append_right (by omega)] at hy'
        have hj2 : j = c.waiting.length := by
          have := (List.getElem?_eq_some_iff.1 hy').1
          simp at this
          omega
        subst hj2
        simp at hy'
        subst hy'
        rw [names_rename (Nat.le_refl _), ← h.nows]
        exact ⟨hx, hf⟩
    nows := by
      have e : (c.rename x).waiting.length = c.waiting.length + 1 := by simp [Cab.rename]
      have hg : (c.rename x).waiting[c.waiting.length]? = some x := by simp [Cab.rename]
      rw [e, names_succ hg, names_rename (Nat.le_refl _), ← h.nows]
      rfl
    once := h.once
    sures := h.sures
    len := h.len
    files := fun i hi => by
      rw [ht] at hi
      rcases List.mem_append.1 hi with hi | hi
      · exact h.files i hi
      · rw [List.mem_singleton] at hi
        subst hi
        exact hfile
    rest := fun i f hi hn => h.rest i f hi (fun e => hn (by rw [ht]; exact List.mem_append_left _ e))
    all := h.all
    rall := h.rall
    b1 := Nat.le_succ_of_le h.b1
    b2 := by
      have := h.b2
      show c.sure.length + (c.waiting ++ [x]).length ≤ B + 1
      rw [List.length_append]
      simp
      omega
    b3 := by
      have := h.b3
      have h2 := @apply_length' x c.now
      show (c.now.apply x).length ≤ B + 1
      omega
    b4 := Nat.le_succ_of_le h.b4 }

theorem Sim.addFile (h : Sim B c r) : Sim (B + 1) { c with files := c.files ++ [FileS.mk [] 0] } { r with files := r.files ++ [FileS.mk [] 0] } where
  quota := h.quota
  q0 := h.q0
  q1 := h.q1
  off := h.off
  pow := h.pow
  after1 := h.after1
  now := h.now
  sure := h.sure
  wait := h.wait
  fit := fun j x hx => by
    obtain ⟨f1, f2⟩ := h.fit j x hx
    exact ⟨f1, by rw [List.length_append]; exact Nat.lt_add_right _ f2⟩
  nows := h.nows
  once := h.once
  sures := fun y hy => by
    obtain ⟨h1, h2⟩ := h.sures y hy
    exact ⟨by rw [List.length_append]; exact Nat.lt_add_right _ h1, h2⟩
  len := by simp [h.len]
  files := fun i hi => by
    have hl := taken_lt h (i := i) hi
    rw [List.getElem?_append_left (by rw [h.len]; exact hl), List.getElem?_append_left hl]
    exact h.files i hi
  rest := fun i f hf hn => by
    by_cases hl : i < c.files.length
    · rw [List.getElem?_append_left hl] at hf
      exact h.rest i f hf hn
    · rw [List.getElem?_append_right (by omega)] at hf
      have := List.mem_of_getElem? hf
      simp at this
      subst this
      rfl
  all := fun f hf => by
    rcases List.mem_append.1 hf with hf | hf
    · exact h.all f hf
    · simp at hf
      subst hf
      exact ⟨by simp, by simp⟩
  rall := fun f hf => by
    rcases List.mem_append.1 hf with hf | hf
    · exact h.rall f hf
    · simp at hf
      subst hf
      exact ⟨by simp, by simp⟩
  b1 := by have := h.b1; simp; omega
  b2 := Nat.le_succ_of_le h.b2
  b3 := Nat.le_succ_of_le h.b3
  b4 := Nat.le_succ_of_le h.b4

theorem Sim.mono {B' : Nat} (h : Sim B c r) (hB : B ≤ B') : Sim B' c r := { h with b1 := Nat.le_trans h.b1 hB, b2 := Nat.le_trans h.b2 hB, b3 := Nat.le_trans h.b3 hB, b4 := Nat.le_trans h.b4 hB }

theorem Sim.setFile (h : Sim B c r) {n : Nat} (hn : n ∈ r.taken) (f : FileS) (hf : f.all.length ≤ 1048576 ∧ f.sure ≤ f.all.length) : Sim B (c.setFile n f) (r.setFile n f) where
  quota := h.quota
  q0 := h.q0
  q1 := h.q1
  off := h.off
  pow := h.pow
  after1 := h.after1
  now := h.now
  sure := h.sure
  wait := h.wait
  fit := fun j x hx => by
    obtain ⟨f1, f2⟩ := h.fit j x hx
    exact ⟨f1, by simpa [Cab.setFile] using f2⟩
  nows := h.nows
  once := h.once
  sures := fun y hy => by
    obtain ⟨h1, h2⟩ := h.sures y hy
    exact ⟨by simpa [Cab.setFile] using h1, h2⟩
  len := by simp [Cab.setFile, RCab.setFile, h.len]
  files := fun i hi => by
    have h1 := h.files i hi
    simp only [Cab.setFile, RCab.setFile, List.getElem?_set, h.len, h1]
  rest := fun i g hg hi => by
    have hne : ¬ n = i := fun e => hi (by subst e; exact hn)
    simp only [Cab.setFile, List.getElem?_set, if_neg hne] at hg
    exact h.rest i g hg hi
  all := fun g hg => by
    rcases List.mem_or_eq_of_mem_set hg with hg | hg
    · exact h.all g hg
    · subst hg
      exact hf
  rall := fun g hg => by
    rcases List.mem_or_eq_of_mem_set hg with hg | hg
    · exact h.rall g hg
    · subst hg
      exact hf
  b1 := by have := h.b1; simpa [Cab.setFile] using this
  b2 := h.b2
  b3 := h.b3
  b4 := h.b4

/-- The names are F from now on, with nothing waiting; what has no name is forgotten. -/
theorem Sim.settled (h : Sim B c r) {F : Folder} (h1 : F.Once) (h2 : ∀ y ∈ F, y.2 < c.files.length ∧ y.1 ≠ [] ∧ y.1.length ≤ 32 ∧ y.2 ∈ r.taken) (hF : F.length ≤ B) {fs rs : List FileS} (hl : fs.length = c.files.length) (hrl : rs.length = c.files.length)
    (hsame : ∀ i, i ∈ r.taken → rs[i]? = fs[i]?) (ha : ∀ f ∈ fs, f.all.length ≤ 1048576 ∧ f.sure ≤ f.all.length) (hra : ∀ f ∈ rs, f.all.length ≤ 1048576 ∧ f.sure ≤ f.all.length) :
    Sim B { c with now := F, sure := F, waiting := [], files := Cab.forget F 0 fs } { r with now := F, sure := F, waiting := [], files := rs } := by
  have ht : ∀ i, i ∈ ({ r with now := F, sure := F, waiting := [], files := rs } : RCab).taken → i ∈ F.vals := fun i hi => by
    simpa [RCab.taken] using hi
  have htk : ∀ i, i ∈ F.vals → i ∈ r.taken := fun i hi => by
    obtain ⟨k, hk⟩ := mem_vals.1 hi
    exact (h2 _ hk).2.2.2
  exact {
    quota := h.quota, q0 := h.q0, q1 := h.q1, off := h.off, pow := h.pow, after1 := h.after1
    now := rfl, sure := rfl, wait := rfl
    fit := fun j x hx => by simp at hx
    nows := rfl
    once := h1
    sures := fun y hy => by
      obtain ⟨i1, i2, i3, _⟩ := h2 y hy
      exact ⟨by rw [forget_length, hl]; exact i1, i2, i3⟩
    len := by rw [forget_length, hl]; exact hrl
    files := fun i hi => by
      have hi1 := ht i hi
      show rs[i]? = (Cab.forget F 0 fs)[i]?
      rw [hsame i (htk i hi1)]
      have hlt : i < fs.length := by
        obtain ⟨k, hk⟩ := mem_vals.1 hi1
        rw [hl]
        exact (h2 _ hk).1
      have := forget_get F fs 0 i _ (List.getElem?_eq_getElem hlt)
      rw [this, Nat.zero_add, if_pos (by rw [List.contains_iff_mem]; exact hi1)]
      exact List.getElem?_eq_getElem hlt
    rest := fun i f hf hi => by
      have hf' : (Cab.forget F 0 fs)[i]? = some f := hf
      have hlt : i < fs.length := by
        have := (List.getElem?_eq_some_iff.1 hf').1
        rw [forget_length] at this
        exact this
      have hg := forget_get F fs 0 i _ (List.getElem?_eq_getElem hlt)
      rw [Nat.zero_add, if_neg (fun e => hi (by simpa [RCab.taken] using e)), hf'] at hg
      injection hg with hg
      rw [hg]
    all := fun f hf => by
      obtain ⟨i, hi⟩ := List.getElem?_of_mem hf
      have hlt : i < fs.length := by
        have := (List.getElem?_eq_some_iff.1 hi).1
        rw [forget_length] at this
        exact this
      have hg := forget_get F fs 0 i _ (List.getElem?_eq_getElem hlt)
      have hi' : (Cab.forget F 0 fs)[i]? = some f := hi
      rw [hi'] at hg
      injection hg with hg
      rw [hg]
      split
      · exact ha _ (List.getElem_mem hlt)
      · exact ⟨by simp, by simp⟩
    rall := hra
    b1 := by have := h.b1; rw [forget_length, hl]; exact this
    b2 := hF
    b3 := hF
    b4 := hF }
end
end Chart

/- Each call: the same answer, and the two cabinets alike behind it. -/
namespace Chart
open Go (bytesBefore)

theorem nameOk_len {k : Txt} (h : Cab.nameOk k = true) : k ≠ [] ∧ k.length ≤ 32 := by
  unfold Cab.nameOk at h
  simp only [Bool.and_eq_true, decide_eq_true_eq] at h
  obtain ⟨⟨h1, h2⟩, _⟩ := h
  refine ⟨?_, h2⟩
  rintro rfl
  simp at h1

section
variable {B : Nat} {c : Cab} {r : RCab}
theorem Sim.get (h : Sim B c r) {k : Txt} {n : Nat} (hg : c.now.get? k = some n) : n < c.files.length ∧ k ≠ [] ∧ k.length ≤ 32 ∧ n ∈ r.taken := h.nowOk.2 _ (mem_of_get hg)
theorem Sim.fail (h : Sim B c r) (n : Int) (h1 : n ≤ 9223372036854775807) : Sim B (c.fail n) (r.fail n) :=
  { h with
    pow := by
      unfold Cab.fail RCab.fail
      simp only
      by_cases hn : 0 ≤ n
      · exact .inr ⟨by simpa using hn, by omega, hn⟩
      · exact .inl ⟨by simpa using hn, by omega⟩
    after1 := h1 }
theorem spend_same (c : Cab) : c.spend.1.files = c.files ∧ c.spend.1.now = c.now ∧ c.spend.1.waiting = c.waiting ∧ c.spend.1.sure = c.sure := by
  unfold Cab.spend
  split
  · exact ⟨rfl, rfl, rfl, rfl⟩
  · split <;> exact ⟨rfl, rfl, rfl, rfl⟩
theorem power_same (c : RCab) : c.power.1.files = c.files ∧ c.power.1.now = c.now ∧ c.power.1.waiting = c.waiting ∧ c.power.1.sure = c.sure := by
  unfold RCab.power
  split
  · exact ⟨rfl, rfl, rfl, rfl⟩
  · split <;> exact ⟨rfl, rfl, rfl, rfl⟩
theorem taken_power (c : RCab) : c.power.1.taken = c.taken := by
  obtain ⟨_, _, h3, h4⟩ := power_same c
  unfold RCab.taken
  rw [h3, h4]
theorem Sim.file (h : Sim B c r) {n : Nat} (hn : n ∈ r.taken) : r.file n = c.file n := by
  unfold RCab.file Cab.file
  rw [List.getD_eq_getElem?_getD, List.getD_eq_getElem?_getD, h.files n hn]
theorem find_none {c : Cab} {k : Txt} (h : c.off = false) (hg : c.now.get? k = none) : c.find k = (0, 7) := by unfold Cab.find; simp [h, hg]
theorem find_some {c : Cab} {k : Txt} {n : Nat} (h : c.off = false) (hg : c.now.get? k = some n) : c.find k = (n, 0) := by unfold Cab.find; simp [h, hg]
theorem find_off {c : Cab} {k : Txt} (h : c.off = true) : c.find k = (0, 11) := by unfold Cab.find; simp [h]

theorem Sim.create (h : Sim B c r) (k : Txt) : r.create k = ((r.create k).1, (c.create k).2) ∧ Sim (B + 2) (c.create k).1 (r.create k).1 := by
  have hm := h.mono (Nat.le_add_right B 2)
  unfold Cab.create RCab.create
  rw [h.off, h.now]
  cases ho : c.off
  · simp only [Bool.false_eq_true, if_false]
    cases hk : Cab.nameOk k
    · simp only [if_true]
      exact ⟨trivial, hm⟩
    · simp only [Bool.true_eq_false, if_false]
      rcases at_cases c.now k with ⟨e1, e2⟩ | ⟨n, e1, e2⟩
      · rw [e1, e2]
        simp only [Option.isSome_none, Bool.false_eq_true, if_false, show ¬ ((0 : Int) ≤ -1) by decide]
        by_cases h4 : 4096 ≤ c.now.length
        · simp only [h4, if_true]
          exact ⟨trivial, hm⟩
        · simp only [h4, if_false]
          obtain ⟨s1, s2, _⟩ := h.spend
          rw [s1]
          by_cases hs : c.spend.2 = 0
          · simp only [hs, not_true_eq_false, ne_eq, if_false, if_true]
            refine ⟨trivial, ?_⟩
            obtain ⟨kl1, kl2⟩ := nameOk_len hk
            have h1 := s2.addFile
            have hr := h1.record ⟨0, [], k, c.spend.1.files.length⟩ ⟨by simp, ⟨kl1, kl2⟩, by simp, fun _ => rfl, fun e => by simp at e⟩ (by simp) (by
              have := s2.len
              simp only
              rw [List.getElem?_append_right (by omega), List.getElem?_append_right (by omega), this])
            have e : Chg.toR ⟨0, [], k, c.spend.1.files.length⟩ = ⟨[], k, r.power.1.files.length⟩ := by
              have := s2.len
              simp [Chg.toR, this]
            rw [e] at hr
            exact hr
          · simp only [hs, not_false_eq_true, ne_eq, if_true, if_false]
            exact ⟨by rw [← s1], s2.mono (Nat.le_add_right B 2)⟩
      · rw [e1, e2]
        simp only [Option.isSome_some, if_true, show ((0 : Int) ≤ (n : Int)) by omega]
        exact ⟨trivial, hm⟩
  · simp only [if_true]
    exact ⟨trivial, hm⟩

theorem Sim.sync (h : Sim B c r) (k : Txt) : (r.sync k).2 = (c.sync k).2 ∧ Sim (B + 2) (c.sync k).1 (r.sync k).1 := by
  have hm := h.mono (Nat.le_add_right B 2)
  unfold Cab.sync RCab.sync
  rw [h.off, h.now]
  cases ho : c.off
  · simp only [Bool.false_eq_true, if_false]
    rcases at_cases c.now k with ⟨e1, _⟩ | ⟨n, e1, _⟩
    · rw [find_none ho e1, e1]
      exact ⟨rfl, hm⟩
    · rw [find_some ho e1, e1]
      simp only [ne_eq, not_true_eq_false, if_false]
      obtain ⟨s1, s2, _⟩ := h.spend
      rw [s1]
      by_cases hs : c.spend.2 = 0
      · simp only [hs, not_true_eq_false, if_false, if_true]
        refine ⟨trivial, ?_⟩
        obtain ⟨_, _, _, g4⟩ := h.get e1
        have hn : n ∈ r.power.1.taken := by rw [taken_power]; exact g4
        have hlt := taken_lt s2 hn
        have hfe := s2.file hn
        have hfm : c.spend.1.file n ∈ c.spend.1.files := by
          unfold Cab.file
          rw [List.getD_eq_getElem?_getD, List.getElem?_eq_getElem hlt]
          exact List.getElem_mem hlt
        obtain ⟨a1, a2⟩ := s2.all _ hfm
        have := s2.setFile hn { c.spend.1.file n with sure := (c.spend.1.file n).all.length } ⟨a1, Nat.le_refl _⟩
        rw [hfe]
        exact this.mono (Nat.le_add_right B 2)
      · simp only [hs, not_false_eq_true, if_true, if_false]
        exact ⟨s1, s2.mono (Nat.le_add_right B 2)⟩
  · rw [find_off ho]
    simp
    exact hm
theorem Sim.append (h : Sim B c r) (k b : Txt) : (r.append k b).2 = (c.append k b).2 ∧ Sim (B + 2) (c.append k b).1 (r.append k b).1 := by
  have hm := h.mono (Nat.le_add_right B 2)
  unfold Cab.append RCab.append
  rw [h.off, h.now]
  cases ho : c.off
  · simp only [Bool.false_eq_true, if_false]
    rcases at_cases c.now k with ⟨e1, _⟩ | ⟨n, e1, _⟩
    · rw [find_none ho e1, e1]
      exact ⟨rfl, hm⟩
    · obtain ⟨_, _, _, g4⟩ := h.get e1
      rw [find_some ho e1, e1]
      simp only [ne_eq, not_true_eq_false, if_false, h.file g4, h.quota, h.used]
      by_cases h17 : (b.length : Int) > 1048576 - ((c.file n).all.length : Int)
      · simp only [h17, if_true]
        exact ⟨trivial, hm⟩
      · simp only [h17, if_false]
        by_cases h10 : (b.length : Int) > c.quota - (c.used : Int)
        · simp only [h10, if_true]
          exact ⟨trivial, hm⟩
        · simp only [h10, if_false]
          obtain ⟨s1, s2, _⟩ := h.spend
          rw [s1]
          by_cases hs : c.spend.2 = 0
          · simp only [hs, not_true_eq_false, if_false, if_true]
            refine ⟨trivial, ?_⟩
            have hn : n ∈ r.power.1.taken := by rw [taken_power]; exact g4
            have hlt := taken_lt s2 hn
            have hfe := s2.file hn
            have hfc : c.spend.1.file n = c.file n := by unfold Cab.file; rw [(spend_same c).1]
            have hfm : c.spend.1.file n ∈ c.spend.1.files := by
              unfold Cab.file
              rw [List.getD_eq_getElem?_getD, List.getElem?_eq_getElem hlt]
              exact List.getElem_mem hlt
            obtain ⟨a1, a2⟩ := s2.all _ hfm
            have := s2.setFile hn { c.spend.1.file n with all := (c.spend.1.file n).all ++ b } ⟨by simp only [List.length_append]; rw [hfc] at a1 ⊢; omega, by simp only [List.length_append]; omega⟩
            rw [hfe]
            exact this.mono (Nat.le_add_right B 2)
          · simp only [hs, not_false_eq_true, if_true, if_false]
            exact ⟨s1, s2.mono (Nat.le_add_right B 2)⟩
  · rw [find_off ho]
    simp
    exact hm
theorem Sim.remove (h : Sim B c r) (k : Txt) : (r.remove k).2 = (c.remove k).2 ∧ Sim (B + 2) (c.remove k).1 (r.remove k).1 := by
  have hm := h.mono (Nat.le_add_right B 2)
  unfold Cab.remove RCab.remove
  rw [h.off, h.now]
  cases ho : c.off
  · simp only [Bool.false_eq_true, if_false]
    rcases at_cases c.now k with ⟨e1, _⟩ | ⟨n, e1, _⟩
    · rw [find_none ho e1, e1]
      exact ⟨rfl, hm⟩
    · obtain ⟨g1, g2, g3, g4⟩ := h.get e1
      rw [find_some ho e1, e1]
      simp only [ne_eq, not_true_eq_false, if_false]
      obtain ⟨s1, s2, _⟩ := h.spend
      rw [s1]
      by_cases hs : c.spend.2 = 0
      · simp only [hs, not_true_eq_false, if_false, if_true]
        refine ⟨trivial, ?_⟩
        have hn : n ∈ r.power.1.taken := by rw [taken_power]; exact g4
        exact (s2.record ⟨2, [], k, n⟩ ⟨by simp, ⟨g2, g3⟩, by simp, fun _ => rfl, fun e => by simp at e⟩ (taken_lt s2 hn) (s2.files n hn)).mono (Nat.le_succ _)
      · simp only [hs, not_false_eq_true, if_true, if_false]
        exact ⟨s1, s2.mono (Nat.le_add_right B 2)⟩
  · rw [find_off ho]
    simp
    exact hm
theorem Sim.rename (h : Sim B c r) (k name : Txt) : (r.renameTo k name).2 = (c.renameTo k name).2 ∧ Sim (B + 2) (c.renameTo k name).1 (r.renameTo k name).1 := by
  have hm := h.mono (Nat.le_add_right B 2)
  unfold Cab.renameTo RCab.renameTo
  rw [h.off, h.now]
  cases ho : c.off
  · simp only [Bool.false_eq_true, if_false]
    rcases at_cases c.now k with ⟨e1, _⟩ | ⟨n, e1, _⟩
    · rw [find_none ho e1, e1]
      exact ⟨rfl, hm⟩
    · obtain ⟨g1, g2, g3, g4⟩ := h.get e1
      rw [find_some ho e1, e1]
      simp only [ne_eq, not_true_eq_false, if_false]
      cases hk : Cab.nameOk name
      · simp only [if_true]
        exact ⟨trivial, hm⟩
      · simp only [Bool.true_eq_false, if_false]
        obtain ⟨kl1, kl2⟩ := nameOk_len hk
        obtain ⟨s1, s2, _⟩ := h.spend
        rw [s1]
        by_cases hs : c.spend.2 = 0
        · simp only [hs, not_true_eq_false, if_false, if_true]
          refine ⟨trivial, ?_⟩
          have hn : n ∈ r.power.1.taken := by rw [taken_power]; exact g4
          exact (s2.record ⟨1, k, name, n⟩ ⟨by simp, ⟨kl1, kl2⟩, g3, fun e => by simp at e, fun _ => ⟨g2, by rw [(spend_same c).2.1]; exact e1⟩⟩ (taken_lt s2 hn) (s2.files n hn)).mono (Nat.le_succ _)
        · simp only [hs, not_false_eq_true, if_true, if_false]
          exact ⟨s1, s2.mono (Nat.le_add_right B 2)⟩
  · rw [find_off ho]
    simp
    exact hm
theorem Sim.turn (h : Sim B c r) : r.turn.2 = c.turn.2 ∧ Sim (B + 2) c.turn.1 r.turn.1 := by
  have hm := h.mono (Nat.le_add_right B 2)
  unfold Cab.turn RCab.turn
  rw [h.off]
  cases ho : c.off
  · simp only [Bool.false_eq_true, if_false]
    obtain ⟨s1, s2, _⟩ := h.spend
    rw [s1]
    by_cases hs : c.spend.2 = 0
    · simp only [hs, ne_eq, not_true_eq_false, if_false, if_true]
      refine ⟨trivial, ?_⟩
      have := s2.settled s2.nowOk.1 s2.nowOk.2 s2.b3 rfl s2.len s2.files s2.all s2.rall
      have e := s2.now
      unfold Cab.settle
      rw [e]
      exact this.mono (Nat.le_add_right B 2)
    · simp only [hs, ne_eq, not_false_eq_true, if_true, if_false]
      exact ⟨s1, s2.mono (Nat.le_add_right B 2)⟩
  · simp only [if_true]
    exact ⟨trivial, hm⟩
theorem Sim.read (h : Sim B c r) (k : Txt) : r.read k = c.read k := by
  unfold Cab.read RCab.read
  rw [h.off, h.now]
  cases ho : c.off
  · simp only [Bool.false_eq_true, if_false]
    rcases at_cases c.now k with ⟨e1, _⟩ | ⟨n, e1, _⟩
    · rw [find_none ho e1, e1]
      rfl
    · obtain ⟨_, _, _, g4⟩ := h.get e1
      rw [find_some ho e1, e1]
      simp [h.file g4]
  · rw [find_off ho]
    simp
theorem Sim.namesSame (h : Sim B c r) : r.namesOf = c.names := by
  unfold RCab.namesOf Cab.names
  rw [h.off, h.now]

theorem part_same (n : Int) (m : Nat) : RCab.part n m = Cab.part n m := by unfold RCab.part Cab.part; split <;> (try split) <;> omega
theorem part_same' (n m : Int) (h : 0 ≤ m) : RCab.part n m = Cab.part n m := by unfold RCab.part Cab.part; split <;> (try split) <;> omega
/-- The same cuts at the same files. -/
theorem crash_same (F : Folder) (hF : F.Once) (keep : List Int) (turn : UInt8) (T : List Nat) (hT : ∀ y ∈ F, y.2 ∈ T) : ∀ (l : Folder) (i : Nat) (cf rf : List FileS), (∀ y ∈ l, y ∈ F) → cf.length = rf.length → (∀ f ∈ cf, FileOk f) → (∀ k, k ∈ T → rf[k]? = cf[k]?) →
    ∀ k, k ∈ T → (RCab.crashFiles keep turn l i rf)[k]? = (Cab.crashFiles F keep turn l.keys i cf)[k]?
  | [], _, _, _, _, _, _, h => h
  | y :: l, i, cf, rf, hl, hlen, hok, h => by
    have hy := hl y (List.mem_cons.2 (.inl rfl))
    obtain ⟨j, hj⟩ := List.getElem?_of_mem hy
    have hg := once_get hF hj
    have hyT := hT y hy
    have hfy : rf.getD y.2 ⟨[], 0⟩ = cf.getD y.2 ⟨[], 0⟩ := by rw [List.getD_eq_getElem?_getD, List.getD_eq_getElem?_getD, h _ hyT]
    have hd : FileOk (cf.getD y.2 ⟨[], 0⟩) := by
      rw [List.getD_eq_getElem?_getD]
      cases hq : cf[y.2]? with
      | none => exact ⟨by simp, by simp⟩
      | some z => exact hok _ (List.mem_of_getElem? hq)
    have hp := part_same' (keep.getD i 0) (((cf.getD y.2 ⟨[], 0⟩).all.length : Int) - ((cf.getD y.2 ⟨[], 0⟩).sure : Int)) (by have := hd.2; omega)
    have hk : Folder.keys (y :: l) = y.1 :: Folder.keys l := rfl
    rw [hk]
    simp only [RCab.crashFiles, Cab.crashFiles, hg, Option.getD_some, hfy, hp]
    refine crash_same F hF keep turn T hT l (i + 1) _ _ (fun z hz => hl z (List.mem_cons.2 (.inr hz))) (by simp [hlen]) (fun f hf => ?_) (fun k hk => ?_)
    · rcases List.mem_or_eq_of_mem_set hf with hf | hf
      · exact hok f hf
      · subst hf
        refine cut_ok hd _ _ ?_
        split
        · exact (part_le _ _ (by have := hd.2; omega)).2
        · have := hd.2; omega
    · rw [List.getElem?_set, List.getElem?_set, hlen, h k hk]
theorem Sim.crash (h : Sim B c r) (names : Int) (keep : List Int) (turn : UInt8) : Sim B (c.crash names keep turn) (r.crash names keep turn) := by
  have hpt := part_le names (c.waiting.length : Int) (by omega)
  have hwl : r.waiting.length = c.waiting.length := by rw [h.wait, List.length_map]
  obtain ⟨n1, n2, n3⟩ := h.names (Cab.part names c.waiting.length).toNat (by omega)
  have hFl : (c.names_ (Cab.part names c.waiting.length).toNat).length ≤ B := by
    unfold Cab.names_
    have h1 := foldl_length (c.waiting.take (Cab.part names c.waiting.length).toNat) c.sure
    have h2 : (c.waiting.take (Cab.part names c.waiting.length).toNat).length ≤ c.waiting.length := by rw [List.length_take]; omega
    have h4 := h.b2
    omega
  generalize hF : c.names_ (Cab.part names c.waiting.length).toNat = F at *
  have hs := h.settled n1 n2 hFl (fs := Cab.crashFiles F keep turn F.keys 0 c.files) (rs := RCab.crashFiles keep turn F 0 r.files) (crashFiles_length _ _ _ _ _ _) (by rw [rcrashFiles_length, h.len])
    (crash_same F n1 keep turn r.taken (fun y hy => (n2 y hy).2.2.2) F 0 c.files r.files (fun _ hy => hy) h.len.symm h.all h.files) (crashFiles_ok _ _ _ _ _ _ h.all) (rcrashFiles_ok _ _ _ _ _ h.rall)
  have hc : c.crash names keep turn = { c with now := F, sure := F, waiting := [], files := Cab.forget F 0 (Cab.crashFiles F keep turn F.keys 0 c.files), after := -1, off := false } := by
    unfold Cab.crash Cab.settle
    simp only []
    rw [show (c.waiting.take (Cab.part names c.waiting.length).toNat).foldl Folder.apply c.sure = F from hF]
  have hr : r.crash names keep turn = { r with now := F, sure := F, waiting := [], files := RCab.crashFiles keep turn F 0 r.files, timed := false, off := false } := by
    unfold RCab.crash
    simp only []
    rw [hwl, part_same, ← n3]
  rw [hc, hr]
  exact { hs with off := rfl, pow := .inl ⟨rfl, rfl⟩ }
end
end Chart
