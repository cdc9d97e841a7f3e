/- A file of the cabinet is turned; settle. -/
import Derived.Test.YtophgamjhngppaaDoorCabF
namespace Chart
open Go Go.RowKit Go.Proofs
attribute [local go_sem ↓] Go.wp_at_zero Go.wp_at_succ

theorem fileCells_set : ∀ (avs : List Value) (fs : List FileS) (i : Nat) (v : Value) (f : FileS), i < fs.length → avs.length = fs.length →
    ((fileCells avs fs).set (i * 2) v).set (i * 2 + 1) (.int .i64 f.sure) = fileCells (avs.set i v) (fs.set i f)
  | [], [], _, _, _, h, _ => by simp at h
  | _ :: _, [], _, _, _, h, _ => by simp at h
  | [], _ :: _, _, _, _, _, h => by simp at h
  | v0 :: vs, f0 :: fs, 0, v, f, _, _ => rfl
  | v0 :: vs, f0 :: fs, i + 1, v, f, h, hl => by
    have e : (i + 1) * 2 = i * 2 + 1 + 1 := by omega
    have ih := fileCells_set vs fs i v f (by simpa using h) (by simpa using hl)
    simp only [fileCells, e, List.set_cons_succ]
    rw [ih]
theorem fileCells_sure : ∀ (avs : List Value) (fs : List FileS) (i : Nat) (f : FileS), fs[i]? = some f → ∀ (s : Nat), avs.length = fs.length →
    (fileCells avs fs).set (i * 2 + 1) (.int .i64 s) = fileCells avs (fs.set i { f with sure := s })
  | [], [], _, _, h, _, _ => by simp at h
  | _ :: _, [], _, _, h, _, _ => by simp at h
  | [], _ :: _, _, _, _, _, h => by simp at h
  | v0 :: vs, f0 :: fs, 0, f, h, s, _ => by simp at h; subst h; rfl
  | v0 :: vs, f0 :: fs, i + 1, f, h, s, hl => by
    have e : (i + 1) * 2 = i * 2 + 1 + 1 := by omega
    have ih := fileCells_sure vs fs i f (by simpa using h) s (by simpa using hl)
    simp only [fileCells, e, List.set_cons_succ]
    rw [ih]
theorem fileCells_all : ∀ (avs : List Value) (fs : List FileS) (i : Nat) (f : FileS), fs[i]? = some f → ∀ (v : Value) (l : Txt), avs.length = fs.length →
    (fileCells avs fs).set (i * 2) v = fileCells (avs.set i v) (fs.set i { f with all := l })
  | [], [], _, _, h, _, _, _ => by simp at h
  | _ :: _, [], _, _, h, _, _, _ => by simp at h
  | [], _ :: _, _, _, _, _, _, h => by simp at h
  | v0 :: vs, f0 :: fs, 0, f, h, v, l, _ => by simp at h; subst h; rfl
  | v0 :: vs, f0 :: fs, i + 1, f, h, v, l, hl => by
    have e : (i + 1) * 2 = i * 2 + 1 + 1 := by omega
    have ih := fileCells_all vs fs i f (by simpa using h) v l (by simpa using hl)
    simp only [fileCells, e, List.set_cons_succ]
    rw [ih]

section
variable {w w1 w2 : World} {p : Nat} {c : Cab} {fv : Value} {avs : List Value} {nb sb : Nat} {wv : Value} {D : Nat → Prop}
/-- File i is turned: its bytes first (from w to w1), then its cells (from w1 to w2). -/
theorem CabIn.turnFile (h : CabIn w p c fv avs nb sb wv) {i : Nat} {v v' : Value} {f' : FileS} {E : Nat → Prop} (hv : avs[i]? = some v) (F1 : Fr E w w1) (hE : ∀ k, E k → v.ownBlock = some k) (hb : Bytes w1 v' f'.all)
    (hv' : ∀ k, v'.ownBlock = some k → v.ownBlock = some k ∨ w.heap.size ≤ k) (hrow : Row w2 102 2 fv c.files.length (fileCells (avs.set i v') (c.files.set i f'))) (F2 : Fr (fun k => fv.ownBlock = some k) w1 w2) :
    CabIn w2 p { c with files := c.files.set i f' } fv (avs.set i v') nb sb wv := by
  have hi : i < c.files.length := by
    have := (List.getElem?_eq_some_iff.1 hv).1
    have := h.len
    omega
  obtain ⟨v0, hv0, hvb⟩ := h.bytes i _ (List.getElem?_eq_getElem hi)
  rw [hv] at hv0
  cases hv0
  have a1 : ∀ k, E k → k ≠ p := fun k hk e => hvb.ne_blk h.blk (by decide) (e ▸ hE k hk)
  have a2 : ∀ k, fv.ownBlock = some k → k ≠ p := fun k hk e => h.files.ne_blk h.blk (by decide) (e ▸ hk)
  have b1 := (h.blk.fr F1 fun e => a1 _ e rfl).fr F2 fun e => a2 _ e rfl
  exact {
    blk := b1
    files := by simpa using hrow
    len := by simpa using h.len
    bytes := fun j f hj => by
      simp only [List.getElem?_set] at hj ⊢
      by_cases e : i = j
      · subst e
        rw [if_pos rfl, if_pos (by omega)] at hj
        cases hj
        have hl := h.len
        exact ⟨v', by rw [if_pos rfl, if_pos (by omega)], hb.fr F2 fun k hk e => by
          rcases hv' k hk with h1 | h1
          · exact hvb.ne_row h.files (by decide) h1 e
          · have := h.files.lt e
            omega⟩
      · rw [if_neg e] at hj
        obtain ⟨u, hu, hub⟩ := h.bytes j f hj
        exact ⟨u, by rw [if_neg e]; exact hu, (hub.fr F1 fun k hk hek => h.apart i j v u k hv hu e (hE k hek) hk).fr F2 fun k hk hek => hub.ne_row h.files (by decide) hk hek⟩
    apart := fun j j' u u' k hu hu' hne hk => by
      simp only [List.getElem?_set] at hu hu'
      have hlt : ∀ (m : Nat) (x : Value), avs[m]? = some x → ∀ q, x.ownBlock = some q → q < w.heap.size := fun m x hx q hq => h.lt q (.inr (.inr (.inl ⟨x, List.mem_of_getElem? hx, hq⟩)))
      by_cases e : i = j
      · subst e
        rw [if_pos rfl] at hu
        rw [if_neg hne] at hu'
        split at hu
        · cases hu
          rcases hv' k hk with h1 | h1
          · exact h.apart i j' v u' k hv hu' hne h1
          · intro h2
            have := hlt j' u' hu' k h2
            omega
        · cases hu
      · rw [if_neg e] at hu
        by_cases e' : i = j'
        · subst e'
          rw [if_pos rfl] at hu'
          split at hu'
          · cases hu'
            intro h2
            rcases hv' k h2 with h1 | h1
            · exact h.apart j i u v k hu hv hne hk h1
            · have := hlt j u hu k hk
              omega
          · cases hu'
        · rw [if_neg e'] at hu'
          exact h.apart j j' u u' k hu hu' hne hk
    now := (h.now.fr F1 fun e => hvb.ne_map h.now (hE _ e)).fr F2 fun e => h.files.ne_map h.now e
    sure := (h.sure.fr F1 fun e => hvb.ne_map h.sure (hE _ e)).fr F2 fun e => h.files.ne_map h.sure e
    two := h.two
    waiting := (h.waiting.fr F1 fun k hk e => hvb.ne_row h.waiting (by decide) (hE k e) hk).fr F2 fun k hk e => h.files.ne_row h.waiting (by decide) e hk }

theorem forget_length (now : Folder) : ∀ (l : List FileS) (i : Nat), (Cab.forget now i l).length = l.length
  | [], _ => rfl
  | f :: r, i => by simp [Cab.forget, forget_length now r (i + 1)]
theorem forget_get (now : Folder) : ∀ (l : List FileS) (i j : Nat) (f : FileS), l[j]? = some f → (Cab.forget now i l)[j]? = some (if now.vals.contains (i + j) then f else ⟨[], 0⟩)
  | [], _, _, _, h => by simp at h
  | f0 :: r, i, 0, f, h => by simp at h; subst h; rfl
  | f0 :: r, i, j + 1, f, h => by
    simp only [List.getElem?_cons_succ] at h
    have := forget_get now r (i + 1) j f h
    simp only [Cab.forget, List.getElem?_cons_succ]
    rw [this, show i + 1 + j = i + (j + 1) by omega]

/-- The files behind k rounds of settle's loop. -/
def forgetTo (now : Folder) (fs : List FileS) (k : Nat) : List FileS := (Cab.forget now 0 fs).take k ++ fs.drop k
theorem forgetTo_zero (now : Folder) (fs : List FileS) : forgetTo now fs 0 = fs := by simp [forgetTo]
theorem forgetTo_end (now : Folder) (fs : List FileS) : forgetTo now fs fs.length = Cab.forget now 0 fs := by
  unfold forgetTo
  rw [List.take_of_length_le (by rw [forget_length]; exact Nat.le_refl _), List.drop_length, List.append_nil]
theorem forgetTo_length (now : Folder) (fs : List FileS) (k : Nat) (hk : k ≤ fs.length) : (forgetTo now fs k).length = fs.length := by
  unfold forgetTo
  rw [List.length_append, List.length_take, List.length_drop, forget_length]
  omega
theorem forgetTo_at (now : Folder) (fs : List FileS) (k : Nat) (f : FileS) (hf : fs[k]? = some f) : (forgetTo now fs k)[k]? = some f := by
  have hk := (List.getElem?_eq_some_iff.1 hf).1
  unfold forgetTo
  rw [List.getElem?_append_right (by rw [List.length_take]; omega), List.length_take, forget_length, Nat.min_eq_left (by omega), Nat.sub_self, List.getElem?_drop]
  simpa using hf
theorem forgetTo_succ (now : Folder) (fs : List FileS) (k : Nat) (f : FileS) (hf : fs[k]? = some f) :
    forgetTo now fs (k + 1) = (forgetTo now fs k).set k (if now.vals.contains k then f else ⟨[], 0⟩) := by
  have hk := (List.getElem?_eq_some_iff.1 hf).1
  have hg := forget_get now fs 0 k f hf
  rw [Nat.zero_add] at hg
  apply List.ext_getElem?
  intro j
  rw [List.getElem?_set]
  unfold forgetTo
  have hl1 : ((Cab.forget now 0 fs).take (k + 1)).length = k + 1 := by rw [List.length_take, forget_length]; omega
  have hl2 : ((Cab.forget now 0 fs).take k).length = k := by rw [List.length_take, forget_length]; omega
  by_cases e : k = j
  · subst e
    rw [if_pos rfl, if_pos (by rw [List.length_append, hl2, List.length_drop]; omega), List.getElem?_append_left (by omega), List.getElem?_take, if_pos (by omega), hg]
  · rw [if_neg e]
    by_cases hj : j < k
    · rw [List.getElem?_append_left (by omega), List.getElem?_append_left (by omega), List.getElem?_take, List.getElem?_take, if_pos (by omega), if_pos (by omega)]
    · rw [List.getElem?_append_right (by omega), List.getElem?_append_right (by omega), hl1, hl2, List.getElem?_drop, List.getElem?_drop]
      congr 1
      omega

def OwnLess (avs avs' : List Value) : Prop := ∀ v ∈ avs', v ∈ avs ∨ v.ownBlock = none

theorem rowfree {n m g cp : Nat} {xs : List Value} (h : Row w 102 2 (.slice (some ⟨g, 0, none⟩) n cp) m xs) (j : Nat) : w.frozen? ⟨g, j, none⟩ = false := by
  rcases h.2 with ⟨hv, _⟩ | ⟨g', cap, cur, hv, hg, _⟩
  · cases hv
  · cases hv
    simp [World.frozen?, hg]
theorem settle_mid (hi : CabIn w p c fv avs nb sb wv) (hF1 : FolderIn w1 w.heap.size c.now) (hB1 : Below w.heap.size w w1) :
    CabIn ((w1.setCell ⟨p, 3, none⟩ (.map (some w.heap.size))).setCell ⟨p, 4, none⟩ (.slice none 0 0)) p { c with sure := c.now, waiting := [] } fv avs nb w.heap.size (.slice none 0 0) := by
  have F := Fr.of_below (fun _ => False) hB1
  have hb1 := hi.blk.fr F id
  have hp := hi.blk.lt
  exact {
    blk := (hb1.set 3 _).set 4 _
    files := ((hi.files.fr F fun _ _ => id).far (fun e => hi.files.ne_blk hi.blk (by decide) e) _).far (fun e => hi.files.ne_blk hi.blk (by decide) e) _
    len := hi.len
    bytes := fun i f hf => by
      obtain ⟨v, hv, hr⟩ := hi.bytes i f hf
      exact ⟨v, hv, ((hr.fr F fun _ _ => id).far (fun e => hr.ne_blk hi.blk (by decide) e) _).far (fun e => hr.ne_blk hi.blk (by decide) e) _⟩
    apart := hi.apart
    now := ((hi.now.fr F id).far (fun e => hi.blk.ne_map hi.now (by simpa using e.symm)) _).far (fun e => hi.blk.ne_map hi.now (by simpa using e.symm)) _
    sure := (hF1.far (by simp; omega) _).far (by simp; omega) _
    two := by have := hi.now.lt; omega
    waiting := Row.nil _ _ _ }

set_option maxRecDepth 100000 in
set_option maxHeartbeats 1000000 in
theorem settle_calls (h : CabAt w p c D) (hn : c.files.length ≤ 1000000) :
    Calls Tryd.prog 48 #[.pointer (some ⟨p, 0, none⟩)] w fun e w' => e = .returned (.tuple #[]) ∧ ∃ D', After w D p c.settle D' w' := by
  obtain ⟨fv, avs, nb, sb, wv, hi, hD, hlt⟩ := h
  obtain ⟨_, _, k2, _, _, _, _⟩ := hi.cells
  have HC := Lib.hid (clone_calls nb c.now w hi.now)
  obtain ⟨A, cp, rfl, hcp, hcp2⟩ := hi.files.shape
  have hp := hi.blk.lt
  go_enter Tryd.func48, Tryd.ntmps48
  go_wp2_with (go_at_call 42; refine HC.out.mono ?_; rintro e w1 ⟨rfl, hF1, hB1⟩; have hb1 := hi.blk.fr (Fr.of_below (fun _ => False) hB1) id; have q1 := hb1.frozen 3; have q2 := hb1.frozen 4; have q3 : w1.cell? ⟨p, 3, none⟩ = some (.map (some sb)) := hb1.cell 3; have q4 : w1.cell? ⟨p, 4, none⟩ = some wv := hb1.cell 4; have q5 : w1.cell? ⟨p, 1, none⟩ = some (.slice A c.files.length cp) := hb1.cell 1)
  have hm := settle_mid hi hF1 hB1
  have F1 : Fr (fun k => k = p) w ((w1.setCell ⟨p, 3, none⟩ (.map (some w.heap.size))).setCell ⟨p, 4, none⟩ (.slice none 0 0)) := ((Fr.of_below (fun k => k = p) hB1).setCell (p := ⟨p, 3, none⟩) (.inl rfl) _).setCell (p := ⟨p, 4, none⟩) (.inl rfl) _
  generalize ((w1.setCell ⟨p, 3, none⟩ (.map (some w.heap.size))).setCell ⟨p, 4, none⟩ (.slice none 0 0)) = W at *
  clear q1 q2 q3 q4 q5 hb1 hF1 hB1 HC k2
  obtain ⟨S, hS⟩ : ∃ S, S = w.heap.size := ⟨_, rfl⟩
  rw [← hS] at hm
  have HS := Lib.hid hS
  clear hS
  go_loopw [19] (fun i wr => ∃ (k : Nat) (avs' : List Value), k ≤ c.files.length ∧ i = .int .i64 k ∧ CabIn wr p { c with sure := c.now, waiting := [], files := forgetTo c.now c.files k } (.slice A c.files.length cp) avs' nb S (.slice none 0 0) ∧ OwnLess avs avs' ∧ Fr (fun k => (Value.slice A c.files.length cp).ownBlock = some k) W wr) (fun i _ => c.files.length - (RowKit.intOf i).toNat)
  case atStart => exact ⟨0, avs, Nat.zero_le _, rfl, by rw [forgetTo_zero]; exact hm, fun v hv => .inl hv, Fr.refl _ _⟩
  case round =>
    obtain ⟨k, avs', hk, rfl, hin, hless, hfr⟩ := hrel
    have hlen := forgetTo_length c.now c.files k hk
    by_cases hlt : k < c.files.length
    · have hn3 := hin.named k
      have hf := List.getElem?_eq_getElem hlt
      have hs := forgetTo_succ c.now c.files k _ hf
      have ha := forgetTo_at c.now c.files k _ hf
      cases hc : c.now.vals.contains k
      · simp only [hc] at hn3
        rw [hc] at hs
        have HN := Lib.hid hn3
        have hkl : k < ({ c with sure := c.now, waiting := [], files := forgetTo c.now c.files k } : Cab).files.length := by simp only [hlen]; exact hlt
        obtain ⟨g, cp', v, f, hv, _, hav, haf, hg, c0, c1, hb⟩ := hin.file hkl
        obtain ⟨rfl, hq, rfl⟩ : A = some ⟨g, 0, none⟩ ∧ c.files.length = (forgetTo c.now c.files k).length ∧ cp = cp' := by simpa using hv
        have HS' := Lib.hid hs
        have HL := Lib.hid hlen
        have HV := Lib.hid hav
        clear hn3 hs hc hv ha haf hf hlen hav hq
        go_wp2_with (go_at_call 80; refine HN.out.mono ?_; rintro e w3 ⟨rfl, hfr3⟩; have hin3 := hin.fr hfr3 (fun _ _ => id); have r1 : w3.cell? ⟨p, 1, none⟩ = some (.slice (some ⟨g, 0, none⟩) c.files.length cp) := hin3.blk.cell 1; have r2 := hfr3.cell c0 id; have r3 := hfr3.cell c1 id; have r4 := rowfree hin3.files (k * 2); have r5 := rowfree hin3.files (k * 2 + 1))
        refine ⟨⟨k + 1, avs'.set k (.slice none 0 0), by omega, by go_num, ?_, ?_, ?_⟩, by simp [RowKit.intOf]; omega⟩
        · have hr0 := hin.files
          simp only [HL.out] at hr0
          have hr1 := ((hr0.fr hfr3 fun _ _ => id).set (k * 2) (.slice none 0 0)).set (k * 2 + 1) (.int .i64 0)
          have hl' := hin.len
          simp only at hl'
          have e := fileCells_set avs' (forgetTo c.now c.files k) k (.slice none 0 0) ⟨[], 0⟩ hkl hl'
          have e0 : ((0 : Nat) : Int) = 0 := rfl
          simp only [e0] at e
          rw [e] at hr1
          have ht := hin.turnFile (E := fun _ => False) (v' := .slice none 0 0) (f' := ⟨[], 0⟩) HV.out hfr3 (fun _ h => h.elim) (Row.nil _ _ _) (fun _ h => by simp [Value.ownBlock] at h) (by simp only [HL.out]; exact hr1) (((Fr.refl (fun q => (Value.slice (some ⟨g, 0, none⟩) c.files.length cp).ownBlock = some q) w3).setCell (p := ⟨g, k * 2, none⟩) (.inl rfl) _).setCell (p := ⟨g, k * 2 + 1, none⟩) (.inl rfl) _)
          simp only at ht
          rw [HS'.out]
          exact ht
        · intro x hx
          rcases List.mem_or_eq_of_mem_set hx with h | h
          · exact hless x h
          · subst h
            exact .inr rfl
        · exact ((hfr.trans (hfr3.mono fun _ _ h => h.elim) fun _ h => .inl h).setCell (p := ⟨g, k * 2, none⟩) (.inl rfl) _).setCell (p := ⟨g, k * 2 + 1, none⟩) (.inl rfl) _
      · simp only [hc] at hn3
        rw [hc] at hs
        have HN := Lib.hid hn3
        have HS' := Lib.hid hs
        have HA := Lib.hid ha
        clear hn3 hs hc ha hf hlen
        go_wp2_with (go_at_call 80; refine HN.out.mono ?_; rintro e w3 ⟨rfl, hfr3⟩)
        refine ⟨⟨k + 1, avs', by omega, by go_num, ?_, hless, hfr.trans (hfr3.mono fun _ _ h => h.elim) fun _ h => .inl h⟩, by simp [RowKit.intOf]; omega⟩
        have e : forgetTo c.now c.files (k + 1) = forgetTo c.now c.files k := by
          rw [HS'.out]
          simp only [if_true]
          apply List.ext_getElem?
          intro j
          rw [List.getElem?_set]
          by_cases ej : k = j
          · subst ej
            rw [if_pos rfl, HA.out]
            split
            · rfl
            · rename_i hh
              have := (List.getElem?_eq_some_iff.1 HA.out).1
              omega
          · rw [if_neg ej]
        rw [e]
        exact hin.fr hfr3 fun _ _ => id
    · obtain rfl : k = c.files.length := by omega
      have HI := Lib.hid hin
      have HL := Lib.hid hless
      have HR := Lib.hid hfr
      clear hin hless hfr hlen
      go_wp2
      go_end0
      have hin := HI.out
      rw [forgetTo_end] at hin
      refine ⟨rfl, CabOwn p (.slice A c.files.length cp) avs' nb S (.slice none 0 0), ⟨_, avs', nb, S, _, hin, fun _ h => h, hin.lt⟩, ?_, ?_⟩
      · exact (F1.mono fun k _ h => by subst h; exact hD _ (.inl rfl)).trans HR.out fun k hk => .inl (hD _ (.inr (.inl hk)))
      · rintro k (rfl | hk | ⟨v, hv, hk⟩ | rfl | rfl | hk)
        · exact .inl (hD _ (.inl rfl))
        · exact .inl (hD _ (.inr (.inl hk)))
        · rcases HL.out v hv with h | h
          · exact .inl (hD _ (.inr (.inr (.inl ⟨v, h, hk⟩))))
          · rw [h] at hk
            cases hk
        · exact .inl (hD _ (.inr (.inr (.inr (.inl rfl)))))
        · exact .inr (Nat.le_of_eq HS.out.symm)
        · simp [Value.ownBlock] at hk
end
end Chart
