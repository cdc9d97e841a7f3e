import Derived.Test.YtophgamjhngppaaDoorZ9A599123
import Derived.Test.YtophgamjhngppaaDoorShelf
import Derived.Laws.Closers25b
/- Library calls: maps.Clone, slices.Sorted(maps.Keys(..)), strings.Trim at the names' letters, slices.Clone and Clip of bytes; cabinet.Name. -/
namespace Chart
open Go Go.RowKit Go.Proofs

theorem clone_calls (b : Nat) (F : Folder) (w : World) (h : FolderIn w b F) :
    Calls Tryd.prog 42 #[.map (some b)] w fun e w' => e = .returned (.map (some w.heap.size)) ∧ FolderIn w' w.heap.size F ∧ Below w.heap.size w w' := by
  have hcon := AnyW.maps_Clone_owns Tryd.cloneM 9 _ b F.length (folderD F) w h
  change Calls Tryd.prog 42 _ _ _ at hcon
  exact hcon.mono fun e w' ⟨h1, h2, _, h4⟩ => ⟨h1, h2, h4⟩

def letters : Txt := "abcdefghijklmnopqrstuvwxyz0123456789-.".toUTF8.data.toList
theorem toList_nil (k : Txt) : (str k).toList = [] ↔ k = [] := by
  rw [toList_nil_iff_emptyBytes]
  constructor
  · intro h
    have := congrArg (fun s : ByteArray => s.data.toList) h
    simpa [str_toList] using this
  · rintro rfl
    rfl

theorem trim_calls (k : Txt) (w : World) (hk : k.length ≤ 9223372036854775807) :
    Calls Tryd.prog 81 #[.string (str k), .string (str letters)] w fun e w' => e = .returned (.string (str (Lib.trimS k letters))) ∧ Below w.heap.size w w' := by
  have hcon := Any.strings_Trim_laid Tryd.lays160 (by kernel_rfl) (str k) (str letters) w (by rw [str_size]; exact hk) (by decide) (ascii_of_all (by decide))
  change Calls Tryd.prog 81 _ _ _ at hcon
  rw [str_toList, str_toList] at hcon
  exact hcon

set_option maxHeartbeats 1000000 in
theorem name_walk (s r : ByteArray) (w : World) (hcon : Calls Tryd.prog 81 #[.string s, .string (str letters)] w fun e w' => e = .returned (.string r) ∧ Below w.heap.size w w') (b1 b2 b3 : Bool)
    (h1 : s.toList.isEmpty = b1) (h2 : decide ((s.size : Int) ≤ 32) = b2) (h3 : r.toList.isEmpty = b3) :
    Calls Tryd.prog 52 #[.string s] w fun e w' => e = .returned (.bool (!b1 && b2 && b3)) ∧ Fr (fun _ => False) w w' := by
  have HC := Lib.hid hcon
  clear hcon
  cases b1 <;> cases b2 <;> cases b3
  all_goals
    simp at h1 h2 h3
    go_enter Tryd.func52, Tryd.ntmps52
    go_wp2_with (go_at_call 81; refine HC.out.mono ?_; rintro e w' ⟨rfl, hB⟩)
    go_ret
    refine ⟨?_, ?_⟩
    · first | rfl | (simp [h1, h3]; done) | (simp [h1]; done) | (simp; done)
    · first | exact Fr.refl _ _ | exact Fr.of_below _ hB

theorem all_of_drop {α : Type} (p : α → Bool) : ∀ l : List α, (∀ x ∈ l.dropWhile p, p x = true) → ∀ x ∈ l, p x = true
  | [], _, _, h => by cases h
  | y :: r, h, x, hx => by
    by_cases hy : p y = true
    · rw [List.dropWhile_cons_of_pos hy] at h
      rcases List.mem_cons.1 hx with rfl | hx
      · exact hy
      · exact all_of_drop p r h x hx
    · rw [List.dropWhile_cons_of_neg hy] at h
      exact h x hx
theorem drop_nil {α : Type} (p : α → Bool) : ∀ l : List α, l.dropWhile p = [] ↔ ∀ x ∈ l, p x = true
  | [] => by simp
  | y :: r => by
    by_cases hy : p y = true
    · rw [List.dropWhile_cons_of_pos hy, drop_nil p r]
      simp [hy]
    · rw [List.dropWhile_cons_of_neg hy]
      simp [hy]
theorem trimS_nil (l cs : List UInt8) : Lib.trimS l cs = [] ↔ l.all (cs.contains ·) = true := by
  unfold Lib.trimS Lib.trimLeftS Lib.trimRightS
  rw [drop_nil, List.all_eq_true]
  constructor
  · intro h x hx
    exact all_of_drop _ l.reverse (fun y hy => h y (List.mem_reverse.2 hy)) x (List.mem_reverse.2 hx)
  · intro h x hx
    exact h x (List.mem_reverse.1 ((List.dropWhile_sublist _).subset (List.mem_reverse.1 hx)))
theorem letters_are (b : UInt8) : letters.contains b = Cab.nameByte b := by
  have h : ∀ n : Fin 256, letters.contains (UInt8.ofNat n) = Cab.nameByte (UInt8.ofNat n) := by decide +kernel
  have := h ⟨b.toNat, b.toNat_lt⟩
  simpa using this

theorem name_calls (k : Txt) (w : World) (hk : k.length ≤ 9223372036854775807) :
    Calls Tryd.prog 52 #[.string (str k)] w fun e w' => e = .returned (.bool (Cab.nameOk k)) ∧ Fr (fun _ => False) w w' := by
  refine (name_walk (str k) _ w (trim_calls k w hk) _ _ _ rfl rfl rfl).mono fun e w' ⟨h1, h2⟩ => ⟨?_, h2⟩
  rw [h1]
  congr 2
  unfold Cab.nameOk
  have e1 : (str k).toList.isEmpty = k.isEmpty := by
    rw [Bool.eq_iff_iff, List.isEmpty_iff, List.isEmpty_iff, toList_nil]
  have e2 : (str (Lib.trimS k letters)).toList.isEmpty = k.all Cab.nameByte := by
    rw [Bool.eq_iff_iff, List.isEmpty_iff, toList_nil, trimS_nil]
    have : (fun x => letters.contains x) = Cab.nameByte := funext letters_are
    rw [this]
  rw [e1, e2, str_size]
  have e3 : decide ((k.length : Int) ≤ 32) = decide (k.length ≤ 32) := by
    rw [decide_eq_decide]
    omega
  rw [e3]
end Chart

/- A file of the cabinet is turned; settle. -/
namespace Chart
open Go Go.RowKit Go.Proofs
attribute [local go_sem ↓] Go.wp_at_zero Go.wp_at_succ

theorem fileCells_set : ∀ (avs : List Value) (fs : List FileS) (i : Nat) (v : Value) (f : FileS), i < fs.length → avs.length = fs.length →
    ((fileCells avs fs).set (i * 2) v).set (i * 2 + 1) (.int .i64 f.sure) = fileCells (avs.set i v) (fs.set i f)
  | [], [], _, _, _, h, _ => by simp at h
  | _ :: _, [], _, _, _, h, _ => by simp at h
  | [], _ :: _, _, _, _, _, h => by simp at h
  | v0 :: vs, f0 :: fs, 0, v, f, _, _ => rfl
  | v0 :: vs, f0 :: fs, i + 1, v, f, h, hl => by
    have e : (i + 1) * 2 = i * 2 + 1 + 1 := by omega
    have ih := fileCells_set vs fs i v f (by simpa using h) (by simpa using hl)
    simp only [fileCells, e, List.set_cons_succ]
    rw [ih]
theorem fileCells_sure : ∀ (avs : List Value) (fs : List FileS) (i : Nat) (f : FileS), fs[i]? = some f → ∀ (s : Nat), avs.length = fs.length →
    (fileCells avs fs).set (i * 2 + 1) (.int .i64 s) = fileCells avs (fs.set i { f with sure := s })
  | [], [], _, _, h, _, _ => by simp at h
  | _ :: _, [], _, _, h, _, _ => by simp at h
  | [], _ :: _, _, _, _, _, h => by simp at h
  | v0 :: vs, f0 :: fs, 0, f, h, s, _ => by simp at h; subst h; rfl
  | v0 :: vs, f0 :: fs, i + 1, f, h, s, hl => by
    have e : (i + 1) * 2 = i * 2 + 1 + 1 := by omega
    have ih := fileCells_sure vs fs i f (by simpa using h) s (by simpa using hl)
    simp only [fileCells, e, List.set_cons_succ]
    rw [ih]
theorem fileCells_all : ∀ (avs : List Value) (fs : List FileS) (i : Nat) (f : FileS), fs[i]? = some f → ∀ (v : Value) (l : Txt), avs.length = fs.length →
    (fileCells avs fs).set (i * 2) v = fileCells (avs.set i v) (fs.set i { f with all := l })
  | [], [], _, _, h, _, _, _ => by simp at h
  | _ :: _, [], _, _, h, _, _, _ => by simp at h
  | [], _ :: _, _, _, _, _, _, h => by simp at h
  | v0 :: vs, f0 :: fs, 0, f, h, v, l, _ => by simp at h; subst h; rfl
  | v0 :: vs, f0 :: fs, i + 1, f, h, v, l, hl => by
    have e : (i + 1) * 2 = i * 2 + 1 + 1 := by omega
    have ih := fileCells_all vs fs i f (by simpa using h) v l (by simpa using hl)
    simp only [fileCells, e, List.set_cons_succ]
    rw [ih]

section
variable {w w1 w2 : World} {p : Nat} {c : Cab} {fv : Value} {avs : List Value} {nb sb : Nat} {wv : Value} {D : Nat → Prop}
/-- File i is turned: its bytes first (from w to w1), then its cells (from w1 to w2). -/
theorem CabIn.turnFile (h : CabIn w p c fv avs nb sb wv) {i : Nat} {v v' : Value} {f' : FileS} {E : Nat → Prop} (hv : avs[i]? = some v) (F1 : Fr E w w1) (hE : ∀ k, E k → v.ownBlock = some k) (hb : Bytes w1 v' f'.all)
    (hv' : ∀ k, v'.ownBlock = some k → v.ownBlock = some k ∨ w.heap.size ≤ k) (hrow : Row w2 102 2 fv c.files.length (fileCells (avs.set i v') (c.files.set i f'))) (F2 : Fr (fun k => fv.ownBlock = some k) w1 w2) :
    CabIn w2 p { c with files := c.files.set i f' } fv (avs.set i v') nb sb wv := by
  have hi : i < c.files.length := by
    have := (List.getElem?_eq_some_iff.1 hv).1
    have := h.len
    omega
  obtain ⟨v0, hv0, hvb⟩ := h.bytes i _ (List.getElem?_eq_getElem hi)
  rw [hv] at hv0
  cases hv0
  have a1 : ∀ k, E k → k ≠ p := fun k hk e => hvb.ne_blk h.blk (by decide) (e ▸ hE k hk)
  have a2 : ∀ k, fv.ownBlock = some k → k ≠ p := fun k hk e => h.files.ne_blk h.blk (by decide) (e ▸ hk)
  have b1 := (h.blk.fr F1 fun e => a1 _ e rfl).fr F2 fun e => a2 _ e rfl
  exact {
    blk := b1
    files := by simpa using hrow
    len := by simpa using h.len
    bytes := fun j f hj => by
      simp only [List.getElem?_set] at hj ⊢
      by_cases e : i = j
      · subst e
        rw [if_pos rfl, if_pos (by omega)] at hj
        cases hj
        have hl := h.len
        exact ⟨v', by rw [if_pos rfl, if_pos (by omega)], hb.fr F2 fun k hk e => by
          rcases hv' k hk with h1 | h1
          · exact hvb.ne_row h.files (by decide) h1 e
          · have := h.files.lt e
            omega⟩
      · rw [if_neg e] at hj
        obtain ⟨u, hu, hub⟩ := h.bytes j f hj
        exact ⟨u, by rw [if_neg e]; exact hu, (hub.fr F1 fun k hk hek => h.apart i j v u k hv hu e (hE k hek) hk).fr F2 fun k hk hek => hub.ne_row h.files (by decide) hk hek⟩
    apart := fun j j' u u' k hu hu' hne hk => by
      simp only [List.getElem?_set] at hu hu'
      have hlt : ∀ (m : Nat) (x : Value), avs[m]? = some x → ∀ q, x.ownBlock = some q → q < w.heap.size := fun m x hx q hq => h.lt q (.inr (.inr (.inl ⟨x, List.mem_of_getElem? hx, hq⟩)))
      by_cases e : i = j
      · subst e
        rw [if_pos rfl] at hu
        rw [if_neg hne] at hu'
        split at hu
        · cases hu
          rcases hv' k hk with h1 | h1
          · exact h.apart i j' v u' k hv hu' hne h1
          · intro h2
            have := hlt j' u' hu' k h2
            omega
        · cases hu
      · rw [if_neg e] at hu
        by_cases e' : i = j'
        · subst e'
          rw [if_pos rfl] at hu'
          split at hu'
          · cases hu'
            intro h2
            rcases hv' k h2 with h1 | h1
            · exact h.apart j i u v k hu hv hne hk h1
            · have := hlt j u hu k hk
              omega
          · cases hu'
        · rw [if_neg e'] at hu'
          exact h.apart j j' u u' k hu hu' hne hk
    now := (h.now.fr F1 fun e => hvb.ne_map h.now (hE _ e)).fr F2 fun e => h.files.ne_map h.now e
    sure := (h.sure.fr F1 fun e => hvb.ne_map h.sure (hE _ e)).fr F2 fun e => h.files.ne_map h.sure e
    two := h.two
    waiting := (h.waiting.fr F1 fun k hk e => hvb.ne_row h.waiting (by decide) (hE k e) hk).fr F2 fun k hk e => h.files.ne_row h.waiting (by decide) e hk }

theorem forget_length (now : Folder) : ∀ (l : List FileS) (i : Nat), (Cab.forget now i l).length = l.length
  | [], _ => rfl
  | f :: r, i => by simp [Cab.forget, forget_length now r (i + 1)]
theorem forget_get (now : Folder) : ∀ (l : List FileS) (i j : Nat) (f : FileS), l[j]? = some f → (Cab.forget now i l)[j]? = some (if now.vals.contains (i + j) then f else ⟨[], 0⟩)
  | [], _, _, _, h => by simp at h
  | f0 :: r, i, 0, f, h => by simp at h; subst h; rfl
  | f0 :: r, i, j + 1, f, h => by
    simp only [List.getElem?_cons_succ] at h
    have := forget_get now r (i + 1) j f h
    simp only [Cab.forget, List.getElem?_cons_succ]
    rw [this, show i + 1 + j = i + (j + 1) by omega]

/-- The files behind k rounds of settle's loop. -/
def forgetTo (now : Folder) (fs : List FileS) (k : Nat) : List FileS := (Cab.forget now 0 fs).take k ++ fs.drop k
theorem forgetTo_zero (now : Folder) (fs : List FileS) : forgetTo now fs 0 = fs := by simp [forgetTo]
theorem forgetTo_end (now : Folder) (fs : List FileS) : forgetTo now fs fs.length = Cab.forget now 0 fs := by
  unfold forgetTo
  rw [List.take_of_length_le (by rw [forget_length]; exact Nat.le_refl _), List.drop_length, List.append_nil]
theorem forgetTo_length (now : Folder) (fs : List FileS) (k : Nat) (hk : k ≤ fs.length) : (forgetTo now fs k).length = fs.length := by
  unfold forgetTo
  rw [List.length_append, List.length_take, List.length_drop, forget_length]
  omega
theorem forgetTo_at (now : Folder) (fs : List FileS) (k : Nat) (f : FileS) (hf : fs[k]? = some f) : (forgetTo now fs k)[k]? = some f := by
  have hk := (List.getElem?_eq_some_iff.1 hf).1
  unfold forgetTo
  rw [List.getElem?_append_right (by rw [List.length_take]; omega), List.length_take, forget_length, Nat.min_eq_left (by omega), Nat.sub_self, List.getElem?_drop]
  simpa using hf
theorem forgetTo_succ (now : Folder) (fs : List FileS) (k : Nat) (f : FileS) (hf : fs[k]? = some f) :
    forgetTo now fs (k + 1) = (forgetTo now fs k).set k (if now.vals.contains k then f else ⟨[], 0⟩) := by
  have hk := (List.getElem?_eq_some_iff.1 hf).1
  have hg := forget_get now fs 0 k f hf
  rw [Nat.zero_add] at hg
  apply List.ext_getElem?
  intro j
  rw [List.getElem?_set]
  unfold forgetTo
  have hl1 : ((Cab.forget now 0 fs).take (k + 1)).length = k + 1 := by rw [List.length_take, forget_length]; omega
  have hl2 : ((Cab.forget now 0 fs).take k).length = k := by rw [List.length_take, forget_length]; omega
  by_cases e : k = j
  · subst e
    rw [if_pos rfl, if_pos (by rw [List.length_append, hl2, List.length_drop]; omega), List.getElem?_append_left (by omega), List.getElem?_take, if_pos (by omega), hg]
  · rw [if_neg e]
    by_cases hj : j < k
    · rw [List.getElem?_append_left (by omega), List.getElem?_append_left (by omega), List.getElem?_take, List.getElem?_take, if_pos (by omega), if_pos (by omega)]
    · rw [List.getElem?_append_right (by omega), List.getElem?_append_right (by omega), hl1, hl2, List.getElem?_drop, List.getElem?_drop]
      congr 1
      omega

def OwnLess (avs avs' : List Value) : Prop := ∀ v ∈ avs', v ∈ avs ∨ v.ownBlock = none

theorem rowfree {n m g cp : Nat} {xs : List Value} (h : Row w 102 2 (.slice (some ⟨g, 0, none⟩) n cp) m xs) (j : Nat) : w.frozen? ⟨g, j, none⟩ = false := by
  rcases h.2 with ⟨hv, _⟩ | ⟨g', cap, cur, hv, hg, _⟩
  · cases hv
  · cases hv
    simp [World.frozen?, hg]
theorem settle_mid (hi : CabIn w p c fv avs nb sb wv) (hF1 : FolderIn w1 w.heap.size c.now) (hB1 : Below w.heap.size w w1) :
    CabIn ((w1.setCell ⟨p, 3, none⟩ (.map (some w.heap.size))).setCell ⟨p, 4, none⟩ (.slice none 0 0)) p { c with sure := c.now, waiting := [] } fv avs nb w.heap.size (.slice none 0 0) := by
  have F := Fr.of_below (fun _ => False) hB1
  have hb1 := hi.blk.fr F id
  have hp := hi.blk.lt
  exact {
    blk := (hb1.set 3 _).set 4 _
    files := ((hi.files.fr F fun _ _ => id).far (fun e => hi.files.ne_blk hi.blk (by decide) e) _).far (fun e => hi.files.ne_blk hi.blk (by decide) e) _
    len := hi.len
    bytes := fun i f hf => by
      obtain ⟨v, hv, hr⟩ := hi.bytes i f hf
      exact ⟨v, hv, ((hr.fr F fun _ _ => id).far (fun e => hr.ne_blk hi.blk (by decide) e) _).far (fun e => hr.ne_blk hi.blk (by decide) e) _⟩
    apart := hi.apart
    now := ((hi.now.fr F id).far (fun e => hi.blk.ne_map hi.now (by simpa using e.symm)) _).far (fun e => hi.blk.ne_map hi.now (by simpa using e.symm)) _
    sure := (hF1.far (by simp; omega) _).far (by simp; omega) _
    two := by have := hi.now.lt; omega
    waiting := Row.nil _ _ _ }

set_option maxRecDepth 100000 in
set_option maxHeartbeats 1000000 in
theorem settle_calls (h : CabAt w p c D) (hn : c.files.length ≤ 1000000) :
    Calls Tryd.prog 48 #[.pointer (some ⟨p, 0, none⟩)] w fun e w' => e = .returned (.tuple #[]) ∧ ∃ D', After w D p c.settle D' w' := by
  obtain ⟨fv, avs, nb, sb, wv, hi, hD, hlt⟩ := h
  obtain ⟨_, _, k2, _, _, _, _⟩ := hi.cells
  have HC := Lib.hid (clone_calls nb c.now w hi.now)
  obtain ⟨A, cp, rfl, hcp, hcp2⟩ := hi.files.shape
  have hp := hi.blk.lt
  go_enter Tryd.func48, Tryd.ntmps48
  go_wp2_with (go_at_call 42; refine HC.out.mono ?_; rintro e w1 ⟨rfl, hF1, hB1⟩; have hb1 := hi.blk.fr (Fr.of_below (fun _ => False) hB1) id; have q1 := hb1.frozen 3; have q2 := hb1.frozen 4; have q3 : w1.cell? ⟨p, 3, none⟩ = some (.map (some sb)) := hb1.cell 3; have q4 : w1.cell? ⟨p, 4, none⟩ = some wv := hb1.cell 4; have q5 : w1.cell? ⟨p, 1, none⟩ = some (.slice A c.files.length cp) := hb1.cell 1)
  have hm := settle_mid hi hF1 hB1
  have F1 : Fr (fun k => k = p) w ((w1.setCell ⟨p, 3, none⟩ (.map (some w.heap.size))).setCell ⟨p, 4, none⟩ (.slice none 0 0)) := ((Fr.of_below (fun k => k = p) hB1).setCell (p := ⟨p, 3, none⟩) (.inl rfl) _).setCell (p := ⟨p, 4, none⟩) (.inl rfl) _
  generalize ((w1.setCell ⟨p, 3, none⟩ (.map (some w.heap.size))).setCell ⟨p, 4, none⟩ (.slice none 0 0)) = W at *
  clear q1 q2 q3 q4 q5 hb1 hF1 hB1 HC k2
  obtain ⟨S, hS⟩ : ∃ S, S = w.heap.size := ⟨_, rfl⟩
  rw [← hS] at hm
  have HS := Lib.hid hS
  clear hS
  go_loopw [19] (fun i wr => ∃ (k : Nat) (avs' : List Value), k ≤ c.files.length ∧ i = .int .i64 k ∧ CabIn wr p { c with sure := c.now, waiting := [], files := forgetTo c.now c.files k } (.slice A c.files.length cp) avs' nb S (.slice none 0 0) ∧ OwnLess avs avs' ∧ Fr (fun k => (Value.slice A c.files.length cp).ownBlock = some k) W wr) (fun i _ => c.files.length - (RowKit.intOf i).toNat)
  case atStart => exact ⟨0, avs, Nat.zero_le _, rfl, by rw [forgetTo_zero]; exact hm, fun v hv => .inl hv, Fr.refl _ _⟩
  case round =>
    obtain ⟨k, avs', hk, rfl, hin, hless, hfr⟩ := hrel
    have hlen := forgetTo_length c.now c.files k hk
    by_cases hlt : k < c.files.length
    · have hn3 := hin.named k
      have hf := List.getElem?_eq_getElem hlt
      have hs := forgetTo_succ c.now c.files k _ hf
      have ha := forgetTo_at c.now c.files k _ hf
      cases hc : c.now.vals.contains k
      · simp only [hc] at hn3
        rw [hc] at hs
        have HN := Lib.hid hn3
        have hkl : k < ({ c with sure := c.now, waiting := [], files := forgetTo c.now c.files k } : Cab).files.length := by simp only [hlen]; exact hlt
        obtain ⟨g, cp', v, f, hv, _, hav, haf, hg, c0, c1, hb⟩ := hin.file hkl
        obtain ⟨rfl, hq, rfl⟩ : A = some ⟨g, 0, none⟩ ∧ c.files.length = (forgetTo c.now c.files k).length ∧ cp = cp' := by simpa using hv
        have HS' := Lib.hid hs
        have HL := Lib.hid hlen
        have HV := Lib.hid hav
        clear hn3 hs hc hv ha haf hf hlen hav hq
        go_wp2_with (go_at_call 80; refine HN.out.mono ?_; rintro e w3 ⟨rfl, hfr3⟩; have hin3 := hin.fr hfr3 (fun _ _ => id); have r1 : w3.cell? ⟨p, 1, none⟩ = some (.slice (some ⟨g, 0, none⟩) c.files.length cp) := hin3.blk.cell 1; have r2 := hfr3.cell c0 id; have r3 := hfr3.cell c1 id; have r4 := rowfree hin3.files (k * 2); have r5 := rowfree hin3.files (k * 2 + 1))
        refine ⟨⟨k + 1, avs'.set k (.slice none 0 0), by omega, by go_num, ?_, ?_, ?_⟩, by simp [RowKit.intOf]; omega⟩
        · have hr0 := hin.files
          simp only [HL.out] at hr0
          have hr1 := ((hr0.fr hfr3 fun _ _ => id).set (k * 2) (.slice none 0 0)).set (k * 2 + 1) (.int .i64 0)
          have hl' := hin.len
          simp only at hl'
          have e := fileCells_set avs' (forgetTo c.now c.files k) k (.slice none 0 0) ⟨[], 0⟩ hkl hl'
          have e0 : ((0 : Nat) : Int) = 0 := rfl
          simp only [e0] at e
          rw [e] at hr1
          have ht := hin.turnFile (E := fun _ => False) (v' := .slice none 0 0) (f' := ⟨[], 0⟩) HV.out hfr3 (fun _ h => h.elim) (Row.nil _ _ _) (fun _ h => by simp [Value.ownBlock] at h) (by simp only [HL.out]; exact hr1) (((Fr.refl (fun q => (Value.slice (some ⟨g, 0, none⟩) c.files.length cp).ownBlock = some q) w3).setCell (p := ⟨g, k * 2, none⟩) (.inl rfl) _).setCell (p := ⟨g, k * 2 + 1, none⟩) (.inl rfl) _)
          simp only at ht
          rw [HS'.out]
          exact ht
        · intro x hx
          rcases List.mem_or_eq_of_mem_set hx with h | h
          · exact hless x h
          · subst h
            exact .inr rfl
        · exact ((hfr.trans (hfr3.mono fun _ _ h => h.elim) fun _ h => .inl h).setCell (p := ⟨g, k * 2, none⟩) (.inl rfl) _).setCell (p := ⟨g, k * 2 + 1, none⟩) (.inl rfl) _
      · simp only [hc] at hn3
        rw [hc] at hs
        have HN := Lib.hid hn3
        have HS' := Lib.hid hs
        have HA := Lib.hid ha
        clear hn3 hs hc ha hf hlen
        go_wp2_with (go_at_call 80; refine HN.out.mono ?_; rintro e w3 ⟨rfl, hfr3⟩)
        refine ⟨⟨k + 1, avs', by omega, by go_num, ?_, hless, hfr.trans (hfr3.mono fun _ _ h => h.elim) fun _ h => .inl h⟩, by simp [RowKit.intOf]; omega⟩
        have e : forgetTo c.now c.files (k + 1) = forgetTo c.now c.files k := by
          rw [HS'.out]
          simp only [if_true]
          apply List.ext_getElem?
          intro j
          rw [List.getElem?_set]
          by_cases ej : k = j
          · subst ej
            rw [if_pos rfl, HA.out]
            split
            · rfl
            · rename_i hh
              have := (List.getElem?_eq_some_iff.1 HA.out).1
              omega
          · rw [if_neg ej]
        rw [e]
        exact hin.fr hfr3 fun _ _ => id
    · obtain rfl : k = c.files.length := by omega
      have HI := Lib.hid hin
      have HL := Lib.hid hless
      have HR := Lib.hid hfr
      clear hin hless hfr hlen
      go_wp2
      go_end0
      have hin := HI.out
      rw [forgetTo_end] at hin
      refine ⟨rfl, CabOwn p (.slice A c.files.length cp) avs' nb S (.slice none 0 0), ⟨_, avs', nb, S, _, hin, fun _ h => h, hin.lt⟩, ?_, ?_⟩
      · exact (F1.mono fun k _ h => by subst h; exact hD _ (.inl rfl)).trans HR.out fun k hk => .inl (hD _ (.inr (.inl hk)))
      · rintro k (rfl | hk | ⟨v, hv, hk⟩ | rfl | rfl | hk)
        · exact .inl (hD _ (.inl rfl))
        · exact .inl (hD _ (.inr (.inl hk)))
        · rcases HL.out v hv with h | h
          · exact .inl (hD _ (.inr (.inr (.inl ⟨v, h, hk⟩))))
          · rw [h] at hk
            cases hk
        · exact .inl (hD _ (.inr (.inr (.inr (.inl rfl)))))
        · exact .inr (Nat.le_of_eq HS.out.symm)
        · simp [Value.ownBlock] at hk
end
end Chart

/- Turn, Remove, Rename. -/
namespace Chart
open Go Go.RowKit Go.Proofs

section
variable {w w' : World} {p : Nat} {c : Cab} {D : Nat → Prop}
theorem CabAt.ready (h : CabAt w p c D) : Calls Tryd.prog 51 #[.pointer (some ⟨p, 0, none⟩)] w fun e w' => e = .returned (.int .i64 (readyE c.off)) ∧ w = w' := by
  obtain ⟨fv, avs, nb, sb, wv, hi, hD, hlt⟩ := h
  exact hi.ready
theorem CabAt.find (h : CabAt w p c D) (k : Txt) (hk : k.length ≤ maxLen) : Calls Tryd.prog 49 #[.pointer (some ⟨p, 0, none⟩), .string (str k)] w fun e w' => e = .returned (.tuple #[.int .i64 ((c.find k).1 : Nat), .int .i64 (c.find k).2]) ∧ w = w' := by
  obtain ⟨fv, avs, nb, sb, wv, hi, hD, hlt⟩ := h
  exact hi.find k hk
theorem CabAt.spend (h : CabAt w p c D) (a0 : -1 ≤ c.after) (a1 : c.after ≤ 9223372036854775807) :
    Calls Tryd.prog 53 #[.pointer (some ⟨p, 0, none⟩)] w fun e w' => e = .returned (.int .i64 c.spend.2) ∧ After w D p c.spend.1 D w' := by
  obtain ⟨fv, avs, nb, sb, wv, hi, hD, hlt⟩ := h
  refine (hi.spend a0 a1).mono fun e w' ⟨h1, h2, h3⟩ => ⟨h1, ⟨fv, avs, nb, sb, wv, h2, hD, fun k hk => Nat.lt_of_lt_of_le (hlt k hk) h3.size⟩, h3.mono fun k _ e => ?_, fun k hk => .inl hk⟩
  subst e
  exact hD _ (.inl rfl)

theorem spend_cases (c : Cab) : (c.spend.2 = 11 ∧ c.spend.1 = { c with off := true }) ∨ (c.spend.2 = 0 ∧ ∃ a, c.spend.1 = { c with after := a }) := by
  unfold Cab.spend
  split
  · exact .inl ⟨rfl, rfl⟩
  · split
    · exact .inr ⟨rfl, _, rfl⟩
    · exact .inr ⟨rfl, c.after, rfl⟩

set_option maxHeartbeats 1000000 in
theorem turn_calls (h : CabAt w p c D) (a0 : -1 ≤ c.after) (a1 : c.after ≤ 9223372036854775807) (hn : c.files.length ≤ 1000000) :
    Calls Tryd.prog 24 #[.pointer (some ⟨p, 0, none⟩)] w fun e w' => e = .returned (.int .i64 c.turn.2) ∧ ∃ D', After w D p c.turn.1 D' w' := by
  have hr := h.ready
  have hs := h.spend a0 a1
  have HA := Lib.hid (After.same h)
  cases ho : c.off
  · rw [ho] at hr
    have HR := Lib.hid hr
    rcases spend_cases c with ⟨e2, e1⟩ | ⟨e2, a, e1⟩
    · have ht : c.turn = (c.spend.1, 11) := by unfold Cab.turn; rw [ho]; simp [e2]; rw [← e2]
      rw [ht]
      rw [e2] at hs
      have HS := Lib.hid hs
      clear hs hr ht ho e1 e2 h
      go_enter Tryd.func24, Tryd.ntmps24
      go_wp2_with (first | (go_at_call 51; refine HR.out.mono ?_; rintro e w' ⟨rfl, rfl⟩) | (go_at_call 53; refine HS.out.mono ?_; rintro e w1 ⟨rfl, hA1⟩))
      go_ret
      exact ⟨rfl, _, hA1⟩
    · have ht : c.turn = (c.spend.1.settle, 0) := by unfold Cab.turn; rw [ho]; simp [e2]
      rw [ht]
      rw [e2] at hs
      have HS := Lib.hid hs
      have HE := Lib.hid e1
      clear hs hr ht ho e1 e2 h
      go_enter Tryd.func24, Tryd.ntmps24
      go_wp2_with (first | (go_at_call 51; refine HR.out.mono ?_; rintro e w' ⟨rfl, rfl⟩) | (go_at_call 53; refine HS.out.mono ?_; rintro e w1 ⟨rfl, hA1⟩) | (go_at_call 48; refine (settle_calls hA1.at_ (by rw [HE.out]; exact hn)).mono ?_; rintro e w2 ⟨rfl, D2, hA2⟩))
      go_ret
      exact ⟨rfl, D2, hA1.trans hA2⟩
  · rw [ho] at hr
    have HR := Lib.hid hr
    have ht : c.turn = (c, 11) := by unfold Cab.turn; rw [ho]; rfl
    rw [ht]
    clear hs hr ht ho h
    go_enter Tryd.func24, Tryd.ntmps24
    go_wp2_with (go_at_call 51; refine HR.out.mono ?_; rintro e w' ⟨rfl, rfl⟩)
    go_ret
    exact ⟨rfl, _, HA.out⟩

set_option maxHeartbeats 1000000 in
theorem remove_calls (h : CabAt w p c D) (k : Txt) (hk : k.length ≤ maxLen) (a0 : -1 ≤ c.after) (a1 : c.after ≤ 9223372036854775807) (hn : c.now.length < 1000000000) (hw : c.waiting.length ≤ 1000000) (hv : ∀ k, (c.now.get? k).getD 0 ≤ 9223372036854775807) :
    Calls Tryd.prog 23 #[.pointer (some ⟨p, 0, none⟩), .string (str k)] w fun e w' => e = .returned (.int .i64 (c.remove k).2) ∧ ∃ D', After w D p (c.remove k).1 D' w' := by
  have hf := h.find k hk
  have hs := h.spend a0 a1
  have HA := Lib.hid (After.same h)
  have hv1 : (c.find k).1 ≤ 9223372036854775807 := by
    unfold Cab.find
    have := hv k
    split
    · exact Nat.zero_le _
    · split
      · exact Nat.zero_le _
      · rename_i n hn
        simpa [hn] using this
  generalize hfe : c.find k = r at hf hv1
  obtain ⟨n, q⟩ := r
  simp only at hf hv1
  by_cases hq : q = 0
  · subst hq
    rcases spend_cases c with ⟨e2, e1⟩ | ⟨e2, a, e1⟩
    · have ht : c.remove k = (c.spend.1, 11) := by unfold Cab.remove; rw [hfe]; simp [e2]; rw [← e2]
      rw [ht]
      rw [e2] at hs
      have HF := Lib.hid hf
      have HS := Lib.hid hs
      clear hs ht e1 e2 h hf hfe hv
      go_enter Tryd.func23, Tryd.ntmps23
      go_wp2_with (first | (go_at_call 49; refine HF.out.mono ?_; rintro e w' ⟨rfl, rfl⟩) | (go_at_call 53; refine HS.out.mono ?_; rintro e w1 ⟨rfl, hA1⟩))
      go_ret
      exact ⟨rfl, _, hA1⟩
    · have ht : c.remove k = (c.spend.1.rename ⟨2, [], k, n⟩, 0) := by unfold Cab.remove; rw [hfe]; simp [e2]
      rw [ht]
      rw [e2] at hs
      have HF := Lib.hid hf
      have HS := Lib.hid hs
      have HE := Lib.hid e1
      have HV := Lib.hid hv
      clear hs ht e1 e2 h hf hfe hv
      go_enter Tryd.func23, Tryd.ntmps23
      go_wp2_with (first | (go_at_call 49; refine HF.out.mono ?_; rintro e w' ⟨rfl, rfl⟩) | (go_at_call 53; refine HS.out.mono ?_; rintro e w1 ⟨rfl, hA1⟩) | (go_at_call 54; refine (rename_calls hA1.at_ ⟨2, [], k, n⟩ (by rw [HE.out]; exact hn) (by rw [HE.out]; exact hw) (Nat.le_refl 2) (Nat.zero_le _) hk hv1 (by rw [HE.out]; exact HV.out _)).mono ?_; rintro e w2 ⟨rfl, D2, hA2⟩))
      go_ret
      exact ⟨rfl, D2, hA1.trans hA2⟩
  · have ht : c.remove k = (c, q) := by unfold Cab.remove; rw [hfe]; simp [hq]
    rw [ht]
    have HF := Lib.hid hf
    have hb : (q == 0) = false := by simp [hq]
    have hb2 : (q != 0) = true := by simp [hq]
    clear hs ht h hf hfe hv
    go_enter Tryd.func23, Tryd.ntmps23
    go_wp2_with (go_at_call 49; refine HF.out.mono ?_; rintro e w' ⟨rfl, rfl⟩)
    go_ret
    exact ⟨rfl, _, HA.out⟩
end
end Chart

/- Rename, New, Create. -/
namespace Chart
open Go Go.RowKit Go.Proofs

theorem file_info : (Tryd.prog.info? 102).map (fun i => (i.zero, i.size, i.bytes)) = some (some (.agg #[.slice none 0 0, .int .i64 0]), 2, 32) := by kernel_rfl

theorem fileCells_snoc : ∀ (avs : List Value) (fs : List FileS) (v : Value) (f : FileS), avs.length = fs.length → fileCells (avs ++ [v]) (fs ++ [f]) = fileCells avs fs ++ [v, .int .i64 f.sure]
  | [], [], _, _, _ => rfl
  | _ :: _, [], _, _, h => by simp at h
  | [], _ :: _, _, _, h => by simp at h
  | v0 :: vs, f0 :: fs, v, f, h => by
    have := fileCells_snoc vs fs v f (by simpa using h)
    simp only [List.cons_append, fileCells, this]

section
variable {w w' : World} {p : Nat} {c : Cab} {D : Nat → Prop}

set_option maxHeartbeats 2000000 in
theorem rename2_calls (h : CabAt w p c D) (old name : Txt) (hk : old.length ≤ maxLen) (hk2 : name.length ≤ maxLen) (a0 : -1 ≤ c.after) (a1 : c.after ≤ 9223372036854775807) (hn : c.now.length < 1000000000) (hw : c.waiting.length ≤ 1000000) (hv : ∀ k, (c.now.get? k).getD 0 ≤ 9223372036854775807) :
    Calls Tryd.prog 22 #[.pointer (some ⟨p, 0, none⟩), .string (str old), .string (str name)] w fun e w' => e = .returned (.int .i64 (c.renameTo old name).2) ∧ ∃ D', After w D p (c.renameTo old name).1 D' w' := by
  have hf := h.find old hk
  have HA := Lib.hid (After.same h)
  have HNm := Lib.hid (fun w => name_calls name w (by simpa [maxLen] using hk2))
  have hv1 : (c.find old).1 ≤ 9223372036854775807 := by
    unfold Cab.find
    have := hv old
    split
    · exact Nat.zero_le _
    · split
      · exact Nat.zero_le _
      · rename_i n hn
        simpa [hn] using this
  generalize hfe : c.find old = r at hf hv1
  obtain ⟨n, q⟩ := r
  simp only at hf hv1
  by_cases hq : q = 0
  · subst hq
    cases hno : Cab.nameOk name
    · have ht : c.renameTo old name = (c, 6) := by unfold Cab.renameTo; rw [hfe]; simp [hno]
      rw [ht]
      rw [hno] at HNm
      have HF := Lib.hid hf
      clear ht h hf hfe hv hno
      go_enter Tryd.func22, Tryd.ntmps22
      go_wp2_with (first | (go_at_call 49; refine HF.out.mono ?_; rintro e w' ⟨rfl, rfl⟩) | (go_at_call 52; refine (HNm.out _).mono ?_; rintro e w1 ⟨rfl, hF1⟩))
      go_ret
      exact ⟨rfl, D, HA.out.at_.fr hF1 (fun _ _ => id), hF1.mono fun _ _ h => h.elim, fun _ h => .inl h⟩
    · rw [hno] at HNm
      have hs := fun (w1 : World) (h1 : CabAt w1 p c D) => h1.spend a0 a1
      rcases spend_cases c with ⟨e2, e1⟩ | ⟨e2, a, e1⟩
      · have ht : c.renameTo old name = (c.spend.1, 11) := by unfold Cab.renameTo; rw [hfe]; simp [hno, e2]; rw [← e2]
        rw [ht]
        rw [e2] at hs
        have HF := Lib.hid hf
        have HS := Lib.hid hs
        clear hs ht e1 e2 h hf hfe hv hno
        go_enter Tryd.func22, Tryd.ntmps22
        go_wp2_with (first | (go_at_call 49; refine HF.out.mono ?_; rintro e w' ⟨rfl, rfl⟩) | (go_at_call 52; refine (HNm.out _).mono ?_; rintro e w1 ⟨rfl, hF1⟩) | (go_at_call 53; refine (HS.out _ (HA.out.at_.fr hF1 (fun _ _ => id))).mono ?_; rintro e w2 ⟨rfl, hA1⟩))
        go_ret
        exact ⟨rfl, _, (After.mk (HA.out.at_.fr hF1 (fun _ _ => id)) (hF1.mono fun _ _ h => h.elim) fun _ h => .inl h).trans hA1⟩
      · have ht : c.renameTo old name = (c.spend.1.rename ⟨1, old, name, n⟩, 0) := by unfold Cab.renameTo; rw [hfe]; simp [hno, e2]
        rw [ht]
        rw [e2] at hs
        have HF := Lib.hid hf
        have HS := Lib.hid hs
        have HE := Lib.hid e1
        have HV := Lib.hid hv
        clear hs ht e1 e2 h hf hfe hv hno
        go_enter Tryd.func22, Tryd.ntmps22
        go_wp2_with (first | (go_at_call 49; refine HF.out.mono ?_; rintro e w' ⟨rfl, rfl⟩) | (go_at_call 52; refine (HNm.out _).mono ?_; rintro e w1 ⟨rfl, hF1⟩) | (go_at_call 53; refine (HS.out _ (HA.out.at_.fr hF1 (fun _ _ => id))).mono ?_; rintro e w2 ⟨rfl, hA1⟩) | (go_at_call 54; refine (rename_calls hA1.at_ ⟨1, old, name, n⟩ (by rw [HE.out]; exact hn) (by rw [HE.out]; exact hw) (Nat.le_succ 1) hk hk2 hv1 (by rw [HE.out]; exact HV.out _)).mono ?_; rintro e w3 ⟨rfl, D2, hA2⟩))
        go_ret
        exact ⟨rfl, D2, ((After.mk (HA.out.at_.fr hF1 (fun _ _ => id)) (hF1.mono fun _ _ h => h.elim) fun _ h => .inl h).trans hA1).trans hA2⟩
  · have ht : c.renameTo old name = (c, q) := by unfold Cab.renameTo; rw [hfe]; simp [hq]
    rw [ht]
    have HF := Lib.hid hf
    have hb : (q == 0) = false := by simp [hq]
    have hb2 : (q != 0) = true := by simp [hq]
    clear ht h hf hfe hv
    go_enter Tryd.func22, Tryd.ntmps22
    go_wp2_with (go_at_call 49; refine HF.out.mono ?_; rintro e w' ⟨rfl, rfl⟩)
    go_ret
    exact ⟨rfl, _, HA.out⟩

set_option maxHeartbeats 1000000 in
theorem new_bad (q : Int) (w : World) (hq : q < 1 ∨ 1073741824 < q) : Calls Tryd.prog 10 #[.int .i64 q] w fun e w' => e = .returned (.tuple #[.pointer none, .int .i64 1]) ∧ w = w' := by
  rcases hq with hq | hq
  · go_enter Tryd.func10, Tryd.ntmps10
    go_wp2
    go_ret2
    exact ⟨rfl, rfl⟩
  · have h1 : ¬ q < 1 := by omega
    go_enter Tryd.func10, Tryd.ntmps10
    go_wp2
    go_ret2
    exact ⟨rfl, rfl⟩
set_option maxHeartbeats 1000000 in
theorem new_calls (q : Int) (w : World) (h1 : 1 ≤ q) (h2 : q ≤ 1073741824) : Calls Tryd.prog 10 #[.int .i64 q] w fun e w' => e = .returned (.tuple #[.pointer (some ⟨w.heap.size + 2, 0, none⟩), .int .i64 0]) ∧
    (∃ D, CabAt w' (w.heap.size + 2) (Cab.new q) D ∧ (∀ k, D k → w.heap.size ≤ k)) ∧ Fr (fun _ => False) w w' := by
  have hin : CabIn (((w.alloc (.map #[] 0)).alloc (.map #[] 0)).alloc (.cells #[.int .i64 q, .slice none 0 0, .map (some w.heap.size), .map (some (w.heap.size + 1)), .slice none 0 0, .int .i64 (-1), .bool false] 81)) (w.heap.size + 2) (Cab.new q) (.slice none 0 0) [] w.heap.size (w.heap.size + 1) (.slice none 0 0) := {
    blk := by
      have := Blk.new ((w.alloc (.map #[] 0)).alloc (.map #[] 0)) 81 #[.int .i64 q, .slice none 0 0, .map (some w.heap.size), .map (some (w.heap.size + 1)), .slice none 0 0, .int .i64 (-1), .bool false]
      simp only [World.size_alloc] at this
      exact this
    files := Row.nil _ _ _
    len := rfl
    bytes := fun i f h => by simp [Cab.new] at h
    apart := fun i j v u k h => by simp at h
    now := ((FolderAt.made w).alloc _).alloc _
    sure := by
      have := (FolderAt.made (P := Tryd.prog) (k := 9) (e := 3) (w.alloc (.map #[] 0))).alloc (.cells #[.int .i64 q, .slice none 0 0, .map (some w.heap.size), .map (some (w.heap.size + 1)), .slice none 0 0, .int .i64 (-1), .bool false] 81)
      simp only [World.size_alloc] at this
      exact this
    two := by omega
    waiting := Row.nil _ _ _ }
  have hmm := @run_makeMap Tryd.prog
  have h1' : ¬ q < 1 := by omega
  have h2' : ¬ 1073741824 < q := by omega
  go_enter Tryd.func10, Tryd.ntmps10
  go_wp2
  go_ret2
  refine ⟨rfl, ⟨CabOwn (w.heap.size + 2) (.slice none 0 0) [] w.heap.size (w.heap.size + 1) (.slice none 0 0), ⟨_, [], w.heap.size, w.heap.size + 1, _, hin, fun _ h => h, hin.lt⟩, ?_⟩, ((Fr.refl _ w).alloc _).alloc _ |>.alloc _⟩
  rintro k (rfl | hk | ⟨v, hv, hk⟩ | rfl | rfl | hk)
  · omega
  · simp [Value.ownBlock] at hk
  · cases hv
  · omega
  · omega
  · simp [Value.ownBlock] at hk
end
end Chart

/- Create. -/
namespace Chart
open Go Go.RowKit Go.Proofs

section
variable {w w' w2 : World} {p : Nat} {c : Cab} {fv : Value} {avs : List Value} {nb sb : Nat} {wv : Value} {D : Nat → Prop}

theorem create_mid (h : CabIn w p c fv avs nb sb wv) {v' : Value} (F : Fr (fun k => fv.ownBlock = some k) w w2) (hrow : Row w2 102 2 v' (c.files.length + 1) (fileCells avs c.files ++ [.slice none 0 0, .int .i64 0]))
    : CabIn (w2.setCell ⟨p, 1, none⟩ v') p { c with files := c.files ++ [⟨[], 0⟩] } v' (avs ++ [.slice none 0 0]) nb sb wv := by
  have e1 : ¬ fv.ownBlock = some p := fun e => h.files.ne_blk h.blk (by decide) e
  have b2 := h.blk.fr F e1
  exact {
    blk := b2.set 1 v'
    files := by
      have e := fileCells_snoc avs c.files (.slice none 0 0) ⟨[], 0⟩ h.len
      have e0 : ((0 : Nat) : Int) = 0 := rfl
      simp only [e0] at e
      have := hrow.far (p := ⟨p, 1, none⟩) (fun e => hrow.ne_blk b2 (by decide) e) v'
      rw [← e] at this
      simpa using this
    len := by simp [h.len]
    bytes := fun i f hf => by
      rw [List.getElem?_append] at hf ⊢
      have hl := h.len
      by_cases hi : i < c.files.length
      · rw [if_pos hi] at hf
        rw [if_pos (by omega)]
        obtain ⟨v, hv, hr⟩ := h.bytes i f hf
        exact ⟨v, hv, (hr.fr F fun k hk e => hr.ne_row h.files (by decide) hk e).far (fun e => hr.ne_blk h.blk (by decide) e) _⟩
      · rw [if_neg hi] at hf
        rw [if_neg (by omega)]
        have h0 : i - c.files.length = 0 := by
          rcases Nat.eq_zero_or_pos (i - c.files.length) with h | h
          · exact h
          · rw [List.getElem?_eq_none (by simp; omega)] at hf
            cases hf
        rw [h0] at hf
        rw [hl, h0]
        simp at hf
        subst hf
        exact ⟨_, rfl, Row.nil _ _ _⟩
    apart := fun i j v u k hv hu hne hk => by
      rw [List.getElem?_append] at hv hu
      by_cases hi : i < avs.length
      · rw [if_pos hi] at hv
        by_cases hj : j < avs.length
        · rw [if_pos hj] at hu
          exact h.apart i j v u k hv hu hne hk
        · rw [if_neg hj] at hu
          intro e
          have := List.mem_of_getElem? hu
          simp at this
          subst this
          simp [Value.ownBlock] at e
      · rw [if_neg hi] at hv
        have := List.mem_of_getElem? hv
        simp at this
        subst this
        simp [Value.ownBlock] at hk
    now := (h.now.fr F fun e => h.files.ne_map h.now e).far (Ne.symm (h.blk.ne_map h.now)) _
    sure := (h.sure.fr F fun e => h.files.ne_map h.sure e).far (Ne.symm (h.blk.ne_map h.sure)) _
    two := h.two
    waiting := (h.waiting.fr F fun k hk e => h.waiting.ne_row h.files (by decide) hk e).far (fun e => h.waiting.ne_blk h.blk (by decide) e) _ }

theorem create_end (h : CabIn w p c fv avs nb sb wv) (hD : ∀ k, CabOwn p fv avs nb sb wv k → D k) {v' : Value} (F : Fr (fun k => fv.ownBlock = some k) w w2) (hrow : Row w2 102 2 v' (c.files.length + 1) (fileCells avs c.files ++ [.slice none 0 0, .int .i64 0]))
    (hv' : ∀ k, v'.ownBlock = some k → fv.ownBlock = some k ∨ w.heap.size ≤ k) : ∃ D', After w D p { c with files := c.files ++ [⟨[], 0⟩] } D' (w2.setCell ⟨p, 1, none⟩ v') := by
  have hm := create_mid h F hrow
  refine ⟨_, ⟨_, _, nb, sb, wv, hm, fun _ h => h, hm.lt⟩, ?_, ?_⟩
  · exact (F.mono fun k _ e => hD k (.inr (.inl e))).setCell (p := ⟨p, 1, none⟩) (.inl (hD _ (.inl rfl))) _
  · rintro k (rfl | hk | ⟨v, hv, hk⟩ | rfl | rfl | hk)
    · exact .inl (hD _ (.inl rfl))
    · rcases hv' k hk with h | h
      · exact .inl (hD _ (.inr (.inl h)))
      · exact .inr h
    · rcases List.mem_append.1 hv with h | h
      · exact .inl (hD _ (.inr (.inr (.inl ⟨v, h, hk⟩))))
      · simp at h
        subst h
        cases hk
    · exact .inl (hD _ (.inr (.inr (.inr (.inl rfl)))))
    · exact .inl (hD _ (.inr (.inr (.inr (.inr (.inl rfl))))))
    · exact .inl (hD _ (.inr (.inr (.inr (.inr (.inr hk))))))

theorem two_one : ∀ u ∈ (#[.slice none 0 0, .int .i64 0] : Array Value).toList, u.oneCell' = true := by
  intro u hu
  simp at hu
  rcases hu with rfl | rfl <;> rfl

set_option maxRecDepth 100000 in
set_option maxHeartbeats 4000000 in
theorem create_yes (h : CabAt w p c D) (k : Txt) (hk : k.length ≤ maxLen) (a0 : -1 ≤ c.after) (a1 : c.after ≤ 9223372036854775807) (hn : c.now.length < 4096) (hw : c.waiting.length ≤ 1000000) (hfl : c.files.length ≤ 1000000) (hv : ∀ k, (c.now.get? k).getD 0 ≤ 9223372036854775807) (ho : c.off = false) (hno : Cab.nameOk k = true)
    (hg : c.now.get? k = none) :
    Calls Tryd.prog 19 #[.pointer (some ⟨p, 0, none⟩), .string (str k)] w fun e w' => e = .returned (.int .i64 (c.create k).2) ∧ ∃ D', After w D p (c.create k).1 D' w' := by
  have hr := h.ready
  rw [ho] at hr
  have hs := fun (w1 : World) (h1 : CabAt w1 p c D) => h1.spend a0 a1
  have hnm := fun w => name_calls k w (by simpa [maxLen] using hk)
  rw [hno] at hnm
  obtain ⟨fv, avs, nb, sb, wv, hi, hD, hlt⟩ := id h
  obtain ⟨_, _, k2, _, _, _, _⟩ := hi.cells
  have hnow := hi.now
  have HA := Lib.hid h
  have HR := Lib.hid hr
  have HNm := Lib.hid hnm
  have HG := Lib.hid hg
  obtain ⟨i0, hi0, hz0, hz1, hz2⟩ := info_parts file_info
  rcases spend_cases c with ⟨e2, e1⟩ | ⟨e2, a, e1⟩
  · have ht : c.create k = (c.spend.1, 11) := by unfold Cab.create; simp [ho, hno, hg, e2, show ¬ 4096 ≤ c.now.length by omega]; rw [← e2]
    rw [ht]
    simp only [e2] at hs
    have HS := Lib.hid hs
    have HVV := Lib.hid hv
    clear hs hr hnm ht e1 e2 h ho hno hg hlt hv
    go_enter Tryd.func19, Tryd.ntmps19
    go_wp2_with (first
      | (go_at_call 51; refine HR.out.mono ?_; rintro e w' ⟨rfl, rfl⟩)
      | (go_at_call 52; refine (HNm.out _).mono ?_; rintro e w1 ⟨rfl, hF1⟩; have q2 := hF1.cell k2 id; have hnow1 := hnow.fr hF1 id)
      | (at_lookup; refine wpList_look_ok _ rfl _ _ 77 rfl 9 3 Tryd.underlying9 Tryd.underlying77 Tryd.underlying3 (zero_int _) nb c.now rfl hnow1 k rfl hk ?_; rw [HG.out])
      | (at_len; refine wpList_size _ rfl _ 77 rfl 9 3 Tryd.underlying77 nb c.now rfl hnow1 ?_)
      | (go_at_call 53; refine (HS.out _ (HA.out.fr hF1 (fun _ _ => id))).mono ?_; rintro e w2 ⟨rfl, hA1⟩))
    go_ret
    exact ⟨rfl, _, (After.mk (HA.out.fr hF1 (fun _ _ => id)) (hF1.mono fun _ _ h => h.elim) fun _ h => .inl h).trans hA1⟩
  · have ht : c.create k = (({ c.spend.1 with files := c.spend.1.files ++ [FileS.mk [] 0] } : Cab).rename ⟨0, [], k, c.spend.1.files.length⟩, 0) := by unfold Cab.create; simp [ho, hno, hg, e2, show ¬ 4096 ≤ c.now.length by omega]
    rw [ht]
    simp only [e2] at hs
    have HS := Lib.hid hs
    have HE := Lib.hid e1
    have HVV := Lib.hid hv
    clear hs hr hnm ht e1 e2 h ho hno hg hlt hv
    go_enter Tryd.func19, Tryd.ntmps19
    go_wp2_with (first
      | (go_at_call 51; refine HR.out.mono ?_; rintro e w' ⟨rfl, rfl⟩)
      | (go_at_call 52; refine (HNm.out _).mono ?_; rintro e w1 ⟨rfl, hF1⟩; have q2 := hF1.cell k2 id; have hnow1 := hnow.fr hF1 id)
      | (at_lookup; refine wpList_look_ok _ rfl _ _ 77 rfl 9 3 Tryd.underlying9 Tryd.underlying77 Tryd.underlying3 (zero_int _) nb c.now rfl hnow1 k rfl hk ?_; rw [HG.out])
      | (at_len; refine wpList_size _ rfl _ 77 rfl 9 3 Tryd.underlying77 nb c.now rfl hnow1 ?_)
      | (go_at_call 53; refine (HS.out _ (HA.out.fr hF1 (fun _ _ => id))).mono ?_; rintro e w2 ⟨rfl, hA1⟩; obtain ⟨fv2, avs2, nb2, sb2, wv2, hi2, hD2, hlt2⟩ := hA1.at_; obtain ⟨A2, cp2, rfl, _, _⟩ := hi2.files.shape; have r1 : w2.cell? ⟨p, 1, none⟩ = some (.slice A2 c.spend.1.files.length cp2) := hi2.blk.cell 1; have hl2 : c.spend.1.files.length ≤ 1000000 := (by rw [HE.out]; exact hfl); have hpl2 := hi2.blk.lt)
      | (at_builtin; refine wpList_append_row _ rfl (.tmp 42) (.tmp 44) 78 rfl 102 i0 _ 2 32 Tryd.underlying78 hi0 hz0 hz1 hz2 rfl (by decide) (.slice A2 c.spend.1.files.length cp2) c.spend.1.files.length (fileCells avs2 c.spend.1.files) rfl (hi2.files.alloc _) _ 1 _ rfl (Row.made w2 102 2 1 #[.slice none 0 0, .int .i64 0] rfl (by decide)).src two_one (by simp only [maxLen]; omega) (by omega) ?_; intro v3 w3 hrow3 hfr3 hwh3; obtain ⟨A3, cp3, rfl, _, _⟩ := hrow3.shape; have hb3 := (hi2.blk.alloc _).fr hfr3 (fun e => hi2.files.ne_blk hi2.blk (by decide) e); have s1 : w3.cell? ⟨p, 1, none⟩ = some (.slice A2 c.spend.1.files.length cp2) := hb3.cell 1; have sf := hb3.frozen 1))
    have F3 : Fr (fun q => (Value.slice A2 c.spend.1.files.length cp2).ownBlock = some q) w2 w3 := ((Fr.refl _ w2).alloc _).trans hfr3 fun i h => .inl h
    obtain ⟨D3, hA3⟩ := create_end hi2 hD2 F3 hrow3 fun q hq => by
      rcases hwh3 with h | h
      · exact .inl (by rw [← h]; exact hq)
      · rw [h] at hq
        injection hq with hq
        simp at hq
        exact .inr (by omega)
    refine (rename_calls hA3.at_ ⟨0, [], k, c.spend.1.files.length⟩ ?_ ?_ (Nat.zero_le _) (Nat.zero_le _) hk ?_ ?_).mono ?_
    · show c.spend.1.now.length < _
      rw [HE.out]; show c.now.length < _; omega
    · show c.spend.1.waiting.length ≤ _
      rw [HE.out]; exact hw
    · show c.spend.1.files.length ≤ _
      omega
    · show (c.spend.1.now.get? []).getD 0 ≤ _
      rw [HE.out]; exact HVV.out []
    rintro e w4 ⟨rfl, D4, hA4⟩
    go_wp2_with fail
    go_ret
    exact ⟨rfl, D4, (((After.mk (HA.out.fr hF1 (fun _ _ => id)) (hF1.mono fun _ _ h => h.elim) fun _ h => .inl h).trans hA1).trans hA3).trans hA4⟩

set_option maxRecDepth 100000 in
set_option maxHeartbeats 1000000 in
theorem create_calls (h : CabAt w p c D) (k : Txt) (hk : k.length ≤ maxLen) (a0 : -1 ≤ c.after) (a1 : c.after ≤ 9223372036854775807) (hw : c.waiting.length ≤ 1000000) (hfl : c.files.length ≤ 1000000) (hv : ∀ k, (c.now.get? k).getD 0 ≤ 9223372036854775807) :
    Calls Tryd.prog 19 #[.pointer (some ⟨p, 0, none⟩), .string (str k)] w fun e w' => e = .returned (.int .i64 (c.create k).2) ∧ ∃ D', After w D p (c.create k).1 D' w' := by
  have hr := h.ready
  have hnm := fun w => name_calls k w (by simpa [maxLen] using hk)
  cases ho : c.off
  · rw [ho] at hr
    have HR := Lib.hid hr
    cases hno : Cab.nameOk k
    · rw [hno] at hnm
      have ht : c.create k = (c, 6) := by unfold Cab.create; simp [ho, hno]
      rw [ht]
      have HNm := Lib.hid hnm
      have HA := Lib.hid h
      clear hnm hr h ht hno ho hv
      go_enter Tryd.func19, Tryd.ntmps19
      go_wp2_with (first
        | (go_at_call 51; refine HR.out.mono ?_; rintro e w' ⟨rfl, rfl⟩)
        | (go_at_call 52; refine (HNm.out _).mono ?_; rintro e w1 ⟨rfl, hF1⟩))
      go_ret
      exact ⟨rfl, D, HA.out.fr hF1 (fun _ _ => id), hF1.mono fun _ _ h => h.elim, fun _ h => .inl h⟩
    · cases hg : c.now.get? k with
      | none =>
        by_cases hn : c.now.length < 4096
        · exact create_yes h k hk a0 a1 hn hw hfl hv ho hno hg
        · rw [hno] at hnm
          have ht : c.create k = (c, 9) := by unfold Cab.create; simp [ho, hno, hg, show 4096 ≤ c.now.length by omega]
          rw [ht]
          have HNm := Lib.hid hnm
          obtain ⟨fv, avs, nb, sb, wv, hi, hD, hlt⟩ := id h
          obtain ⟨_, _, k2, _, _, _, _⟩ := hi.cells
          have hnow := hi.now
          have HA := Lib.hid h
          have HG := Lib.hid hg
          clear hnm hr h ht hno ho hg hv hlt
          go_enter Tryd.func19, Tryd.ntmps19
          go_wp2_with (first
            | (go_at_call 51; refine HR.out.mono ?_; rintro e w' ⟨rfl, rfl⟩)
            | (go_at_call 52; refine (HNm.out _).mono ?_; rintro e w1 ⟨rfl, hF1⟩; have q2 := hF1.cell k2 id; have hnow1 := hnow.fr hF1 id)
            | (at_lookup; refine wpList_look_ok _ rfl _ _ 77 rfl 9 3 Tryd.underlying9 Tryd.underlying77 Tryd.underlying3 (zero_int _) nb c.now rfl hnow1 k rfl hk ?_; rw [HG.out])
            | (at_len; refine wpList_size _ rfl _ 77 rfl 9 3 Tryd.underlying77 nb c.now rfl hnow1 ?_))
          go_ret
          exact ⟨rfl, D, HA.out.fr hF1 (fun _ _ => id), hF1.mono fun _ _ h => h.elim, fun _ h => .inl h⟩
      | some n =>
        rw [hno] at hnm
        have ht : c.create k = (c, 8) := by unfold Cab.create; simp [ho, hno, hg]
        rw [ht]
        have HNm := Lib.hid hnm
        obtain ⟨fv, avs, nb, sb, wv, hi, hD, hlt⟩ := id h
        obtain ⟨_, _, k2, _, _, _, _⟩ := hi.cells
        have hnow := hi.now
        have HA := Lib.hid h
        have HG := Lib.hid hg
        clear hnm hr h ht hno ho hg hv hlt
        go_enter Tryd.func19, Tryd.ntmps19
        go_wp2_with (first
          | (go_at_call 51; refine HR.out.mono ?_; rintro e w' ⟨rfl, rfl⟩)
          | (go_at_call 52; refine (HNm.out _).mono ?_; rintro e w1 ⟨rfl, hF1⟩; have q2 := hF1.cell k2 id; have hnow1 := hnow.fr hF1 id)
          | (at_lookup; refine wpList_look_ok _ rfl _ _ 77 rfl 9 3 Tryd.underlying9 Tryd.underlying77 Tryd.underlying3 (zero_int _) nb c.now rfl hnow1 k rfl hk ?_; rw [HG.out]))
        go_ret
        exact ⟨rfl, D, HA.out.fr hF1 (fun _ _ => id), hF1.mono fun _ _ h => h.elim, fun _ h => .inl h⟩
  · rw [ho] at hr
    have HR := Lib.hid hr
    have ht : c.create k = (c, 11) := by unfold Cab.create; simp [ho]
    rw [ht]
    have HA := Lib.hid h
    clear hnm hr h ht ho hv
    go_enter Tryd.func19, Tryd.ntmps19
    go_wp2_with (go_at_call 51; refine HR.out.mono ?_; rintro e w' ⟨rfl, rfl⟩)
    go_ret
    exact ⟨rfl, D, After.same HA.out⟩
end
end Chart

/- Sync. -/
namespace Chart
open Go Go.RowKit Go.Proofs
attribute [local go_sem ↓] Go.wp_at_zero Go.wp_at_succ

theorem get_mem {F : Folder} {k : Txt} {n : Nat} (h : F.get? k = some n) : (k, n) ∈ F := by
  unfold Folder.get? at h
  cases hf : F.find? fun p => p.1 == k with
  | none => rw [hf] at h; cases h
  | some q =>
    rw [hf] at h
    simp at h
    subst h
    have h1 := List.mem_of_find?_eq_some hf
    have h2 := List.find?_some hf
    simp at h2
    subst h2
    exact h1

section
variable {w w' w2 : World} {p : Nat} {c : Cab} {fv : Value} {avs : List Value} {nb sb : Nat} {wv : Value} {D : Nat → Prop}

theorem find_lt (hnn : ∀ x ∈ c.now, x.2 < c.files.length) {k : Txt} (h : (c.find k).2 = 0) : (c.find k).1 < c.files.length := by
  unfold Cab.find at h ⊢
  split at h
  · cases h
  · rename_i ho
    rw [if_neg ho]
    split at h
    · cases h
    · rename_i n hn
      simp only
      exact hnn _ (get_mem hn)

theorem set_same {α : Type} {l : List α} {n : Nat} {v : α} (hv : l[n]? = some v) : l.set n v = l := by
  apply List.ext_getElem?
  intro j
  rw [List.getElem?_set]
  by_cases e : n = j
  · subst e
    rw [if_pos rfl]
    split
    · exact hv.symm
    · rename_i hh
      have := (List.getElem?_eq_some_iff.1 hv).1
      omega
  · rw [if_neg e]

theorem sync_end (h : CabIn w p c fv avs nb sb wv) (hD : ∀ k, CabOwn p fv avs nb sb wv k → D k) (hlt : ∀ k, D k → k < w.heap.size) {n g cp : Nat} {f : FileS} (hfv : fv = .slice (some ⟨g, 0, none⟩) c.files.length cp) (hf : c.files[n]? = some f) (s : Nat) :
    After w D p { c with files := c.files.set n { f with sure := s } } D (w.setCell ⟨g, n * 2 + 1, none⟩ (.int .i64 s)) := by
  subst hfv
  obtain ⟨v, hv, hb⟩ := h.bytes n f hf
  have hr := h.files.set (n * 2 + 1) (.int .i64 s)
  rw [fileCells_sure avs c.files n f hf s h.len] at hr
  have F2 : Fr (fun k => (Value.slice (some ⟨g, 0, none⟩) c.files.length cp).ownBlock = some k) w (w.setCell ⟨g, n * 2 + 1, none⟩ (.int .i64 s)) := (Fr.refl (fun k => (Value.slice (some ⟨g, 0, none⟩) c.files.length cp).ownBlock = some k) w).setCell (p := ⟨g, n * 2 + 1, none⟩) (.inl rfl) _
  have ht := h.turnFile (f' := { f with sure := s }) hv (Fr.refl (fun _ => False) w) (fun _ h => h.elim) hb (fun k hk => .inl hk) (by rw [set_same hv]; exact hr) F2
  rw [set_same hv] at ht
  exact ⟨⟨_, avs, nb, sb, wv, ht, hD, fun k hk => Nat.lt_of_lt_of_le (hlt k hk) F2.size⟩, F2.mono fun k _ hk => hD _ (.inr (.inl hk)), fun k hk => .inl hk⟩

set_option maxRecDepth 100000 in
set_option maxHeartbeats 2000000 in
theorem sync_calls (h : CabAt w p c D) (k : Txt) (hk : k.length ≤ maxLen) (a0 : -1 ≤ c.after) (a1 : c.after ≤ 9223372036854775807) (hnn : ∀ x ∈ c.now, x.2 < c.files.length) :
    Calls Tryd.prog 21 #[.pointer (some ⟨p, 0, none⟩), .string (str k)] w fun e w' => e = .returned (.int .i64 (c.sync k).2) ∧ ∃ D', After w D p (c.sync k).1 D' w' := by
  have hf := h.find k hk
  have hs := h.spend a0 a1
  have HA := Lib.hid (After.same h)
  have hfl := find_lt hnn (k := k)
  generalize hfe : c.find k = r at hf hfl
  obtain ⟨n, q⟩ := r
  simp only at hf hfl
  by_cases hq : q = 0
  · subst hq
    have hn := hfl rfl
    rcases spend_cases c with ⟨e2, e1⟩ | ⟨e2, a, e1⟩
    · have ht : c.sync k = (c.spend.1, 11) := by unfold Cab.sync; rw [hfe]; simp [e2]; rw [← e2]
      rw [ht]
      rw [e2] at hs
      have HF := Lib.hid hf
      have HS := Lib.hid hs
      clear hs ht e1 e2 h hf hfe hnn hfl
      go_enter Tryd.func21, Tryd.ntmps21
      go_wp2_with (first
        | (go_at_call 49; refine HF.out.mono ?_; rintro e w' ⟨rfl, rfl⟩)
        | (go_at_call 53; refine HS.out.mono ?_; rintro e w1 ⟨rfl, hA1⟩))
      go_ret
      exact ⟨rfl, _, hA1⟩
    · have ht : c.sync k = (c.spend.1.setFile n { c.spend.1.file n with sure := (c.spend.1.file n).all.length }, 0) := by unfold Cab.sync; rw [hfe]; simp [e2]
      rw [ht]
      rw [e2] at hs
      have HF := Lib.hid hf
      have HS := Lib.hid hs
      have HE := Lib.hid e1
      have hn1 : n < c.spend.1.files.length := by rw [e1]; exact hn
      clear hs ht e1 e2 h hf hfe hnn hfl
      go_enter Tryd.func21, Tryd.ntmps21
      go_wp2_with (first
        | (go_at_call 49; refine HF.out.mono ?_; rintro e w' ⟨rfl, rfl⟩)
        | (go_at_call 53; refine HS.out.mono ?_; rintro e w1 ⟨rfl, hA1⟩))
      obtain ⟨fv, avs, nb, sb, wv, hi, hD, hlt⟩ := hA1.at_
      obtain ⟨g, cp, v, f, hv, hcp, ha, hfn, hg, c0, c1, hb⟩ := hi.file hn1
      subst hv
      obtain ⟨A', c', rfl, _, _⟩ := hb.shape
      have r1 : w1.cell? ⟨p, 1, none⟩ = some (.slice (some ⟨g, 0, none⟩) c.spend.1.files.length cp) := hi.blk.cell 1
      have rf := Row.free hi.files (n * 2 + 1)
      have i1 : (0 : Int) ≤ (n : Int) := by omega
      have i2 : (n : Int) < (c.spend.1.files.length : Int) := by omega
      have hml := hb.le
      have k1 : (w1.setCell ⟨g, n * 2 + 1, none⟩ (.int .i64 (f.all.length : Nat))).cell? ⟨p, 1, none⟩ = some (.slice (some ⟨g, 0, none⟩) c.spend.1.files.length cp) := by rw [World.cell?_setCell_other w1 _ _ _ (fun e => by injection e with e; exact hi.files.ne_blk hi.blk (by decide) (by rw [← e]; rfl))]; exact r1
      have k2 : (w1.setCell ⟨g, n * 2 + 1, none⟩ (.int .i64 (f.all.length : Nat))).cell? ⟨g, n * 2, none⟩ = some (.slice A' f.all.length c') := by rw [World.cell?_setCell_other w1 _ _ _ (fun e => by injection e with _ e; omega)]; exact c0
      go_region_held3 (fun w' => w'.cell? ⟨p, 1, none⟩ = some (.slice (some ⟨g, 0, none⟩) c.spend.1.files.length cp) ∧ w'.cell? ⟨g, n * 2, none⟩ = some (.slice A' f.all.length c')) (first | go_keep | exact ⟨k1, k2⟩) (fail)
      go_wp2_with fail
      go_ret
      have hfd : c.spend.1.file n = f := by unfold Cab.file; rw [List.getD_eq_getElem?_getD, hfn]; rfl
      unfold Cab.setFile
      rw [hfd]
      exact ⟨rfl, D, hA1.trans ((sync_end hi hD hlt rfl hfn _).drew)⟩
  · have ht : c.sync k = (c, q) := by unfold Cab.sync; rw [hfe]; simp [hq]
    rw [ht]
    have HF := Lib.hid hf
    have hb : (q == 0) = false := by simp [hq]
    have hb2 : (q != 0) = true := by simp [hq]
    clear hs ht h hf hfe hnn hfl
    go_enter Tryd.func21, Tryd.ntmps21
    go_wp2_with (go_at_call 49; refine HF.out.mono ?_; rintro e w' ⟨rfl, rfl⟩)
    go_ret
    exact ⟨rfl, _, HA.out⟩
end
end Chart
