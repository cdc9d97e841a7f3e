/- Sync. -/
import Derived.Test.YtophgamjhngppaaDoorCabJ
namespace Chart
open Go Go.RowKit Go.Proofs
attribute [local go_sem ↓] Go.wp_at_zero Go.wp_at_succ

theorem get_mem {F : Folder} {k : Txt} {n : Nat} (h : F.get? k = some n) : (k, n) ∈ F := by
  unfold Folder.get? at h
  cases hf : F.find? fun p => p.1 == k with
  | none => rw [hf] at h; cases h
  | some q =>
    rw [hf] at h
    simp at h
    subst h
    have h1 := List.mem_of_find?_eq_some hf
    have h2 := List.find?_some hf
    simp at h2
    subst h2
    exact h1

section
variable {w w' w2 : World} {p : Nat} {c : Cab} {fv : Value} {avs : List Value} {nb sb : Nat} {wv : Value} {D : Nat → Prop}

theorem find_lt (hnn : ∀ x ∈ c.now, x.2 < c.files.length) {k : Txt} (h : (c.find k).2 = 0) : (c.find k).1 < c.files.length := by
  unfold Cab.find at h ⊢
  split at h
  · cases h
  · rename_i ho
    rw [if_neg ho]
    split at h
    · cases h
    · rename_i n hn
      simp only
      exact hnn _ (get_mem hn)

theorem set_same {α : Type} {l : List α} {n : Nat} {v : α} (hv : l[n]? = some v) : l.set n v = l := by
  apply List.ext_getElem?
  intro j
  rw [List.getElem?_set]
  by_cases e : n = j
  · subst e
    rw [if_pos rfl]
    split
    · exact hv.symm
    · rename_i hh
      have := (List.getElem?_eq_some_iff.1 hv).1
      omega
  · rw [if_neg e]

theorem sync_end (h : CabIn w p c fv avs nb sb wv) (hD : ∀ k, CabOwn p fv avs nb sb wv k → D k) (hlt : ∀ k, D k → k < w.heap.size) {n g cp : Nat} {f : FileS} (hfv : fv = .slice (some ⟨g, 0, none⟩) c.files.length cp) (hf : c.files[n]? = some f) (s : Nat) :
    After w D p { c with files := c.files.set n { f with sure := s } } D (w.setCell ⟨g, n * 2 + 1, none⟩ (.int .i64 s)) := by
  subst hfv
  obtain ⟨v, hv, hb⟩ := h.bytes n f hf
  have hr := h.files.set (n * 2 + 1) (.int .i64 s)
  rw [fileCells_sure avs c.files n f hf s h.len] at hr
  have F2 : Fr (fun k => (Value.slice (some ⟨g, 0, none⟩) c.files.length cp).ownBlock = some k) w (w.setCell ⟨g, n * 2 + 1, none⟩ (.int .i64 s)) := (Fr.refl (fun k => (Value.slice (some ⟨g, 0, none⟩) c.files.length cp).ownBlock = some k) w).setCell (p := ⟨g, n * 2 + 1, none⟩) (.inl rfl) _
  have ht := h.turnFile (f' := { f with sure := s }) hv (Fr.refl (fun _ => False) w) (fun _ h => h.elim) hb (fun k hk => .inl hk) (by rw [set_same hv]; exact hr) F2
  rw [set_same hv] at ht
  exact ⟨⟨_, avs, nb, sb, wv, ht, hD, fun k hk => Nat.lt_of_lt_of_le (hlt k hk) F2.size⟩, F2.mono fun k _ hk => hD _ (.inr (.inl hk)), fun k hk => .inl hk⟩

set_option maxRecDepth 100000 in
set_option maxHeartbeats 2000000 in
theorem sync_calls (h : CabAt w p c D) (k : Txt) (hk : k.length ≤ maxLen) (a0 : -1 ≤ c.after) (a1 : c.after ≤ 9223372036854775807) (hnn : ∀ x ∈ c.now, x.2 < c.files.length) :
    Calls Tryd.prog 21 #[.pointer (some ⟨p, 0, none⟩), .string (str k)] w fun e w' => e = .returned (.int .i64 (c.sync k).2) ∧ ∃ D', After w D p (c.sync k).1 D' w' := by
  have hf := h.find k hk
  have hs := h.spend a0 a1
  have HA := Lib.hid (After.same h)
  have hfl := find_lt hnn (k := k)
  generalize hfe : c.find k = r at hf hfl
  obtain ⟨n, q⟩ := r
  simp only at hf hfl
  by_cases hq : q = 0
  · subst hq
    have hn := hfl rfl
    rcases spend_cases c with ⟨e2, e1⟩ | ⟨e2, a, e1⟩
    · have ht : c.sync k = (c.spend.1, 11) := by unfold Cab.sync; rw [hfe]; simp [e2]; rw [← e2]
      rw [ht]
      rw [e2] at hs
      have HF := Lib.hid hf
      have HS := Lib.hid hs
      clear hs ht e1 e2 h hf hfe hnn hfl
      go_enter Tryd.func21, Tryd.ntmps21
      go_wp2_with (first
        | (go_at_call 49; refine HF.out.mono ?_; rintro e w' ⟨rfl, rfl⟩)
        | (go_at_call 53; refine HS.out.mono ?_; rintro e w1 ⟨rfl, hA1⟩))
      go_ret
      exact ⟨rfl, _, hA1⟩
    · have ht : c.sync k = (c.spend.1.setFile n { c.spend.1.file n with sure := (c.spend.1.file n).all.length }, 0) := by unfold Cab.sync; rw [hfe]; simp [e2]
      rw [ht]
      rw [e2] at hs
      have HF := Lib.hid hf
      have HS := Lib.hid hs
      have HE := Lib.hid e1
      have hn1 : n < c.spend.1.files.length := by rw [e1]; exact hn
      clear hs ht e1 e2 h hf hfe hnn hfl
      go_enter Tryd.func21, Tryd.ntmps21
      go_wp2_with (first
        | (go_at_call 49; refine HF.out.mono ?_; rintro e w' ⟨rfl, rfl⟩)
        | (go_at_call 53; refine HS.out.mono ?_; rintro e w1 ⟨rfl, hA1⟩))
      obtain ⟨fv, avs, nb, sb, wv, hi, hD, hlt⟩ := hA1.at_
      obtain ⟨g, cp, v, f, hv, hcp, ha, hfn, hg, c0, c1, hb⟩ := hi.file hn1
      subst hv
      obtain ⟨A', c', rfl, _, _⟩ := hb.shape
      have r1 : w1.cell? ⟨p, 1, none⟩ = some (.slice (some ⟨g, 0, none⟩) c.spend.1.files.length cp) := hi.blk.cell 1
      have rf := Row.free hi.files (n * 2 + 1)
      have i1 : (0 : Int) ≤ (n : Int) := by omega
      have i2 : (n : Int) < (c.spend.1.files.length : Int) := by omega
      have hml := hb.le
      have k1 : (w1.setCell ⟨g, n * 2 + 1, none⟩ (.int .i64 (f.all.length : Nat))).cell? ⟨p, 1, none⟩ = some (.slice (some ⟨g, 0, none⟩) c.spend.1.files.length cp) := by rw [World.cell?_setCell_other w1 _ _ _ (fun e => by injection e with e; exact hi.files.ne_blk hi.blk (by decide) (by rw [← e]; rfl))]; exact r1
      have k2 : (w1.setCell ⟨g, n * 2 + 1, none⟩ (.int .i64 (f.all.length : Nat))).cell? ⟨g, n * 2, none⟩ = some (.slice A' f.all.length c') := by rw [World.cell?_setCell_other w1 _ _ _ (fun e => by injection e with _ e; omega)]; exact c0
      go_region_held3 (fun w' => w'.cell? ⟨p, 1, none⟩ = some (.slice (some ⟨g, 0, none⟩) c.spend.1.files.length cp) ∧ w'.cell? ⟨g, n * 2, none⟩ = some (.slice A' f.all.length c')) (first | go_keep | exact ⟨k1, k2⟩) (fail)
      go_wp2_with fail
      go_ret
      have hfd : c.spend.1.file n = f := by unfold Cab.file; rw [List.getD_eq_getElem?_getD, hfn]; rfl
      unfold Cab.setFile
      rw [hfd]
      exact ⟨rfl, D, hA1.trans ((sync_end hi hD hlt rfl hfn _).drew)⟩
  · have ht : c.sync k = (c, q) := by unfold Cab.sync; rw [hfe]; simp [hq]
    rw [ht]
    have HF := Lib.hid hf
    have hb : (q == 0) = false := by simp [hq]
    have hb2 : (q != 0) = true := by simp [hq]
    clear hs ht h hf hfe hnn hfl
    go_enter Tryd.func21, Tryd.ntmps21
    go_wp2_with (go_at_call 49; refine HF.out.mono ?_; rintro e w' ⟨rfl, rfl⟩)
    go_ret
    exact ⟨rfl, _, HA.out⟩
end
end Chart
