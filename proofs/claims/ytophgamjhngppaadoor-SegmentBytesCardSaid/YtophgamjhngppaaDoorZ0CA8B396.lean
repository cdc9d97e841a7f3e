import Derived.Below
import Derived.Laws.OwnMore
import Derived.Deep.AppendLies
import Derived.Deep.Draws
import Derived.Maps.Own
import Derived.Maps.OwnSet
import Derived.OwnWalk
import Derived.ArgAppend
import Derived.Laws.Rows
import Derived.RegionTactic
import Derived.WalkKit
import GoSem.ClaimWide
import Derived.Maps.OwnOps
import Derived.MapViews
import Derived.StringKeys
import Derived.Test.YtophgamjhngppaaDoorProg
import Derived.Lib.Hide
import Derived.Lib.SlBytesConst
import Derived.Lib.BufferRead
import Derived.Laws.IdiomStrings
import Derived.IntWalk
import Derived.Deep.LoopGhost
import Derived.Laws.NewBlocks
import Derived.Laws.Bits64b
import Derived.Laws.BitsAllLaws
/- Words for memory: what a call turns ('Fr'), a row of cells that a slice holds ('Row'), what a slice reads as ('Src'); append, stores. Plain theorems, of whatever program. -/
namespace Chart
open Go Go.RowKit

/-- Of what was there only blocks of D have turned. -/
structure Fr (D : Nat → Prop) (w w' : World) : Prop where
  os : w'.os = w.os
  tape : w'.tape = w.tape
  output : w'.output = w.output
  size : w.heap.size ≤ w'.heap.size
  block : ∀ k, k < w.heap.size → ¬ D k → w'.heap[k]? = w.heap[k]?

theorem Fr.refl (D : Nat → Prop) (w : World) : Fr D w w := ⟨rfl, rfl, rfl, Nat.le_refl _, fun _ _ _ => rfl⟩
theorem Fr.trans {D D' : Nat → Prop} {a b c : World} (h : Fr D a b) (k : Fr D' b c) (hD : ∀ i, D' i → D i ∨ a.heap.size ≤ i) : Fr D a c :=
  ⟨k.os.trans h.os, k.tape.trans h.tape, k.output.trans h.output, Nat.le_trans h.size k.size, fun i hi hn =>
    (k.block i (Nat.lt_of_lt_of_le hi h.size) (fun e => by rcases hD i e with e | e; exact hn e; omega)).trans (h.block i hi hn)⟩
theorem Fr.mono {D D' : Nat → Prop} {w w' : World} (h : Fr D w w') (hD : ∀ i, i < w.heap.size → D i → D' i) : Fr D' w w' :=
  ⟨h.os, h.tape, h.output, h.size, fun k hk hn => h.block k hk (fun e => hn (hD k hk e))⟩
theorem Fr.drewN {D : Nat → Prop} {a w : World} (h : Fr D a w) (n : Nat) : Fr D a (w.drewN n) := ⟨h.os, h.tape, h.output, h.size, h.block⟩
theorem Fr.drew {D : Nat → Prop} {a w : World} (h : Fr D a w) : Fr D a w.drew := ⟨h.os, h.tape, h.output, h.size, h.block⟩
theorem Fr.undrew {D : Nat → Prop} {a w : World} (h : Fr D a.drew w) : Fr D a w := ⟨h.os, h.tape, h.output, h.size, h.block⟩
theorem Fr.undrewN {D : Nat → Prop} {a w : World} {n : Nat} (h : Fr D (a.drewN n) w) : Fr D a w := ⟨h.os, h.tape, h.output, h.size, h.block⟩
theorem Fr.alloc {D : Nat → Prop} {a w : World} (h : Fr D a w) (o : Obj) : Fr D a (w.alloc o) :=
  ⟨h.os, h.tape, h.output, Nat.le_trans h.size (by simp), fun k hk hn => (Below.heap_alloc w o k (Nat.lt_of_lt_of_le hk h.size)).trans (h.block k hk hn)⟩
theorem Fr.setCell {D : Nat → Prop} {a w : World} (h : Fr D a w) {p : Addr} (hp : D p.block ∨ a.heap.size ≤ p.block) (u : Value) : Fr D a (w.setCell p u) :=
  ⟨h.os, h.tape, h.output, Nat.le_trans h.size (by simp [World.setCell]), fun k hk hn =>
    (Below.heap_setCell w p u k (fun e => by subst e; rcases hp with hp | hp; exact hn hp; omega)).trans (h.block k hk hn)⟩
theorem Fr.of_below {w w' : World} (D : Nat → Prop) (h : Below w.heap.size w w') : Fr D w w' := ⟨h.os, h.tape, h.output, h.size, fun k hk _ => h.block k hk⟩
theorem Fr.below {D : Nat → Prop} {w w' : World} (h : Fr D w w') {B : Nat} (hB : B ≤ w.heap.size) (hD : ∀ k, k < B → ¬ D k) : Below B w w' :=
  ⟨h.os, h.tape, h.output, h.size, fun k hk => h.block k (by omega) (hD k hk)⟩
theorem Fr.of_grown {w w' : World} {row : Option Nat} (h : w.grownBy w' row) : Fr (fun k => row = some k) w w' :=
  ⟨h.os, h.tape, h.output, h.size, fun k hk hn => h.block k hk (fun e => hn e.symm)⟩
theorem Fr.cell {D : Nat → Prop} {w w' : World} (h : Fr D w w') {a : Addr} {v : Value} (hc : w.cell? a = some v) (hn : ¬ D a.block) : w'.cell? a = some v :=
  (World.cell?_of_block (h.block a.block (World.block_lt_of_cell? w a hc) hn)).trans hc
theorem Fr.heap {D : Nat → Prop} {w w' : World} (h : Fr D w w') {k : Nat} {o : Obj} (hc : w.heap[k]? = some o) (hn : ¬ D k) : w'.heap[k]? = some o :=
  (h.block k (Array.getElem?_eq_some_iff.1 hc).1 hn).trans hc

/-! ### A block of cells that is known whole -/
def Blk (w : World) (g : Nat) (t : TypeId) (cs : Array Value) : Prop := w.heap[g]? = some (.cells cs t (0, 0))
section
variable {w w' : World} {g : Nat} {t : TypeId} {cs : Array Value}
theorem Blk.lt (h : Blk w g t cs) : g < w.heap.size := (Array.getElem?_eq_some_iff.1 h).1
theorem Blk.cell (h : Blk w g t cs) (i : Nat) : w.cell? ⟨g, i, none⟩ = cs[i]? := cell_of_row w g i cs t (0, 0) h
theorem Blk.frozen (h : Blk w g t cs) (i : Nat) : w.frozen? ⟨g, i, none⟩ = false := by
  unfold Blk at h
  simp [World.frozen?, h]
theorem Blk.new (w : World) (t : TypeId) (cs : Array Value) : Blk (w.alloc (.cells cs t)) w.heap.size t cs := heap_alloc_new w _
theorem Blk.alloc (h : Blk w g t cs) (o : Obj) : Blk (w.alloc o) g t cs := (Below.heap_alloc w o g h.lt).trans h
theorem Blk.drewN (h : Blk w g t cs) (n : Nat) : Blk (w.drewN n) g t cs := h
theorem Blk.drew (h : Blk w g t cs) : Blk w.drew g t cs := h
theorem Blk.set (h : Blk w g t cs) (i : Nat) (u : Value) : Blk (w.setCell ⟨g, i, none⟩ u) g t (cs.setIfInBounds i u) := by
  unfold Blk at h ⊢
  simp [World.setCell, Array.getElem?_modify, h]
theorem Blk.far (h : Blk w g t cs) {p : Addr} (hp : g ≠ p.block) (u : Value) : Blk (w.setCell p u) g t cs := (Below.heap_setCell w p u g hp).trans h
theorem Blk.fr {D : Nat → Prop} (h : Blk w g t cs) (hf : Fr D w w') (hn : ¬ D g) : Blk w' g t cs := hf.heap h hn
theorem Blk.ne_ {g' : Nat} {t' : TypeId} {cs' : Array Value} (h : Blk w g t cs) (h' : Blk w g' t' cs') (hne : t ≠ t') : g ≠ g' := by
  rintro rfl
  unfold Blk at h h'
  rw [h] at h'
  injection h' with h'
  injection h' with _ ht
  exact hne ht
end

/-! ### A slice that holds a row of cells: nil, or the head of a block of its own -/
def Row (w : World) (e : TypeId) (size : Nat) (v : Value) (n : Nat) (xs : List Value) : Prop :=
  xs.length = n * size ∧
  ((v = .slice none 0 0 ∧ n = 0) ∨
   ∃ g cap cur, v = .slice (some ⟨g, 0, none⟩) n cap ∧ w.heap[g]? = some (.cells cur e (0, 0)) ∧ n ≤ cap ∧ cap ≤ maxLen ∧ cap * size ≤ cur.size ∧ cur.toList.take (n * size) = xs)

section
variable {w w' : World} {e : TypeId} {size n : Nat} {v : Value} {xs : List Value}
theorem Row.nil (w : World) (e : TypeId) (size : Nat) : Row w e size (.slice none 0 0) 0 [] := ⟨by simp, .inl ⟨rfl, rfl⟩⟩
theorem Row.lt (h : Row w e size v n xs) {k : Nat} (hk : v.ownBlock = some k) : k < w.heap.size := by
  rcases h.2 with ⟨rfl, _⟩ | ⟨g, cap, cur, rfl, hg, _⟩
  · simp [Value.ownBlock] at hk
  · simp [Value.ownBlock] at hk
    subst hk
    exact (Array.getElem?_eq_some_iff.1 hg).1
theorem Row.keep (h : Row w e size v n xs) (hb : ∀ k o, v.ownBlock = some k → w.heap[k]? = some o → w'.heap[k]? = some o) : Row w' e size v n xs := by
  refine ⟨h.1, ?_⟩
  rcases h.2 with hn | ⟨g, cap, cur, rfl, hg, rest⟩
  · exact .inl hn
  · exact .inr ⟨g, cap, cur, rfl, hb g _ (by simp [Value.ownBlock]) hg, rest⟩
theorem Row.fr {D : Nat → Prop} (h : Row w e size v n xs) (hf : Fr D w w') (hn : ∀ k, v.ownBlock = some k → ¬ D k) : Row w' e size v n xs :=
  h.keep fun k _ hk ho => hf.heap ho (hn k hk)
theorem Row.alloc (h : Row w e size v n xs) (o : Obj) : Row (w.alloc o) e size v n xs := h.fr ((Fr.refl (fun _ => False) w).alloc o) (fun _ _ => id)
theorem Row.drewN (h : Row w e size v n xs) (k : Nat) : Row (w.drewN k) e size v n xs := h
theorem Row.drew (h : Row w e size v n xs) : Row w.drew e size v n xs := h
theorem Row.far (h : Row w e size v n xs) {p : Addr} (hp : v.ownBlock ≠ some p.block) (u : Value) : Row (w.setCell p u) e size v n xs :=
  h.keep fun k _ hk ho => (Below.heap_setCell w p u k (fun e => hp (e ▸ hk))).trans ho
theorem Row.of_own {base : Nat} (h : w.ownsRow base e size v n xs) : Row w e size v n xs := by
  refine ⟨h.1, ?_⟩
  rcases h.2 with hn | ⟨g, cap, cur, rfl, _, hg, h1, h2, h3, h4⟩
  · exact .inl hn
  · exact .inr ⟨g, cap, cur, rfl, hg, h1, h2, by omega, h4⟩
theorem Row.shape (h : Row w e size v n xs) : ∃ A c, v = .slice A n c ∧ n ≤ c ∧ c ≤ maxLen := by
  rcases h.2 with ⟨rfl, rfl⟩ | ⟨g, cap, cur, rfl, _, h1, h2, _⟩
  · exact ⟨none, 0, rfl, Nat.le_refl _, Nat.zero_le _⟩
  · exact ⟨_, cap, rfl, h1, h2⟩
theorem Row.le (h : Row w e size v n xs) : n ≤ 9223372036854775807 := by
  obtain ⟨_, _, _, h1, h2⟩ := h.shape
  simp only [maxLen] at h2
  omega
/-- Where it holds something its address is known. -/
theorem Row.form (h : Row w e size v n xs) (hn : 0 < n) : ∃ g c, v = .slice (some ⟨g, 0, none⟩) n c ∧ n ≤ c ∧ c ≤ maxLen ∧
    (∀ j u, xs[j]? = some u → w.cell? ⟨g, j, none⟩ = some u) ∧ (∀ j, w.frozen? ⟨g, j, none⟩ = false) ∧ g < w.heap.size := by
  rcases h.2 with ⟨rfl, rfl⟩ | ⟨g, cap, cur, rfl, hg, h1, h2, h3, h4⟩
  · omega
  · refine ⟨g, cap, rfl, h1, h2, fun j u hu => ?_, fun j => by simp [World.frozen?, hg], (Array.getElem?_eq_some_iff.1 hg).1⟩
    rw [cell_of_row w g j cur e (0, 0) hg]
    rw [← h4, List.getElem?_take] at hu
    split at hu
    · simpa using hu
    · cases hu
theorem Row.free {g c : Nat} (h : Row w e size (.slice (some ⟨g, 0, none⟩) n c) n xs) (j : Nat) : w.frozen? ⟨g, j, none⟩ = false := by
  rcases h.2 with ⟨hv, _⟩ | ⟨g', cap, cur, hv, hg, _⟩
  · cases hv
  · cases hv
    simp [World.frozen?, hg]
theorem Row.ne_blk {g : Nat} {t : TypeId} {cs : Array Value} (h : Row w e size v n xs) (hg : Blk w g t cs) (hne : e ≠ t) : v.ownBlock ≠ some g := by
  rcases h.2 with ⟨rfl, _⟩ | ⟨g', cap, cur, rfl, hh, _⟩
  · simp [Value.ownBlock]
  · intro he
    have : g' = g := by simpa [Value.ownBlock] using he
    subst this
    exact Blk.ne_ (t := e) hh hg hne rfl
theorem Row.ne_row {e' : TypeId} {size' n' : Nat} {v' : Value} {xs' : List Value} (h : Row w e size v n xs) (h' : Row w e' size' v' n' xs') (hne : e ≠ e') {k : Nat} (hk : v.ownBlock = some k) : v'.ownBlock ≠ some k := by
  rcases h.2 with ⟨rfl, _⟩ | ⟨g, cap, cur, rfl, hh, _⟩
  · simp [Value.ownBlock] at hk
  · have : g = k := by simpa [Value.ownBlock] using hk
    subst this
    exact h'.ne_blk (g := g) (t := e) (cs := cur) hh (Ne.symm hne)
theorem Row.ne_map {b m : Nat} {H : Type} {P : Program} {k : TypeId} {R : Value → Option (DataW H × List MemPlace)} {D : DataW H} (h : Row w e size v n xs) (hm : w.ownsMap P k R b m D) : v.ownBlock ≠ some b := by
  obtain ⟨es, clock, hb, _⟩ := hm
  rcases h.2 with ⟨rfl, _⟩ | ⟨g', cap, cur, rfl, hh, _⟩
  · simp [Value.ownBlock]
  · intro he
    have : g' = b := by simpa [Value.ownBlock] using he
    subst this
    rw [hb] at hh
    cases hh
theorem Blk.ne_map {b m g : Nat} {t : TypeId} {cs : Array Value} {H : Type} {P : Program} {k : TypeId} {R : Value → Option (DataW H × List MemPlace)} {D : DataW H} (h : Blk w g t cs) (hm : w.ownsMap P k R b m D) : g ≠ b := by
  rintro rfl
  obtain ⟨es, clock, hb, _⟩ := hm
  unfold Blk at h
  rw [h] at hb
  cases hb
theorem Row.made (w : World) (e : TypeId) (size n : Nat) (cs : Array Value) (hs : cs.size = n * size) (hn : n ≤ maxLen) : Row (w.alloc (.cells cs e)) e size (.slice (some ⟨w.heap.size, 0, none⟩) n n) n cs.toList :=
  ⟨by simp [hs], .inr ⟨w.heap.size, n, cs, rfl, heap_alloc_new w _, Nat.le_refl _, hn, by omega, by rw [← hs, ← Array.length_toList, List.take_length]⟩⟩
/-- A cell of the row is written. -/
theorem Row.set {g c : Nat} (h : Row w e size (.slice (some ⟨g, 0, none⟩) n c) n xs) (j : Nat) (u : Value) : Row (w.setCell ⟨g, j, none⟩ u) e size (.slice (some ⟨g, 0, none⟩) n c) n (xs.set j u) := by
  refine ⟨by simpa using h.1, ?_⟩
  rcases h.2 with ⟨hv, _⟩ | ⟨g', cap, cur, hv, hg, h1, h2, h3, h4⟩
  · cases hv
  · cases hv
    refine .inr ⟨g, c, cur.setIfInBounds j u, rfl, Blk.set (g := g) hg j u, h1, h2, by simpa using h3, ?_⟩
    rw [Array.toList_setIfInBounds, List.take_set, h4]
/-- The front of it, by 's[:k]' or 's[:k:k]'. -/
theorem Row.front {g c : Nat} (h : Row w e size (.slice (some ⟨g, 0, none⟩) n c) n xs) (k c' : Nat) (hk : k ≤ n) (hc : k ≤ c') (hc' : c' ≤ c) : Row w e size (.slice (some ⟨g, 0, none⟩) k c') k (xs.take (k * size)) := by
  rcases h.2 with ⟨hv, _⟩ | ⟨g', cap, cur, hv, hg, h1, h2, h3, h4⟩
  · cases hv
  · cases hv
    refine ⟨?_, .inr ⟨g, c', cur, rfl, hg, hc, by omega, Nat.le_trans (Nat.mul_le_mul_right _ hc') h3, ?_⟩⟩
    · rw [List.length_take, h.1]
      exact Nat.min_eq_left (Nat.mul_le_mul_right _ hk)
    · rw [← h4, List.take_take, Nat.min_eq_left (Nat.mul_le_mul_right _ hk)]
end

/-! ### What a slice reads as, wherever it lies -/
def Src (w : World) (size : Nat) (v : Value) (n : Nat) (xs : List Value) : Prop :=
  xs.length = n * size ∧ ∃ A c, v = .slice A n c ∧ n ≤ c ∧ c ≤ maxLen ∧ (A = none → n = 0 ∧ c = 0) ∧ ∀ a, A = some a → ∀ j u, xs[j]? = some u → w.cell? (a.add j) = some u

section
variable {w w' : World} {e : TypeId} {size n : Nat} {v : Value} {xs : List Value}
theorem block_add (a : Addr) (n : Nat) : (a.add n).block = a.block := by unfold Addr.add; split <;> rfl
theorem add_head (g j : Nat) : (⟨g, 0, none⟩ : Addr).add j = ⟨g, j, none⟩ := by unfold Addr.add; split <;> simp_all
theorem add_lit (g o j : Nat) : (⟨g, o, none⟩ : Addr).add j = ⟨g, o + j, none⟩ := by unfold Addr.add; split <;> simp_all
theorem Src.keep (h : Src w size v n xs) (hk : ∀ a u, w.cell? a = some u → w'.cell? a = some u) : Src w' size v n xs := by
  obtain ⟨h1, A, c, rfl, h2, h3, h4, h5⟩ := h
  exact ⟨h1, A, c, rfl, h2, h3, h4, fun a ha j u hu => hk _ _ (h5 a ha j u hu)⟩
theorem Src.fr {D : Nat → Prop} (h : Src w size v n xs) (hf : Fr D w w') (hn : ∀ k, k < w.heap.size → v.ownBlock = some k → ¬ D k) : Src w' size v n xs := by
  obtain ⟨h1, A, c, rfl, h2, h3, h4, h5⟩ := h
  refine ⟨h1, A, c, rfl, h2, h3, h4, fun a ha j u hu => ?_⟩
  subst ha
  have hc := h5 a rfl j u hu
  refine hf.cell hc ?_
  rw [block_add]
  exact hn _ (by have := World.block_lt_of_cell? w _ hc; rwa [block_add] at this) (by simp [Value.ownBlock])
/-- .. where an empty one asks nothing. -/
theorem Src.frl {D : Nat → Prop} (h : Src w size v n xs) (hf : Fr D w w') (hn : ∀ k, v.ownBlock = some k → 0 < n → ¬ D k) : Src w' size v n xs := by
  rcases Nat.eq_zero_or_pos n with h0 | h0
  · obtain ⟨h1, A, c, rfl, h2, h3, h4, h5⟩ := h
    refine ⟨h1, A, c, rfl, h2, h3, h4, fun a ha j u hu => ?_⟩
    have : xs = [] := List.eq_nil_of_length_eq_zero (by rw [h1, h0, Nat.zero_mul])
    subst this
    simp at hu
  · exact h.fr hf fun k _ hk => hn k hk h0
theorem Row.src (h : Row w e size v n xs) : Src w size v n xs := by
  refine ⟨h.1, ?_⟩
  obtain ⟨A, c, rfl, h1, h2⟩ := h.shape
  refine ⟨A, c, rfl, h1, h2, fun hA => ?_, fun a ha j u hu => ?_⟩
  · subst hA
    rcases h.2 with ⟨h4, h3⟩ | ⟨g, cap, cur, hv, _⟩
    · injection h4 with _ _ h4
      exact ⟨h3, h4⟩
    · cases hv
  · subst ha
    have hn : 0 < n := by
      rcases Nat.eq_zero_or_pos n with h0 | h0
      · subst h0
        have : xs = [] := List.eq_nil_of_length_eq_zero (by simpa using h.1)
        subst this
        simp at hu
      · exact h0
    obtain ⟨g, c', hv, _, _, hcell, _⟩ := h.form hn
    cases hv
    rw [add_head]
    exact hcell j u hu
theorem Src.drew (h : Src w size v n xs) : Src w.drew size v n xs := h
theorem Src.drewN (h : Src w size v n xs) (k : Nat) : Src (w.drewN k) size v n xs := h
theorem Src.alloc (h : Src w size v n xs) (o : Obj) : Src (w.alloc o) size v n xs := h.fr ((Fr.refl (fun _ => False) w).alloc o) fun _ _ _ => id
theorem Src.le (h : Src w size v n xs) : n ≤ 9223372036854775807 := by
  obtain ⟨_, _, _, _, h1, h2, _⟩ := h
  simp only [maxLen] at h2
  omega
theorem Src.nil (w : World) (size : Nat) : Src w size (.slice none 0 0) 0 [] := ⟨by simp, none, 0, rfl, Nat.le_refl _, Nat.zero_le _, fun _ => ⟨rfl, rfl⟩, fun _ h => by cases h⟩
end

/-! ### append -/
section
variable {P : Program} (w : World)
theorem run_append_none (t ty e : TypeId) (i : TypeInfo) (size : Nat) (ht : P.underlying t = some (.slice e)) (hi : P.info? e = some i)
    (v : Value) (n : Nat) (xs : List Value) (hrow : Row w e size v n xs) (c : Nat) : (Builtin.append_ #[t, t] ty #[v, .slice none 0 c]).run P w = .ok v w := by
  rcases hrow.2 with ⟨rfl, rfl⟩ | ⟨g, cap, cur, rfl, _, hnc, _⟩
  · simp [Builtin.append_, run_underlying ht, Go.sizeOf, Go.typeInfo, hi, Builtin.lenOf, Builtin.firstCells]
  · simp [Builtin.append_, run_underlying ht, Go.sizeOf, Go.typeInfo, hi, Builtin.lenOf, Builtin.firstCells, hnc, storeCells]

theorem run_append (t ty e : TypeId) (i : TypeInfo) (z : Value) (size bytes : Nat) (ht : P.underlying t = some (.slice e)) (hi : P.info? e = some i) (hz : i.zero = some z)
    (hsize : i.size = size) (hby : i.bytes = bytes) (hzs : z.cells.size = size) (hsz : 0 < size)
    (v : Value) (n : Nat) (xs : List Value) (hrow : Row w e size v n xs)
    (s : Value) (m : Nat) (news : List Value) (hs : Src w size s m news) (h1 : ∀ u ∈ news, u.oneCell' = true)
    (h63 : n + m ≤ maxLen) (hbytes : (n + m) * bytes ≤ 140737488355328) :
    ∃ v' w', (Builtin.append_ #[t, t] ty #[v, s]).run P w = .ok v' w' ∧ Row w' e size v' (n + m) (xs ++ news) ∧ Fr (fun k => v.ownBlock = some k) w w' ∧
      (v'.ownBlock = v.ownBlock ∨ v'.ownBlock = some w.heap.size) ∧ (m = 0 → v' = v ∨ ∃ k, v'.ownBlock = some k) := by
  obtain ⟨hl, A, c, rfl, hmc, hcm, hA, hcells⟩ := hs
  rcases A with _ | ad
  · obtain ⟨rfl, rfl⟩ := hA rfl
    obtain rfl : news = [] := List.eq_nil_of_length_eq_zero (by simpa using hl)
    exact ⟨v, w, run_append_none w t ty e i size ht hi v n xs hrow 0, by simpa using hrow, Fr.refl _ _, .inl rfl, fun _ => .inl rfl⟩
  · have hcells := hcells ad rfl
    rcases hrow.2 with ⟨rfl, rfl⟩ | ⟨g, cap, cur, rfl, hg, hnc, hcm2, hcs, htake⟩
    · obtain rfl : xs = [] := List.eq_nil_of_length_eq_zero (by simpa using hrow.1)
      obtain ⟨v', w', hrun, h2, h3, _, h5⟩ := run_append_own_at (P := P) w w.heap.size t ty e i z size bytes ht hi hz hsize hby hzs hsz (.slice none 0 0) 0 [] (World.ownsRow_nil w _ e size) ad m c news hl hcells h1 h63 hbytes (Nat.le_refl _)
      exact ⟨v', w', hrun, Row.of_own h2, (Fr.of_grown h3).mono (fun k _ h => h), h5, fun hm => by
        subst hm
        obtain rfl : news = [] := List.eq_nil_of_length_eq_zero (by simpa using hl)
        rcases h5 with h5 | h5
        · rcases h2.2 with ⟨rfl, _⟩ | ⟨g', cap', cur', rfl, _⟩
          · exact .inl rfl
          · exact .inr ⟨_, rfl⟩
        · exact .inr ⟨_, h5⟩⟩
    · have holds : ∀ j u, xs[j]? = some u → w.cell? ⟨g, 0 + j, none⟩ = some u := by
        intro j u hu
        rw [Nat.zero_add, cell_of_row w g j cur e (0, 0) hg]
        rw [← htake, List.getElem?_take] at hu
        split at hu
        · simpa using hu
        · cases hu
      by_cases hr : n + m ≤ cap
      · subst hsize
        have hfit : n * i.size + news.length ≤ cur.size := by
          rw [hl, ← Nat.add_mul]
          exact Nat.le_trans (Nat.mul_le_mul_right _ hr) hcs
        have hrun := run_append_room (P := P) w t ty e i ht hi g n cap cur hg ad m c news hl hcells h1 hr hfit
        refine ⟨_, _, hrun, ⟨by rw [List.length_append, hrow.1, hl, Nat.add_mul], .inr ⟨g, cap, _, rfl, setRow_heap w g cur _ e _ hg, hr, hcm2, ?_, ?_⟩⟩, ⟨rfl, rfl, rfl, by simp, fun k _ hk => setRow_other w g k _ (fun e => hk (by simp [Value.ownBlock, e]))⟩, .inl rfl, fun _ => .inr ⟨g, rfl⟩⟩
        · simp only [List.size_toArray, List.length_append, List.length_take, List.length_drop, Array.length_toList]
          omega
        · rw [htake]
          have hlen : (xs ++ news).length = (n + m) * i.size := by rw [List.length_append, hrow.1, hl, Nat.add_mul]
          rw [← hlen]
          exact List.take_left
      · obtain ⟨v', w', hrun, h2, h3⟩ := run_append_arg_grows (P := P) w t ty e i z size bytes ht hi hz hsize hby hzs hsz ⟨g, 0, none⟩ n cap xs hrow.1 (fun j u hj => by rw [add_lit]; exact holds j u hj) ad m c news hl hcells (by omega) h63 hbytes
        refine ⟨v', w', hrun, Row.of_own h2, (Fr.of_grown h3).mono (fun k _ h => by cases h), ?_, fun hm => by omega⟩
        right
        rcases h2.2 with ⟨_, h0⟩ | ⟨g', cap', cur', rfl, hb', hg', _⟩
        · omega
        · have hh : ∀ k, w.heap.size ≤ k → k < w'.heap.size → k = w.heap.size := by
            intro k h1 h2
            have := run_append_grow (P := P) w t ty e i z ht hi hz ⟨g, 0, none⟩ n cap xs (by rw [hsize]; exact hrow.1) (fun j u hj => by rw [add_lit]; exact holds j u hj) ad m c news (by rw [hsize]; exact hl) hcells (by omega) (by simp only [maxLen] at h63; omega) (by rw [hby]; exact growslice_fits (by omega) hbytes)
            rw [hrun] at this
            injection this with _ hw
            subst hw
            simp at h2
            omega
          have := hh g' hb' (Array.getElem?_eq_some_iff.1 hg').1
          subst this
          rfl
end

/-- append at the operation. -/
theorem wp_append_row {P : Program} (w : World) {o : Oper} {a : Act} {K : Act → World → Prop} {Q : Exit → Act → World → Prop} (s x : Operand) (t : TypeId)
    (ho : o.op = .call { callee := .builtin .append, args := #[s, x], argTypes := #[t, t] })
    (e : TypeId) (i : TypeInfo) (z : Value) (size bytes : Nat) (ht : P.underlying t = some (.slice e)) (hi : P.info? e = some i) (hz : i.zero = some z)
    (hsize : i.size = size) (hby : i.bytes = bytes) (hzs : z.cells.size = size) (hsz : 0 < size)
    (v : Value) (n : Nat) (xs : List Value) (hv : a.eval s = v) (hrow : Row w e size v n xs)
    (sv : Value) (m : Nat) (news : List Value) (hx : a.eval x = sv) (hs : Src w size sv m news) (h1 : ∀ u ∈ news, u.oneCell' = true)
    (h63 : n + m ≤ maxLen) (hbytes : (n + m) * bytes ≤ 140737488355328)
    (h : ∀ v' w', Row w' e size v' (n + m) (xs ++ news) → Fr (fun k => v.ownBlock = some k) w w' → (v'.ownBlock = v.ownBlock ∨ v'.ownBlock = some w.heap.size) → K (a.put o.dst v') w') : o.wp P a w K Q := by
  obtain ⟨v', w', hrun, h2, h3, h4, _⟩ := run_append (P := P) w t o.type e i z size bytes ht hi hz hsize hby hzs hsz v n xs hrow sv m news hs h1 h63 hbytes
  unfold Oper.wp execOp
  simp only [ho, resolve, invoke, builtin, Sem.run_bind, Sem.run_pure, Result.andThen_ok, List.map_toArray, List.map_cons, List.map_nil, hv, hx, hrun]
  exact h v' w' h2 h3 h4

theorem wpList_append_row {P : Program} (w : World) {ops : Array Oper} {rest : List Oper} {o : Oper} {a : Act} {Q : Exit → Act → World → Prop} (hgd : o.guard = none) (s x : Operand) (t : TypeId)
    (ho : o.op = .call { callee := .builtin .append, args := #[s, x], argTypes := #[t, t] })
    (e : TypeId) (i : TypeInfo) (z : Value) (size bytes : Nat) (ht : P.underlying t = some (.slice e)) (hi : P.info? e = some i) (hz : i.zero = some z)
    (hsize : i.size = size) (hby : i.bytes = bytes) (hzs : z.cells.size = size) (hsz : 0 < size)
    (v : Value) (n : Nat) (xs : List Value) (hv : a.eval s = v) (hrow : Row w e size v n xs)
    (sv : Value) (m : Nat) (news : List Value) (hx : a.eval x = sv) (hs : Src w size sv m news) (h1 : ∀ u ∈ news, u.oneCell' = true)
    (h63 : n + m ≤ maxLen) (hbytes : (n + m) * bytes ≤ 140737488355328)
    (h : ∀ v' w', Row w' e size v' (n + m) (xs ++ news) → Fr (fun k => v.ownBlock = some k) w w' → (v'.ownBlock = v.ownBlock ∨ v'.ownBlock = some w.heap.size) → wpList P ops Q rest (a.put o.dst v') w') : wpList P ops Q (o :: rest) a w :=
  wpList_plain hgd fun _ hK => wp_append_row w s x t ho e i z size bytes ht hi hz hsize hby hzs hsz v n xs hv hrow sv m news hx hs h1 h63 hbytes fun v' w' h2 h3 h4 => hK _ _ (h v' w' h2 h3 h4)

theorem step_append_row {P : Program} (w : World) {ops : Array Oper} {o : Oper} {a : Act} {K : Act → World → Prop} {Q : Exit → Act → World → Prop} {E : Prop} (hgd : o.guard = none) (s x : Operand) (t : TypeId)
    (ho : o.op = .call { callee := .builtin .append, args := #[s, x], argTypes := #[t, t] })
    (e : TypeId) (i : TypeInfo) (z : Value) (size bytes : Nat) (ht : P.underlying t = some (.slice e)) (hi : P.info? e = some i) (hz : i.zero = some z)
    (hsize : i.size = size) (hby : i.bytes = bytes) (hzs : z.cells.size = size) (hsz : 0 < size)
    (v : Value) (n : Nat) (xs : List Value) (hv : a.eval s = v) (hrow : Row w e size v n xs)
    (sv : Value) (m : Nat) (news : List Value) (hx : a.eval x = sv) (hs : Src w size sv m news) (h1 : ∀ u ∈ news, u.oneCell' = true)
    (h63 : n + m ≤ maxLen) (hbytes : (n + m) * bytes ≤ 140737488355328)
    (h : ∀ v' w', Row w' e size v' (n + m) (xs ++ news) → Fr (fun k => v.ownBlock = some k) w w' → (v'.ownBlock = v.ownBlock ∨ v'.ownBlock = some w.heap.size) → K (a.put o.dst v') w') :
    if Region.wanted o (yielded ops a.tmps) = true then Oper.wp P o a w K Q else E := by
  have hw : Region.wanted o (yielded ops a.tmps) = true := by simp [Region.wanted, hgd]
  rw [if_pos hw]
  exact wp_append_row w s x t ho e i z size bytes ht hi hz hsize hby hzs hsz v n xs hv hrow sv m news hx hs h1 h63 hbytes h

end Chart

/- The cabinet as plain data: what each call of package cabinet computes. No program in sight. -/
namespace Chart
open Go (bytesBefore)

abbrev Txt := List UInt8

/-- A file: its bytes, and how many of them last. -/
structure FileS where
  all : Txt := []
  sure : Nat := 0
  deriving DecidableEq, Inhabited, Repr

/-- A change of names: 0 made, 1 renamed, 2 removed. -/
structure Chg where
  kind : Nat
  old : Txt
  name : Txt
  file : Nat
  deriving DecidableEq, Inhabited, Repr

/-- Names in order, each with its file's number. -/
abbrev Folder := List (Txt × Nat)

namespace Folder
def ins (k : Txt) (v : Nat) : Folder → Folder
  | [] => [(k, v)]
  | y :: r => if bytesBefore k y.1 then (k, v) :: y :: r else y :: ins k v r
def del (f : Folder) (k : Txt) : Folder := f.filter fun p => !(p.1 == k)
def put (f : Folder) (k : Txt) (v : Nat) : Folder := ins k v (del f k)
def get? (f : Folder) (k : Txt) : Option Nat := (f.find? fun p => p.1 == k).map (·.2)
def keys (f : Folder) : List Txt := f.map (·.1)
def vals (f : Folder) : List Nat := f.map (·.2)
/-- The folder behind a change. -/
def apply (f : Folder) (x : Chg) : Folder :=
  if x.kind = 0 then f.put x.name x.file
  else if x.kind = 1 then (f.del x.old).put x.name ((f.get? x.old).getD 0)
  else if x.kind = 2 then f.del x.name
  else f
end Folder

/-- All that a cabinet is. -/
structure Cab where
  quota : Int
  files : List FileS := []
  now : Folder := []
  sure : Folder := []
  waiting : List Chg := []
  after : Int := -1
  off : Bool := false
  deriving DecidableEq, Inhabited, Repr

namespace Cab
def new (quota : Int) : Cab := { quota }

/-- May it be a file's name? -/
def nameByte (b : UInt8) : Bool := (97 ≤ b && b ≤ 122) || (48 ≤ b && b ≤ 57) || b == 45 || b == 46
def nameOk (s : Txt) : Bool := !s.isEmpty && decide (s.length ≤ 32) && s.all nameByte

def used (c : Cab) : Nat := (c.files.map fun f => f.all.length).foldl (· + ·) 0

/-- Power for a change: the cabinet behind it, and is there any? -/
def spend (c : Cab) : Cab × Int :=
  if c.after = 0 then ({ c with off := true }, 11)
  else if 0 < c.after then ({ c with after := c.after - 1 }, 0)
  else (c, 0)

def rename (c : Cab) (x : Chg) : Cab := { c with now := c.now.apply x, waiting := c.waiting ++ [x] }

def find (c : Cab) (name : Txt) : Nat × Int :=
  if c.off then (0, 11) else match c.now.get? name with | none => (0, 7) | some n => (n, 0)

def create (c : Cab) (name : Txt) : Cab × Int :=
  if c.off then (c, 11)
  else if nameOk name = false then (c, 6)
  else if (c.now.get? name).isSome then (c, 8)
  else if 4096 ≤ c.now.length then (c, 9)
  else
    let s := c.spend
    if s.2 ≠ 0 then s
    else (({ s.1 with files := s.1.files ++ [FileS.mk [] 0] } : Cab).rename ⟨0, [], name, s.1.files.length⟩, 0)

def setFile (c : Cab) (n : Nat) (f : FileS) : Cab := { c with files := c.files.set n f }
def file (c : Cab) (n : Nat) : FileS := c.files.getD n ⟨[], 0⟩

def append (c : Cab) (name b : Txt) : Cab × Int :=
  let r := c.find name
  if r.2 ≠ 0 then (c, r.2)
  else if (b.length : Int) > 1048576 - ((c.file r.1).all.length : Int) then (c, 17)
  else if (b.length : Int) > c.quota - (c.used : Int) then (c, 10)
  else
    let s := c.spend
    if s.2 ≠ 0 then s
    else (s.1.setFile r.1 { s.1.file r.1 with all := (s.1.file r.1).all ++ b }, 0)

def sync (c : Cab) (name : Txt) : Cab × Int :=
  let r := c.find name
  if r.2 ≠ 0 then (c, r.2)
  else
    let s := c.spend
    if s.2 ≠ 0 then s
    else (s.1.setFile r.1 { s.1.file r.1 with sure := (s.1.file r.1).all.length }, 0)

def renameTo (c : Cab) (old name : Txt) : Cab × Int :=
  let r := c.find old
  if r.2 ≠ 0 then (c, r.2)
  else if nameOk name = false then (c, 6)
  else
    let s := c.spend
    if s.2 ≠ 0 then s
    else (s.1.rename ⟨1, old, name, r.1⟩, 0)

def remove (c : Cab) (name : Txt) : Cab × Int :=
  let r := c.find name
  if r.2 ≠ 0 then (c, r.2)
  else
    let s := c.spend
    if s.2 ≠ 0 then s
    else (s.1.rename ⟨2, [], name, r.1⟩, 0)

/-- Files without a name are forgotten. -/
def forget (now : Folder) : Nat → List FileS → List FileS
  | _, [] => []
  | i, f :: r => (if now.vals.contains i then f else ⟨[], 0⟩) :: forget now (i + 1) r

def settle (c : Cab) : Cab := { c with sure := c.now, waiting := [], files := forget c.now 0 c.files }

def turn (c : Cab) : Cab × Int :=
  if c.off then (c, 11)
  else
    let s := c.spend
    if s.2 ≠ 0 then s else (s.1.settle, 0)

def read (c : Cab) (name : Txt) : Txt × Int :=
  let r := c.find name
  if r.2 ≠ 0 then ([], r.2) else ((c.file r.1).all, 0)

def names (c : Cab) : List Txt × Int := if c.off then ([], 11) else (c.now.keys, 0)

def fail (c : Cab) (n : Int) : Cab := { c with after := max n (-1) }

/-- A number from 0 to another one. -/
def part (n most : Int) : Int := max 0 (min n most)

/-- What lasts of a file: so many of the bytes that are not sure, and perhaps a turned one. -/
def cut (f : FileS) (more : Int) (turn : UInt8) : FileS :=
  let e := f.sure + more.toNat
  if turn ≠ 0 ∧ e < f.all.length then ⟨f.all.take e ++ [f.all.getD e 0 ^^^ turn], e + 1⟩
  else ⟨f.all.take e, e⟩

def crashFiles (now : Folder) (keep : List Int) (turn : UInt8) : List Txt → Nat → List FileS → List FileS
  | [], _, fs => fs
  | k :: ks, i, fs =>
    let n := (now.get? k).getD 0
    let f := fs.getD n ⟨[], 0⟩
    let more := if i < keep.length then part (keep.getD i 0) ((f.all.length : Int) - (f.sure : Int)) else 0
    crashFiles now keep turn ks (i + 1) (fs.set n (cut f more turn))

def crash (c : Cab) (names : Int) (keep : List Int) (turn : UInt8) : Cab :=
  let now := (c.waiting.take (part names c.waiting.length).toNat).foldl Folder.apply c.sure
  let files := crashFiles now keep turn now.keys 0 c.files
  { settle { c with now, files } with after := -1, off := false }
end Cab
end Chart

/- A folder in memory: a map from names to numbers that reads as the model's list; its look-ups, stores, deletions. Of whatever program. -/
namespace Chart
open Go Go.RowKit

/-- A text as Go's string. -/
def str (k : Txt) : ByteArray := ⟨k.toArray⟩
theorem str_toList (k : Txt) : (str k).data.toList = k := by simp [str]
theorem str_size (k : Txt) : (str k).size = k.length := by simp [str, ByteArray.size]
theorem str_of (s : ByteArray) : str s.data.toList = s := by cases s; simp [str]
theorem str_inj {a b : Txt} (h : str a = str b) : a = b := by rw [← str_toList a, h, str_toList]
theorem str_ex (s : ByteArray) : ∃ k, s = str k := ⟨s.data.toList, (str_of s).symm⟩

def folderEs (F : Folder) : List (Lit × DataW Unit) := F.map fun p => (.string p.1, .lit (.int .i64 p.2))
def folderD (F : Folder) : DataW Unit := .map (folderEs F)

theorem folderEs_ins (k : Txt) (v : Nat) (F : Folder) : folderEs (F.ins k v) = DataW.insert (.string k, .lit (.int .i64 v)) (folderEs F) := by
  induction F with
  | nil => rfl
  | cons y r ih =>
    have hb : (Lit.string k).before (Lit.string y.1) = bytesBefore k y.1 := rfl
    have e : folderEs (y :: r) = (.string y.1, .lit (.int .i64 y.2)) :: folderEs r := rfl
    rw [e]
    unfold Folder.ins DataW.insert
    by_cases h : bytesBefore k y.1 = true
    · rw [if_pos h, if_pos (by rw [hb]; exact h)]; rfl
    · rw [if_neg h, if_neg (by rw [hb]; exact h), ← ih]; rfl
theorem folderEs_del (k : Txt) (F : Folder) : folderEs (F.del k) = (folderEs F).filter fun p => !p.1.sameKey (.string k) := by
  induction F with
  | nil => rfl
  | cons y r ih =>
    unfold Folder.del folderEs at *
    simp only [List.filter_cons, List.map_cons, Lit.sameKey] at ih ⊢
    split <;> rename_i h
    · rw [List.map_cons, ih]
    · exact ih
theorem folderD_put (k : Txt) (v : Nat) (F : Folder) : (folderD F).put (.string k) (.lit (.int .i64 v)) = folderD (F.put k v) := by
  unfold folderD DataW.put Folder.put
  simp only [folderEs_ins, folderEs_del]
theorem folderD_del (k : Txt) (F : Folder) : (folderD F).del (.string k) = folderD (F.del k) := by
  unfold folderD DataW.del
  simp only [folderEs_del]
theorem folderD_find (k : Txt) (F : Folder) : (folderEs F).find? (fun p => p.1.sameKey (.string k)) = (F.find? fun p => p.1 == k).map fun p => (.string p.1, .lit (.int .i64 p.2)) := by
  induction F with
  | nil => rfl
  | cons y r ih =>
    simp only [folderEs, List.map_cons, List.find?_cons, Lit.sameKey] at ih ⊢
    cases y.1 == k
    · simpa using ih
    · simp
theorem folderD_at (k : Txt) (F : Folder) : (folderD F).atKey (.string k) (.lit (.int .i64 0)) = .lit (.int .i64 ((F.get? k).getD 0 : Nat)) := by
  unfold folderD DataW.atKey Folder.get?
  simp only [folderD_find]
  cases F.find? fun p => p.1 == k <;> rfl
theorem folderD_has (k : Txt) (F : Folder) : Maps.has (folderD F) (.string k) = (F.get? k).isSome := by
  unfold folderD Maps.has Folder.get?
  simp only [folderEs, List.any_map, Function.comp_def, Lit.sameKey, Option.isSome_map]
  induction F with
  | nil => rfl
  | cons y r ih => simp only [List.any_cons, List.find?_cons]; cases y.1 == k <;> simp_all
theorem folderD_size (F : Folder) : Maps.size (folderD F) = F.length := by simp [folderD, Maps.size, folderEs]

/-- Block b is a map that reads as the folder F (k, e: the numbers of string and int). -/
def FolderAt (P : Program) (k e : TypeId) (w : World) (b : Nat) (F : Folder) : Prop := w.ownsMap P k (plainElem P e) b F.length (folderD F)

section
variable {P : Program} {k e : TypeId} {w w' : World} {b : Nat} {F : Folder}
theorem FolderAt.of {n : Nat} (h : w.ownsMap P k (plainElem P e) b n (folderD F)) : FolderAt P k e w b F := by
  obtain ⟨es, clock, hb, hf, _, hD⟩ := h
  refine ⟨es, clock, hb, hf, ?_, hD⟩
  have := congrArg Maps.size hD
  rw [folderD_size] at this
  simp only [Maps.size, length_sorted, List.length_map, Array.length_toList] at this
  omega
theorem FolderAt.lt (h : FolderAt P k e w b F) : b < w.heap.size := World.ownsMap.lt h
theorem FolderAt.keep (h : FolderAt P k e w b F) (hb : ∀ o, w.heap[b]? = some o → w'.heap[b]? = some o) : FolderAt P k e w' b F := by
  obtain ⟨es, clock, hb', hf, h1, hD⟩ := h
  exact ⟨es, clock, hb _ hb', hf, h1, hD⟩
theorem FolderAt.fr {D : Nat → Prop} (h : FolderAt P k e w b F) (hf : Fr D w w') (hn : ¬ D b) : FolderAt P k e w' b F := h.keep fun _ ho => hf.heap ho hn
theorem FolderAt.alloc (h : FolderAt P k e w b F) (o : Obj) : FolderAt P k e (w.alloc o) b F := World.ownsMap.alloc h o
theorem FolderAt.drewN (h : FolderAt P k e w b F) (n : Nat) : FolderAt P k e (w.drewN n) b F := h
theorem FolderAt.drew (h : FolderAt P k e w b F) : FolderAt P k e w.drew b F := h
theorem FolderAt.far (h : FolderAt P k e w b F) {p : Addr} (hp : b ≠ p.block) (u : Value) : FolderAt P k e (w.setCell p u) b F := World.ownsMap.setCell h hp u
theorem FolderAt.made (w : World) : FolderAt P k e (w.alloc (.map #[] 0)) w.heap.size [] := World.ownsMap_made w P k _
theorem key_of (hk : P.underlying k = some .string) (s : Txt) (hs : s.length ≤ maxLen) : keyOf P k (.string (str s)) = some (.string s) := by
  have h := Go.WideMaps.keyOf_string_mk (P := P) (k := k) hk (s := str s) (by rw [str_size]; exact hs)
  rw [str_toList] at h
  exact h
end

theorem FolderAt.look_run {P : Program} {k e t : TypeId} {w : World} {b : Nat} {F : Folder} (h : FolderAt P k e w b F) (hk : P.underlying k = some .string) (ht : P.underlying t = some (.map k e)) (he : P.underlying e = some (.int .i64)) (hz : (zeroValue e).run P w = .ok (.int .i64 0) w) (s : Txt) (hs : s.length ≤ maxLen) :
    (Instr.lookup t (.map (some b)) (.string (str s)) false).run P w = .ok (.int .i64 ((F.get? s).getD 0 : Nat)) w := by
  obtain ⟨c, hrun, hat, _⟩ := World.ownsMap.lookup_int h (Go.Maps.string_keyed hk) ht he hz (key_of hk s hs)
  rw [folderD_at] at hat
  injection hat with hat
  injection hat with _ hat
  subst hat
  exact hrun

section
variable {P : Program} (w : World) {ops : Array Oper} {rest : List Oper} {o : Oper} {a : Act} {Q : Exit → Act → World → Prop}
theorem wpList_look_ok (hg : o.guard = none) (m x : Operand) (t : TypeId) (hop : o.op = Op.lookup t m x true)
    (k e : TypeId) (hk : P.underlying k = some .string) (ht : P.underlying t = some (.map k e)) (he : P.underlying e = some (.int .i64)) (hz : (zeroValue e).run P w = .ok (.int .i64 0) w) (b : Nat) (F : Folder)
    (hm : a.eval m = .map (some b)) (hF : FolderAt P k e w b F) (s : Txt) (hx : a.eval x = .string (str s)) (hs : s.length ≤ maxLen)
    (hK : wpList P ops Q rest (a.put o.dst (.tuple #[.int .i64 ((F.get? s).getD 0 : Nat), .bool (F.get? s).isSome])) w) :
    wpList P ops Q (o :: rest) a w :=
  wpList_lookup_own_ok_int w hg m x t hop k e .i64 (Go.Maps.string_keyed hk) ht he hz b F.length (folderD F) hm hF _ _ hx (key_of hk s hs) fun c hat _ => by
    rw [folderD_at] at hat
    injection hat with hat
    injection hat with _ hat
    subst hat
    rw [folderD_has]
    exact hK
theorem wpList_look (hg : o.guard = none) (m x : Operand) (t : TypeId) (hop : o.op = Op.lookup t m x false)
    (k e : TypeId) (hk : P.underlying k = some .string) (ht : P.underlying t = some (.map k e)) (he : P.underlying e = some (.int .i64)) (hz : (zeroValue e).run P w = .ok (.int .i64 0) w) (b : Nat) (F : Folder)
    (hm : a.eval m = .map (some b)) (hF : FolderAt P k e w b F) (s : Txt) (hx : a.eval x = .string (str s)) (hs : s.length ≤ maxLen)
    (hK : wpList P ops Q rest (a.put o.dst (.int .i64 ((F.get? s).getD 0 : Nat))) w) :
    wpList P ops Q (o :: rest) a w :=
  wpList_lookup_own_int w hg m x t hop k e .i64 (Go.Maps.string_keyed hk) ht he hz b F.length (folderD F) hm hF _ _ hx (key_of hk s hs) fun c hat _ => by
    rw [folderD_at] at hat
    injection hat with hat
    injection hat with _ hat
    subst hat
    exact hK
theorem wpList_put (hg : o.guard = none) (m x v : Operand) (t : TypeId) (hop : o.op = Op.mapUpdate t m x v)
    (k e : TypeId) (hk : P.underlying k = some .string) (ht : P.underlying t = some (.map k e)) (he : P.underlying e = some (.int .i64)) (b : Nat) (F : Folder)
    (hm : a.eval m = .map (some b)) (hF : FolderAt P k e w b F) (hn : F.length < maxLen) (s : Txt) (hx : a.eval x = .string (str s)) (hs : s.length ≤ maxLen) (q : Nat) (hv : a.eval v = .int .i64 q) (hq : (q : Int) ≤ 9223372036854775807)
    (hK : ∀ w', FolderAt P k e w' b (F.put s q) → Fr (· = b) w w' → wpList P ops Q rest (a.put o.dst undef) w') :
    wpList P ops Q (o :: rest) a w :=
  wpList_mapUpdate_own w hg m x v t hop k e (Go.Maps.string_keyed hk) ht (plainElem P e) b F.length (folderD F) hm hF hn _ _ _ hx hv (key_of hk s hs) _ [] (plainElem_int he (WalkArith.wf_i64 (by omega))) fun w' h1 h2 => by
    rw [folderD_put] at h1
    exact hK w' (FolderAt.of h1) ((Fr.of_grown h2).mono fun i _ h => by simpa using h.symm)
theorem wpList_del (hg : o.guard = none) (m x : Operand) (t k : TypeId) (hop : o.op = Op.call { callee := Callee.builtin Builtin.delete, args := #[m, x], argTypes := #[t, k] })
    (e : TypeId) (hk : P.underlying k = some .string) (ht : P.underlying t = some (.map k e)) (b : Nat) (F : Folder)
    (hm : a.eval m = .map (some b)) (hF : FolderAt P k e w b F) (s : Txt) (hx : a.eval x = .string (str s)) (hs : s.length ≤ maxLen)
    (hK : ∀ w', FolderAt P k e w' b (F.del s) → Fr (· = b) w w' → wpList P ops Q rest (a.put o.dst (.tuple #[])) w') :
    wpList P ops Q (o :: rest) a w :=
  wpList_delete_own w hg m x t k hop e (Go.Maps.string_keyed hk) ht (plainElem P e) b F.length (folderD F) hm hF _ _ hx (key_of hk s hs) fun w' h1 h2 => by
    rw [folderD_del] at h1
    exact hK w' (FolderAt.of h1) ((Fr.of_grown h2.grown).mono fun i _ h => by simpa using h.symm)
theorem wpList_size (hg : o.guard = none) (m : Operand) (t : TypeId) (hop : o.op = Op.call { callee := Callee.builtin Builtin.len, args := #[m], argTypes := #[t] })
    (k e : TypeId) (ht : P.underlying t = some (.map k e)) (b : Nat) (F : Folder) (hm : a.eval m = .map (some b)) (hF : FolderAt P k e w b F)
    (hK : wpList P ops Q rest (a.put o.dst (.int .i64 (F.length : Nat))) w) :
    wpList P ops Q (o :: rest) a w :=
  wpList_len_own w hg m t hop k e ht (plainElem P e) b F.length (folderD F) hm hF (by rw [folderD_size]; exact hK)
end
end Chart

/- The cabinet in memory: which blocks hold what the model says. -/
namespace Chart
open Go Go.RowKit Go.Proofs



def bv (b : UInt8) : Value := .int .u8 b.toNat
def bytesV (l : Txt) : List Value := l.map bv
theorem bytesV_length (l : Txt) : (bytesV l).length = l.length := by simp [bytesV]
theorem bytesV_append (a b : Txt) : bytesV (a ++ b) = bytesV a ++ bytesV b := by simp [bytesV]
theorem bytesV_take (l : Txt) (n : Nat) : (bytesV l).take n = bytesV (l.take n) := by simp [bytesV, List.map_take]
theorem bytesV_one (l : Txt) : ∀ u ∈ bytesV l, u.oneCell' = true := by
  intro u hu
  simp only [bytesV, List.mem_map] at hu
  obtain ⟨b, _, rfl⟩ := hu
  rfl
/-- A slice of bytes of the program's own. -/
abbrev Bytes (w : World) (v : Value) (l : Txt) : Prop := Row w 5 1 v l.length (bytesV l)
/-- A slice of bytes that is read. -/
abbrev BytesSrc (w : World) (v : Value) (l : Txt) : Prop := Src w 1 v l.length (bytesV l)

def fileCells : List Value → List FileS → List Value
  | v :: vs, f :: fs => v :: .int .i64 f.sure :: fileCells vs fs
  | _, _ => []
def chgCells : List Chg → List Value
  | [] => []
  | x :: r => .int .i64 x.kind :: .string (str x.old) :: .string (str x.name) :: .int .i64 x.file :: chgCells r

abbrev FolderIn (w : World) (b : Nat) (F : Folder) : Prop := FolderAt Tryd.prog 9 3 w b F

structure CabIn (w : World) (p : Nat) (c : Cab) (fv : Value) (avs : List Value) (nb sb : Nat) (wv : Value) : Prop where
  blk : Blk w p 81 #[.int .i64 c.quota, fv, .map (some nb), .map (some sb), wv, .int .i64 c.after, .bool c.off]
  files : Row w 102 2 fv c.files.length (fileCells avs c.files)
  len : avs.length = c.files.length
  bytes : ∀ (i : Nat) (f : FileS), c.files[i]? = some f → ∃ v, avs[i]? = some v ∧ Bytes w v f.all
  apart : ∀ (i j : Nat) (v u : Value) (k : Nat), avs[i]? = some v → avs[j]? = some u → i ≠ j → v.ownBlock = some k → u.ownBlock ≠ some k
  now : FolderIn w nb c.now
  sure : FolderIn w sb c.sure
  two : nb ≠ sb
  waiting : Row w 94 4 wv c.waiting.length (chgCells c.waiting)

/-- The blocks that a cabinet has. -/
def CabOwn (p : Nat) (fv : Value) (avs : List Value) (nb sb : Nat) (wv : Value) (k : Nat) : Prop :=
  k = p ∨ fv.ownBlock = some k ∨ (∃ v ∈ avs, v.ownBlock = some k) ∨ k = nb ∨ k = sb ∨ wv.ownBlock = some k

def CabAt (w : World) (p : Nat) (c : Cab) (D : Nat → Prop) : Prop :=
  ∃ fv avs nb sb wv, CabIn w p c fv avs nb sb wv ∧ (∀ k, CabOwn p fv avs nb sb wv k → D k) ∧ ∀ k, D k → k < w.heap.size

/-- What a call on a cabinet leaves. -/
structure After (w : World) (D : Nat → Prop) (p : Nat) (c : Cab) (D' : Nat → Prop) (w' : World) : Prop where
  at_ : CabAt w' p c D'
  fr : Fr D w w'
  new : ∀ k, D' k → D k ∨ w.heap.size ≤ k

section
variable {w w' : World} {p : Nat} {c : Cab} {fv : Value} {avs : List Value} {nb sb : Nat} {wv : Value} {D : Nat → Prop}
theorem CabIn.fr {E : Nat → Prop} (h : CabIn w p c fv avs nb sb wv) (hf : Fr E w w') (hn : ∀ k, CabOwn p fv avs nb sb wv k → ¬ E k) : CabIn w' p c fv avs nb sb wv where
  blk := h.blk.fr hf (hn p (.inl rfl))
  files := h.files.fr hf fun k hk => hn k (.inr (.inl hk))
  len := h.len
  bytes := fun i f hi => by
    obtain ⟨v, hv, hr⟩ := h.bytes i f hi
    exact ⟨v, hv, hr.fr hf fun k hk => hn k (.inr (.inr (.inl ⟨v, List.mem_of_getElem? hv, hk⟩)))⟩
  apart := h.apart
  now := h.now.fr hf (hn nb (.inr (.inr (.inr (.inl rfl)))))
  sure := h.sure.fr hf (hn sb (.inr (.inr (.inr (.inr (.inl rfl))))))
  two := h.two
  waiting := h.waiting.fr hf fun k hk => hn k (.inr (.inr (.inr (.inr (.inr hk)))))
theorem CabIn.lt (h : CabIn w p c fv avs nb sb wv) : ∀ k, CabOwn p fv avs nb sb wv k → k < w.heap.size := by
  rintro k (rfl | hk | ⟨v, hv, hk⟩ | rfl | rfl | hk)
  · exact h.blk.lt
  · exact h.files.lt hk
  · obtain ⟨i, hi⟩ := List.getElem?_of_mem hv
    have hlt : i < c.files.length := by
      have := (List.getElem?_eq_some_iff.1 hi).1
      have := h.len
      omega
    obtain ⟨u, hu, hr⟩ := h.bytes i _ (List.getElem?_eq_getElem hlt)
    rw [hi] at hu
    cases hu
    exact hr.lt hk
  · exact h.now.lt
  · exact h.sure.lt
  · exact h.waiting.lt hk
theorem CabAt.fr {E : Nat → Prop} (h : CabAt w p c D) (hf : Fr E w w') (hn : ∀ k, D k → ¬ E k) : CabAt w' p c D := by
  obtain ⟨fv, avs, nb, sb, wv, h1, h2, h3⟩ := h
  exact ⟨fv, avs, nb, sb, wv, h1.fr hf fun k hk => hn k (h2 k hk), h2, fun k hk => Nat.lt_of_lt_of_le (h3 k hk) hf.size⟩
theorem After.same (h : CabAt w p c D) : After w D p c D w := ⟨h, Fr.refl _ _, fun _ h => .inl h⟩
theorem After.trans {w1 w2 : World} {D1 D2 : Nat → Prop} {c1 c2 : Cab} (h : After w D p c1 D1 w1) (k : After w1 D1 p c2 D2 w2) : After w D p c2 D2 w2 :=
  ⟨k.at_, h.fr.trans k.fr h.new, fun i hi => by
    rcases k.new i hi with hi | hi
    · exact h.new i hi
    · exact .inr (Nat.le_trans h.fr.size hi)⟩
theorem CabAt.drew (h : CabAt w p c D) : CabAt w.drew p c D := h.fr ((Fr.refl (fun _ => False) w).drew) fun _ _ => id
theorem CabAt.drewN (h : CabAt w p c D) (n : Nat) : CabAt (w.drewN n) p c D := h.fr ((Fr.refl (fun _ => False) w).drewN n) fun _ _ => id
theorem After.drew {D' : Nat → Prop} (h : After w D p c D' w') : After w D p c D' w'.drew := ⟨h.at_.drew, h.fr.drew, h.new⟩
theorem After.drewN {D' : Nat → Prop} (h : After w D p c D' w') (n : Nat) : After w D p c D' (w'.drewN n) := ⟨h.at_.drewN n, h.fr.drewN n, h.new⟩
/-- The struct's cells. -/
theorem CabIn.cells (h : CabIn w p c fv avs nb sb wv) : w.cell? ⟨p, 0, none⟩ = some (.int .i64 c.quota) ∧ w.cell? ⟨p, 1, none⟩ = some fv ∧ w.cell? ⟨p, 2, none⟩ = some (.map (some nb)) ∧
    w.cell? ⟨p, 3, none⟩ = some (.map (some sb)) ∧ w.cell? ⟨p, 4, none⟩ = some wv ∧ w.cell? ⟨p, 5, none⟩ = some (.int .i64 c.after) ∧ w.cell? ⟨p, 6, none⟩ = some (.bool c.off) := by
  refine ⟨?_, ?_, ?_, ?_, ?_, ?_, ?_⟩ <;> rw [h.blk.cell] <;> rfl
end

/-- What holds of every cabinet that the calls make: numbers within their kinds. -/
structure Cab.Ok (c : Cab) : Prop where
  quota0 : 1 ≤ c.quota
  quota1 : c.quota ≤ 1073741824
  after0 : -1 ≤ c.after
  after1 : c.after ≤ 9223372036854775807
  files : c.files.length ≤ 1000000
  waiting : c.waiting.length ≤ 1000000
  now : c.now.length ≤ 2000000
  all : ∀ f ∈ c.files, f.all.length ≤ 1048576 ∧ f.sure ≤ f.all.length
  nows : ∀ x ∈ c.now, x.2 < c.files.length ∧ x.1.length ≤ 32
end Chart

/- Bytes as a text. -/
namespace Chart
open Go Go.RowKit Go.Proofs

theorem CabAt.below {w : World} {p : Nat} {c : Cab} {D : Nat → Prop} (h : CabAt w p c D) {k : Nat} (hk : D k) : k < w.heap.size := by
  obtain ⟨_, _, _, _, _, _, _, h3⟩ := h
  exact h3 k hk
theorem Src.marked (w : World) (e : TypeId) (cs : Array Value) (fr : Nat × Nat) (n : Nat) (hn : cs.size = n) (hm : n ≤ maxLen) : Src (w.alloc (.cells cs e fr)) 1 (.slice (some ⟨w.heap.size, 0, none⟩) n n) n cs.toList := by
  refine ⟨by simp [hn], _, _, rfl, Nat.le_refl _, hm, (fun h => nomatch h), fun a ha j u hu => ?_⟩
  injection ha with ha
  subst ha
  rw [add_head, World.cell?_alloc_mark]
  simpa using hu
theorem text_of {w : World} {v : Value} {l : Txt} (h : BytesSrc w v l) : (convert 35 9 v).run Tryd.prog w = .ok (.string (str l)) w := by
  obtain ⟨_, A, c, rfl, _, _, hA, hc⟩ := h
  cases A with
  | none =>
    obtain ⟨h0, rfl⟩ := hA rfl
    obtain rfl : l = [] := List.eq_nil_of_length_eq_zero h0
    exact Lib.run_convert_nil_bytes w _ _ 5 0 Tryd.underlying35 Tryd.underlying5 Tryd.underlying9
  | some a =>
    refine run_convert_bytes_back w _ _ 5 a c l Tryd.underlying35 Tryd.underlying5 Tryd.underlying9 fun j hj => hc a rfl j _ ?_
    unfold bytesV
    rw [List.getElem?_map, List.getElem?_eq_getElem hj]
    rfl
end Chart

/- Segments as plain data: numbers as letters, bytes of a number, check sums, frames. No program in sight. -/
namespace Chart

/-- The sign of a digit of 32. -/
def ranked (k : Nat) : UInt8 := if k < 10 then UInt8.ofNat (48 + k) else UInt8.ofNat (87 + k)
/-- 13 digits, the highest first. -/
def digits : Nat → Nat → Txt
  | 0, _ => []
  | k + 1, n => ranked (n / 32 ^ k % 32) :: digits k n
def numberT (n : Nat) : Txt := digits 13 n
theorem digits_length (k n : Nat) : (digits k n).length = k := by
  induction k with
  | zero => rfl
  | succ k ih => simp [digits, ih]
theorem numberT_length (n : Nat) : (numberT n).length = 13 := digits_length 13 n
/-- So many bytes of a number, the highest first. -/
def be : Nat → Nat → Txt
  | 0, _ => []
  | k + 1, n => UInt8.ofNat (n / 256 ^ k % 256) :: be k n
theorem be_length (k n : Nat) : (be k n).length = k := by
  induction k with
  | zero => rfl
  | succ k ih => simp [be, ih]
def segName (n : Nat) : Txt := 106 :: numberT n
end Chart

/- alpha.Number, segment.Name. -/
namespace Chart
open Go Go.RowKit Go.Proofs

theorem u64_and31 (x : Nat) (hx : x < 18446744073709551616) : bits BinOp.and IntKind.u64 (x : Int) 31 = ((x % 32 : Nat) : Int) := by
  have := bits_and_u64_nat x 31 hx (by decide)
  rw [nat_mask5] at this
  exact this
def sixteen2 : ByteArray := { data := #[48, 49, 50, 51, 52, 53, 54, 55, 56, 57, 97, 98, 99, 100, 101, 102, 103, 104, 105, 106, 107, 108, 109, 110, 111, 112, 113, 114, 115, 116, 117, 118] }
theorem ranked_get : ∀ (d : Fin 32), sixteen2[(d : Nat)]'(d.2) = ranked d := by decide
def numCells (n k : Nat) : Array Value := ((List.range 13).map fun i => if i < k then bv (ranked (n / 32 ^ (12 - i) % 32)) else Value.int .u8 0).toArray
theorem numCells_get (n k : Nat) (h : k < 13) : (numCells n k)[k]? = some (.int .u8 0) := by
  simp [numCells, h]
theorem numCells_set (n k : Nat) (h : k < 13) : (numCells n k).setIfInBounds k (bv (ranked (n / 32 ^ (12 - k) % 32))) = numCells n (k + 1) := by
  unfold numCells
  apply Array.ext_getElem?
  intro i
  rw [Array.getElem?_setIfInBounds]
  simp only [List.size_toArray, List.length_map, List.length_range, List.getElem?_toArray, List.getElem?_map]
  by_cases hik : k = i
  · subst hik
    rw [if_pos rfl, if_pos h, List.getElem?_range h]
    simp
  · rw [if_neg hik]
    by_cases hi : i < 13
    · rw [List.getElem?_range hi]
      simp only [Option.map_some]
      congr 1
      by_cases hlt : i < k
      · rw [if_pos hlt, if_pos (by omega)]
      · rw [if_neg hlt, if_neg (by omega)]
    · rw [List.getElem?_eq_none (by simp; omega)]
      rfl
theorem digits_range (k n : Nat) : digits k n = (List.range k).map fun i => ranked (n / 32 ^ (k - 1 - i) % 32) := by
  induction k with
  | zero => rfl
  | succ k ih =>
    rw [digits, ih, List.range_succ_eq_map, List.map_cons, List.map_map]
    congr 1
    refine List.map_congr_left fun i _ => ?_
    simp only [Function.comp]
    congr 4
    omega
theorem numCells_all (n : Nat) : (numCells n 13).toList = bytesV (numberT n) := by
  unfold numCells numberT bytesV
  rw [digits_range, List.map_map]
  refine List.map_congr_left fun i hi => ?_
  rw [List.mem_range] at hi
  rw [if_pos hi]
  rfl
set_option maxRecDepth 100000 in
set_option maxHeartbeats 1000000 in
theorem number_calls (n : Nat) (w : World) (hn : n < 18446744073709551616) :
    Calls Tryd.prog 62 #[.int .u64 n] w fun e w' => e = .returned (.string (str (numberT n))) ∧ Fr (fun _ => False) w w' := by
  go_enter Tryd.func62, Tryd.ntmps62
  go_wp2
  go_loopw [5] (fun i wr => ∃ k : Nat, k ≤ 13 ∧ i = .int .i64 k ∧ wr = w.alloc (.cells (numCells n k) 140)) (fun i _ => 13 - (RowKit.intOf i).toNat)
  case atStart => exact ⟨0, Nat.zero_le _, rfl, rfl⟩
  case round =>
    obtain ⟨k, hk, rfl, rfl⟩ := hrel
    by_cases hlt : k < 13
    · have hd : n / 32 ^ (12 - k) % 32 < 32 := Nat.mod_lt _ (by decide)
      have hb : bits BinOp.and IntKind.u64 ((n : Int) / 2 ^ (5 * (12 - k))) 31 = ((n / 32 ^ (12 - k) % 32 : Nat) : Int) := by
        have e : ((n : Int) / 2 ^ (5 * (12 - k))) = ((n / 32 ^ (12 - k) : Nat) : Int) := by
          rw [show (2 : Int) ^ (5 * (12 - k)) = ((2 ^ (5 * (12 - k)) : Nat) : Int) by norm_cast, Nat.pow_mul]
          norm_cast
        rw [e, u64_and31 _ (Nat.lt_of_le_of_lt (Nat.div_le_self _ _) hn)]
      have hs := numCells_set n k hlt
      have hc := numCells_get n k hlt
      obtain ⟨v, hv⟩ : ∃ v, v = bv (ranked (n / 32 ^ (12 - k) % 32)) := ⟨_, rfl⟩
      generalize n / 32 ^ (12 - k) % 32 = d at *
      have hr := ranked_get ⟨d, hd⟩
      simp only [sixteen2] at hr
      have HV := Lib.hid hv
      have HS := Lib.hid hs
      clear hv hs
      go_wp2
      refine ⟨⟨k + 1, by omega, by go_num, ?_⟩, by simp [RowKit.intOf]; omega⟩
      rw [← HS.out]
      rfl
    · obtain rfl : k = 13 := by omega
      have hT : BytesSrc (w.alloc (.cells (numCells n 13) 140)) (.slice (some ⟨w.heap.size, 0, none⟩) 13 13) (numberT n) := by
        have := Src.marked w 140 (numCells n 13) (0, 0) 13 (by simp [numCells]) (by decide)
        rw [numCells_all] at this
        unfold BytesSrc
        rw [numberT_length]
        exact this
      have kt := text_of hT
      go_wp2
      go_ret
      exact ⟨rfl, (Fr.refl _ _).alloc _⟩

theorem str_app (a b : Txt) : str (a ++ b) = str a ++ str b := by
  apply ByteArray.ext
  simp [str]
set_option maxHeartbeats 1000000 in
theorem segname_calls (n : Nat) (w : World) (hn : n < 18446744073709551616) :
    Calls Tryd.prog 32 #[.int .u64 n] w fun e w' => e = .returned (.string (str (segName n))) ∧ Fr (fun _ => False) w w' := by
  have HN := Lib.hid (fun w => number_calls n w hn)
  go_enter Tryd.func32, Tryd.ntmps32
  go_wp2_with (go_at_call 62; refine (HN.out _).mono ?_; rintro e w1 ⟨rfl, f1⟩)
  go_ret
  exact ⟨by rw [show segName n = [106] ++ numberT n from rfl, str_app]; rfl, f1⟩
end Chart
