/- The cabinet in memory: which blocks hold what the model says. -/
import Derived.Test.YtophgamjhngppaaDoorFolder
import Derived.Test.YtophgamjhngppaaDoorProg
import Derived.Lib.Hide
namespace Chart
open Go Go.RowKit Go.Proofs



def bv (b : UInt8) : Value := .int .u8 b.toNat
def bytesV (l : Txt) : List Value := l.map bv
theorem bytesV_length (l : Txt) : (bytesV l).length = l.length := by simp [bytesV]
theorem bytesV_append (a b : Txt) : bytesV (a ++ b) = bytesV a ++ bytesV b := by simp [bytesV]
theorem bytesV_take (l : Txt) (n : Nat) : (bytesV l).take n = bytesV (l.take n) := by simp [bytesV, List.map_take]
theorem bytesV_one (l : Txt) : ∀ u ∈ bytesV l, u.oneCell' = true := by
  intro u hu
  simp only [bytesV, List.mem_map] at hu
  obtain ⟨b, _, rfl⟩ := hu
  rfl
/-- A slice of bytes of the program's own. -/
abbrev Bytes (w : World) (v : Value) (l : Txt) : Prop := Row w 5 1 v l.length (bytesV l)
/-- A slice of bytes that is read. -/
abbrev BytesSrc (w : World) (v : Value) (l : Txt) : Prop := Src w 1 v l.length (bytesV l)

def fileCells : List Value → List FileS → List Value
  | v :: vs, f :: fs => v :: .int .i64 f.sure :: fileCells vs fs
  | _, _ => []
def chgCells : List Chg → List Value
  | [] => []
  | x :: r => .int .i64 x.kind :: .string (str x.old) :: .string (str x.name) :: .int .i64 x.file :: chgCells r

abbrev FolderIn (w : World) (b : Nat) (F : Folder) : Prop := FolderAt Tryd.prog 9 3 w b F

structure CabIn (w : World) (p : Nat) (c : Cab) (fv : Value) (avs : List Value) (nb sb : Nat) (wv : Value) : Prop where
  blk : Blk w p 81 #[.int .i64 c.quota, fv, .map (some nb), .map (some sb), wv, .int .i64 c.after, .bool c.off]
  files : Row w 102 2 fv c.files.length (fileCells avs c.files)
  len : avs.length = c.files.length
  bytes : ∀ (i : Nat) (f : FileS), c.files[i]? = some f → ∃ v, avs[i]? = some v ∧ Bytes w v f.all
  apart : ∀ (i j : Nat) (v u : Value) (k : Nat), avs[i]? = some v → avs[j]? = some u → i ≠ j → v.ownBlock = some k → u.ownBlock ≠ some k
  now : FolderIn w nb c.now
  sure : FolderIn w sb c.sure
  two : nb ≠ sb
  waiting : Row w 94 4 wv c.waiting.length (chgCells c.waiting)

/-- The blocks that a cabinet has. -/
def CabOwn (p : Nat) (fv : Value) (avs : List Value) (nb sb : Nat) (wv : Value) (k : Nat) : Prop :=
  k = p ∨ fv.ownBlock = some k ∨ (∃ v ∈ avs, v.ownBlock = some k) ∨ k = nb ∨ k = sb ∨ wv.ownBlock = some k

def CabAt (w : World) (p : Nat) (c : Cab) (D : Nat → Prop) : Prop :=
  ∃ fv avs nb sb wv, CabIn w p c fv avs nb sb wv ∧ (∀ k, CabOwn p fv avs nb sb wv k → D k) ∧ ∀ k, D k → k < w.heap.size

/-- What a call on a cabinet leaves. -/
structure After (w : World) (D : Nat → Prop) (p : Nat) (c : Cab) (D' : Nat → Prop) (w' : World) : Prop where
  at_ : CabAt w' p c D'
  fr : Fr D w w'
  new : ∀ k, D' k → D k ∨ w.heap.size ≤ k

section
variable {w w' : World} {p : Nat} {c : Cab} {fv : Value} {avs : List Value} {nb sb : Nat} {wv : Value} {D : Nat → Prop}
theorem CabIn.fr {E : Nat → Prop} (h : CabIn w p c fv avs nb sb wv) (hf : Fr E w w') (hn : ∀ k, CabOwn p fv avs nb sb wv k → ¬ E k) : CabIn w' p c fv avs nb sb wv where
  blk := h.blk.fr hf (hn p (.inl rfl))
  files := h.files.fr hf fun k hk => hn k (.inr (.inl hk))
  len := h.len
  bytes := fun i f hi => by
    obtain ⟨v, hv, hr⟩ := h.bytes i f hi
    exact ⟨v, hv, hr.fr hf fun k hk => hn k (.inr (.inr (.inl ⟨v, List.mem_of_getElem? hv, hk⟩)))⟩
  apart := h.apart
  now := h.now.fr hf (hn nb (.inr (.inr (.inr (.inl rfl)))))
  sure := h.sure.fr hf (hn sb (.inr (.inr (.inr (.inr (.inl rfl))))))
  two := h.two
  waiting := h.waiting.fr hf fun k hk => hn k (.inr (.inr (.inr (.inr (.inr hk)))))
theorem CabIn.lt (h : CabIn w p c fv avs nb sb wv) : ∀ k, CabOwn p fv avs nb sb wv k → k < w.heap.size := by
  rintro k (rfl | hk | ⟨v, hv, hk⟩ | rfl | rfl | hk)
  · exact h.blk.lt
  · exact h.files.lt hk
  · obtain ⟨i, hi⟩ := List.getElem?_of_mem hv
    have hlt : i < c.files.length := by
      have := (List.getElem?_eq_some_iff.1 hi).1
      have := h.len
      omega
    obtain ⟨u, hu, hr⟩ := h.bytes i _ (List.getElem?_eq_getElem hlt)
    rw [hi] at hu
    cases hu
    exact hr.lt hk
  · exact h.now.lt
  · exact h.sure.lt
  · exact h.waiting.lt hk
theorem CabAt.fr {E : Nat → Prop} (h : CabAt w p c D) (hf : Fr E w w') (hn : ∀ k, D k → ¬ E k) : CabAt w' p c D := by
  obtain ⟨fv, avs, nb, sb, wv, h1, h2, h3⟩ := h
  exact ⟨fv, avs, nb, sb, wv, h1.fr hf fun k hk => hn k (h2 k hk), h2, fun k hk => Nat.lt_of_lt_of_le (h3 k hk) hf.size⟩
theorem After.same (h : CabAt w p c D) : After w D p c D w := ⟨h, Fr.refl _ _, fun _ h => .inl h⟩
theorem After.trans {w1 w2 : World} {D1 D2 : Nat → Prop} {c1 c2 : Cab} (h : After w D p c1 D1 w1) (k : After w1 D1 p c2 D2 w2) : After w D p c2 D2 w2 :=
  ⟨k.at_, h.fr.trans k.fr h.new, fun i hi => by
    rcases k.new i hi with hi | hi
    · exact h.new i hi
    · exact .inr (Nat.le_trans h.fr.size hi)⟩
theorem CabAt.drew (h : CabAt w p c D) : CabAt w.drew p c D := h.fr ((Fr.refl (fun _ => False) w).drew) fun _ _ => id
theorem CabAt.drewN (h : CabAt w p c D) (n : Nat) : CabAt (w.drewN n) p c D := h.fr ((Fr.refl (fun _ => False) w).drewN n) fun _ _ => id
theorem After.drew {D' : Nat → Prop} (h : After w D p c D' w') : After w D p c D' w'.drew := ⟨h.at_.drew, h.fr.drew, h.new⟩
theorem After.drewN {D' : Nat → Prop} (h : After w D p c D' w') (n : Nat) : After w D p c D' (w'.drewN n) := ⟨h.at_.drewN n, h.fr.drewN n, h.new⟩
/-- The struct's cells. -/
theorem CabIn.cells (h : CabIn w p c fv avs nb sb wv) : w.cell? ⟨p, 0, none⟩ = some (.int .i64 c.quota) ∧ w.cell? ⟨p, 1, none⟩ = some fv ∧ w.cell? ⟨p, 2, none⟩ = some (.map (some nb)) ∧
    w.cell? ⟨p, 3, none⟩ = some (.map (some sb)) ∧ w.cell? ⟨p, 4, none⟩ = some wv ∧ w.cell? ⟨p, 5, none⟩ = some (.int .i64 c.after) ∧ w.cell? ⟨p, 6, none⟩ = some (.bool c.off) := by
  refine ⟨?_, ?_, ?_, ?_, ?_, ?_, ?_⟩ <;> rw [h.blk.cell] <;> rfl
end

/-- What holds of every cabinet that the calls make: numbers within their kinds. -/
structure Cab.Ok (c : Cab) : Prop where
  quota0 : 1 ≤ c.quota
  quota1 : c.quota ≤ 1073741824
  after0 : -1 ≤ c.after
  after1 : c.after ≤ 9223372036854775807
  files : c.files.length ≤ 1000000
  waiting : c.waiting.length ≤ 1000000
  now : c.now.length ≤ 2000000
  all : ∀ f ∈ c.files, f.all.length ≤ 1048576 ∧ f.sure ≤ f.all.length
  nows : ∀ x ∈ c.now, x.2 < c.files.length ∧ x.1.length ≤ 32
end Chart
