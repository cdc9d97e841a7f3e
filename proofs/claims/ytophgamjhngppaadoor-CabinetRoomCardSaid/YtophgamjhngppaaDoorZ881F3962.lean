import GoSem.ClaimWide
import Derived.Below
import Derived.Laws.OwnMore
import Derived.Deep.AppendLies
import Derived.Deep.Draws
import Derived.Maps.Own
import Derived.Maps.OwnSet
import Derived.OwnWalk
import Derived.ArgAppend
import Derived.Laws.Rows
import Derived.RegionTactic
import Derived.WalkKit
import Derived.Maps.OwnOps
import Derived.MapViews
import Derived.StringKeys
/- The cabinet as plain data: what each call of package cabinet computes. No program in sight. -/
namespace Chart
open Go (bytesBefore)

abbrev Txt := List UInt8

/-- A file: its bytes, and how many of them last. -/
structure FileS where
  all : Txt := []
  sure : Nat := 0
  deriving DecidableEq, Inhabited, Repr

/-- A change of names: 0 made, 1 renamed, 2 removed. -/
structure Chg where
  kind : Nat
  old : Txt
  name : Txt
  file : Nat
  deriving DecidableEq, Inhabited, Repr

/-- Names in order, each with its file's number. -/
abbrev Folder := List (Txt × Nat)

namespace Folder
def ins (k : Txt) (v : Nat) : Folder → Folder
  | [] => [(k, v)]
  | y :: r => if bytesBefore k y.1 then (k, v) :: y :: r else y :: ins k v r
def del (f : Folder) (k : Txt) : Folder := f.filter fun p => !(p.1 == k)
def put (f : Folder) (k : Txt) (v : Nat) : Folder := ins k v (del f k)
def get? (f : Folder) (k : Txt) : Option Nat := (f.find? fun p => p.1 == k).map (·.2)
def keys (f : Folder) : List Txt := f.map (·.1)
def vals (f : Folder) : List Nat := f.map (·.2)
/-- The folder behind a change. -/
def apply (f : Folder) (x : Chg) : Folder :=
  if x.kind = 0 then f.put x.name x.file
  else if x.kind = 1 then (f.del x.old).put x.name ((f.get? x.old).getD 0)
  else if x.kind = 2 then f.del x.name
  else f
end Folder

/-- All that a cabinet is. -/
structure Cab where
  quota : Int
  files : List FileS := []
  now : Folder := []
  sure : Folder := []
  waiting : List Chg := []
  after : Int := -1
  off : Bool := false
  deriving DecidableEq, Inhabited, Repr

namespace Cab
def new (quota : Int) : Cab := { quota }

/-- May it be a file's name? -/
def nameByte (b : UInt8) : Bool := (97 ≤ b && b ≤ 122) || (48 ≤ b && b ≤ 57) || b == 45 || b == 46
def nameOk (s : Txt) : Bool := !s.isEmpty && decide (s.length ≤ 32) && s.all nameByte

def used (c : Cab) : Nat := (c.files.map fun f => f.all.length).foldl (· + ·) 0

/-- Power for a change: the cabinet behind it, and is there any? -/
def spend (c : Cab) : Cab × Int :=
  if c.after = 0 then ({ c with off := true }, 11)
  else if 0 < c.after then ({ c with after := c.after - 1 }, 0)
  else (c, 0)

def rename (c : Cab) (x : Chg) : Cab := { c with now := c.now.apply x, waiting := c.waiting ++ [x] }

def find (c : Cab) (name : Txt) : Nat × Int :=
  if c.off then (0, 11) else match c.now.get? name with | none => (0, 7) | some n => (n, 0)

def create (c : Cab) (name : Txt) : Cab × Int :=
  if c.off then (c, 11)
  else if nameOk name = false then (c, 6)
  else if (c.now.get? name).isSome then (c, 8)
  else if 4096 ≤ c.now.length then (c, 9)
  else
    let s := c.spend
    if s.2 ≠ 0 then s
    else (({ s.1 with files := s.1.files ++ [FileS.mk [] 0] } : Cab).rename ⟨0, [], name, s.1.files.length⟩, 0)

def setFile (c : Cab) (n : Nat) (f : FileS) : Cab := { c with files := c.files.set n f }
def file (c : Cab) (n : Nat) : FileS := c.files.getD n ⟨[], 0⟩

def append (c : Cab) (name b : Txt) : Cab × Int :=
  let r := c.find name
  if r.2 ≠ 0 then (c, r.2)
  else if (b.length : Int) > 1048576 - ((c.file r.1).all.length : Int) then (c, 17)
  else if (b.length : Int) > c.quota - (c.used : Int) then (c, 10)
  else
    let s := c.spend
    if s.2 ≠ 0 then s
    else (s.1.setFile r.1 { s.1.file r.1 with all := (s.1.file r.1).all ++ b }, 0)

def sync (c : Cab) (name : Txt) : Cab × Int :=
  let r := c.find name
  if r.2 ≠ 0 then (c, r.2)
  else
    let s := c.spend
    if s.2 ≠ 0 then s
    else (s.1.setFile r.1 { s.1.file r.1 with sure := (s.1.file r.1).all.length }, 0)

def renameTo (c : Cab) (old name : Txt) : Cab × Int :=
  let r := c.find old
  if r.2 ≠ 0 then (c, r.2)
  else if nameOk name = false then (c, 6)
  else
    let s := c.spend
    if s.2 ≠ 0 then s
    else (s.1.rename ⟨1, old, name, r.1⟩, 0)

def remove (c : Cab) (name : Txt) : Cab × Int :=
  let r := c.find name
  if r.2 ≠ 0 then (c, r.2)
  else
    let s := c.spend
    if s.2 ≠ 0 then s
    else (s.1.rename ⟨2, [], name, r.1⟩, 0)

/-- Files without a name are forgotten. -/
def forget (now : Folder) : Nat → List FileS → List FileS
  | _, [] => []
  | i, f :: r => (if now.vals.contains i then f else ⟨[], 0⟩) :: forget now (i + 1) r

def settle (c : Cab) : Cab := { c with sure := c.now, waiting := [], files := forget c.now 0 c.files }

def turn (c : Cab) : Cab × Int :=
  if c.off then (c, 11)
  else
    let s := c.spend
    if s.2 ≠ 0 then s else (s.1.settle, 0)

def read (c : Cab) (name : Txt) : Txt × Int :=
  let r := c.find name
  if r.2 ≠ 0 then ([], r.2) else ((c.file r.1).all, 0)

def names (c : Cab) : List Txt × Int := if c.off then ([], 11) else (c.now.keys, 0)

def fail (c : Cab) (n : Int) : Cab := { c with after := max n (-1) }

/-- A number from 0 to another one. -/
def part (n most : Int) : Int := max 0 (min n most)

/-- What lasts of a file: so many of the bytes that are not sure, and perhaps a turned one. -/
def cut (f : FileS) (more : Int) (turn : UInt8) : FileS :=
  let e := f.sure + more.toNat
  if turn ≠ 0 ∧ e < f.all.length then ⟨f.all.take e ++ [f.all.getD e 0 ^^^ turn], e + 1⟩
  else ⟨f.all.take e, e⟩

def crashFiles (now : Folder) (keep : List Int) (turn : UInt8) : List Txt → Nat → List FileS → List FileS
  | [], _, fs => fs
  | k :: ks, i, fs =>
    let n := (now.get? k).getD 0
    let f := fs.getD n ⟨[], 0⟩
    let more := if i < keep.length then part (keep.getD i 0) ((f.all.length : Int) - (f.sure : Int)) else 0
    crashFiles now keep turn ks (i + 1) (fs.set n (cut f more turn))

def crash (c : Cab) (names : Int) (keep : List Int) (turn : UInt8) : Cab :=
  let now := (c.waiting.take (part names c.waiting.length).toNat).foldl Folder.apply c.sure
  let files := crashFiles now keep turn now.keys 0 c.files
  { settle { c with now, files } with after := -1, off := false }
end Cab
end Chart

/- The document's cabinet (package chartularyref09) as plain data. No program in sight. -/
namespace Chart
open Go (bytesBefore)

/-- A change of names: what it was called, what it is called. -/
structure RChg where
  old : Txt
  name : Txt
  file : Nat
  deriving DecidableEq, Inhabited, Repr

structure RCab where
  quota : Int
  files : List FileS := []
  now : Folder := []
  sure : Folder := []
  waiting : List RChg := []
  after : Int := 0
  timed : Bool := false
  off : Bool := false
  deriving DecidableEq, Inhabited, Repr

/-- A list behind a change. -/
def Folder.wth (l : Folder) (x : RChg) : Folder :=
  let l1 := if x.old = [] then l else l.del x.old
  if x.name = [] then l1 else l1.put x.name x.file
/-- The number of a name's file; -1: there is none. -/
def Folder.at_ (l : Folder) (k : Txt) : Int := match l.get? k with | some n => (n : Int) | none => -1

namespace RCab
def new (quota : Int) : RCab := { quota }
def power (c : RCab) : RCab × Int :=
  if c.timed = true ∧ c.after = 0 then ({ c with off := true }, 11)
  else if c.timed = true then ({ c with after := c.after - 1 }, 0)
  else (c, 0)
def names (c : RCab) (x : RChg) : RCab := { c with now := c.now.wth x, waiting := c.waiting ++ [x] }
def create (c : RCab) (name : Txt) : RCab × Int :=
  if c.off then (c, 11)
  else if Cab.nameOk name = false then (c, 6)
  else if 0 ≤ c.now.at_ name then (c, 8)
  else if 4096 ≤ c.now.length then (c, 9)
  else
    let s := c.power
    if s.2 = 0 then (({ s.1 with files := s.1.files ++ [FileS.mk [] 0] } : RCab).names ⟨[], name, s.1.files.length⟩, s.2) else s
def file (c : RCab) (n : Nat) : FileS := c.files.getD n ⟨[], 0⟩
def setFile (c : RCab) (n : Nat) (f : FileS) : RCab := { c with files := c.files.set n f }
/-- The bytes of the files that are taken. -/
def usedFrom (t : List Nat) : Nat → List FileS → Nat
  | _, [] => 0
  | i, f :: r => (if t.contains i then f.all.length else 0) + usedFrom t (i + 1) r
def taken (c : RCab) : List Nat := c.sure.vals ++ c.waiting.map (·.file)
def used (c : RCab) : Nat := usedFrom c.taken 0 c.files
def append (c : RCab) (name b : Txt) : RCab × Int :=
  if c.off then (c, 11)
  else match c.now.get? name with
  | none => (c, 7)
  | some n =>
    if (b.length : Int) > 1048576 - ((c.file n).all.length : Int) then (c, 17)
    else if (b.length : Int) > c.quota - (c.used : Int) then (c, 10)
    else
      let s := c.power
      if s.2 = 0 then (s.1.setFile n { s.1.file n with all := (s.1.file n).all ++ b }, s.2) else s
def sync (c : RCab) (name : Txt) : RCab × Int :=
  if c.off then (c, 11)
  else match c.now.get? name with
  | none => (c, 7)
  | some n =>
    let s := c.power
    if s.2 = 0 then (s.1.setFile n { s.1.file n with sure := (s.1.file n).all.length }, s.2) else s
def renameTo (c : RCab) (old name : Txt) : RCab × Int :=
  if c.off then (c, 11)
  else match c.now.get? old with
  | none => (c, 7)
  | some n =>
    if Cab.nameOk name = false then (c, 6)
    else
      let s := c.power
      if s.2 = 0 then (s.1.names ⟨old, name, n⟩, s.2) else s
def remove (c : RCab) (name : Txt) : RCab × Int :=
  if c.off then (c, 11)
  else match c.now.get? name with
  | none => (c, 7)
  | some n =>
    let s := c.power
    if s.2 = 0 then (s.1.names ⟨name, [], n⟩, s.2) else s
def turn (c : RCab) : RCab × Int :=
  if c.off then (c, 11)
  else
    let s := c.power
    if s.2 = 0 then ({ s.1 with sure := s.1.now, waiting := [] }, s.2) else s
def read (c : RCab) (name : Txt) : Txt × Int :=
  if c.off then ([], 11)
  else match c.now.get? name with
  | none => ([], 7)
  | some n => ((c.file n).all, 0)
def namesOf (c : RCab) : List Txt × Int := if c.off then ([], 11) else (c.now.keys, 0)
def fail (c : RCab) (n : Int) : RCab := { c with timed := decide (0 ≤ n), after := n }
def part (n most : Int) : Int := if n < 0 then 0 else if n > most then most else n
def crashFiles (keep : List Int) (turn : UInt8) : Folder → Nat → List FileS → List FileS
  | [], _, fs => fs
  | y :: l, i, fs =>
    let f := fs.getD y.2 ⟨[], 0⟩
    let k := if i < keep.length then part (keep.getD i 0) ((f.all.length : Int) - (f.sure : Int)) else 0
    crashFiles keep turn l (i + 1) (fs.set y.2 (Cab.cut f k turn))
def crash (c : RCab) (names : Int) (keep : List Int) (turn : UInt8) : RCab :=
  let l := (c.waiting.take (part names c.waiting.length).toNat).foldl Folder.wth c.sure
  { c with files := crashFiles keep turn l 0 c.files, now := l, sure := l, waiting := [], timed := false, off := false }
end RCab
end Chart

/- The cabinet and the document's: alike, whatever is called. Plain data, no program in sight. -/
namespace Chart
open Go (bytesBefore)

def Chg.toR (x : Chg) : RChg := if x.kind = 2 then ⟨x.name, [], x.file⟩ else ⟨x.old, x.name, x.file⟩
/-- A change that was recorded when the names were F. -/
structure Chg.Fit (x : Chg) (F : Folder) : Prop where
  kind : x.kind ≤ 2
  name : x.name ≠ [] ∧ x.name.length ≤ 32
  oldl : x.old.length ≤ 32
  old : x.kind ≠ 1 → x.old = []
  ren : x.kind = 1 → x.old ≠ [] ∧ F.get? x.old = some x.file

theorem apply_wth {x : Chg} {F : Folder} (h : x.Fit F) : F.apply x = F.wth x.toR := by
  obtain ⟨kd, old, name, file⟩ := x
  obtain ⟨h1, ⟨h2, _⟩, _, h4, h5⟩ := h
  simp only at h1 h2 h4 h5
  have : kd = 0 ∨ kd = 1 ∨ kd = 2 := by omega
  rcases this with rfl | rfl | rfl
  · have ho := h4 (by decide)
    subst ho
    simp [Folder.apply, Folder.wth, Chg.toR, h2]
  · obtain ⟨h6, h7⟩ := h5 rfl
    simp [Folder.apply, Folder.wth, Chg.toR, h2, h6, h7]
  · simp [Folder.apply, Folder.wth, Chg.toR, h2]

/-- The names behind j changes. -/
def Cab.names_ (c : Cab) (j : Nat) : Folder := (c.waiting.take j).foldl Folder.apply c.sure

theorem mem_ins {k : Txt} {v : Nat} {y : Txt × Nat} : ∀ {F : Folder}, y ∈ Folder.ins k v F → y = (k, v) ∨ y ∈ F
  | [], h => by simpa [Folder.ins] using h
  | z :: r, h => by
    unfold Folder.ins at h
    split at h
    · rcases List.mem_cons.1 h with h | h
      · exact .inl h
      · exact .inr h
    · rcases List.mem_cons.1 h with h | h
      · exact .inr (List.mem_cons.2 (.inl h))
      · rcases mem_ins h with h | h
        · exact .inl h
        · exact .inr (List.mem_cons.2 (.inr h))
theorem mem_del {k : Txt} {y : Txt × Nat} {F : Folder} (h : y ∈ F.del k) : y ∈ F ∧ ¬ y.1 = k := by
  unfold Folder.del at h
  rw [List.mem_filter] at h
  exact ⟨h.1, by simpa using h.2⟩
theorem mem_put {k : Txt} {v : Nat} {y : Txt × Nat} {F : Folder} (h : y ∈ F.put k v) : y = (k, v) ∨ (y ∈ F ∧ ¬ y.1 = k) := by
  rcases mem_ins h with h | h
  · exact .inl h
  · exact .inr (mem_del h)
theorem mem_of_get {F : Folder} {k : Txt} {n : Nat} (h : F.get? k = some n) : (k, n) ∈ F := by
  unfold Folder.get? at h
  cases hf : F.find? fun p => p.1 == k with
  | none => rw [hf] at h; cases h
  | some y =>
    rw [hf] at h
    injection h with h
    have h1 := List.mem_of_find?_eq_some hf
    have h2 := List.find?_some hf
    simp at h2
    rw [← h2, ← h]
    exact h1
/-- Whatever stands behind a change stood there before, or is the change's own. -/
theorem mem_apply {x : Chg} {F : Folder} (hx : x.Fit F) {y : Txt × Nat} (h : y ∈ F.apply x) : y ∈ F ∨ (y.1 = x.name ∧ y.2 = x.file) := by
  obtain ⟨kd, old, name, file⟩ := x
  obtain ⟨h1, _, _, _, h5⟩ := hx
  simp only at h1 h5 ⊢
  have : kd = 0 ∨ kd = 1 ∨ kd = 2 := by omega
  rcases this with rfl | rfl | rfl
  · simp only [Folder.apply, if_true] at h
    rcases mem_put h with h | h
    · exact .inr (by rw [h]; exact ⟨rfl, rfl⟩)
    · exact .inl h.1
  · obtain ⟨_, h7⟩ := h5 rfl
    simp only [Folder.apply, h7, Option.getD_some] at h
    rcases mem_put h with h | h
    · exact .inr (by rw [h]; exact ⟨rfl, rfl⟩)
    · exact .inl (mem_del h.1).1
  · simp only [Folder.apply] at h
    exact .inl (mem_del h).1

/-- Names, each once. -/
def Folder.Once (F : Folder) : Prop := F.keys.Nodup
theorem keys_ins {k : Txt} {v : Nat} {y : Txt} : ∀ {F : Folder}, y ∈ (Folder.ins k v F).keys → y = k ∨ y ∈ F.keys := by
  intro F h
  unfold Folder.keys at h ⊢
  rw [List.mem_map] at h
  obtain ⟨z, hz, rfl⟩ := h
  rcases mem_ins hz with h | h
  · exact .inl (by rw [h])
  · exact .inr (List.mem_map.2 ⟨z, h, rfl⟩)
theorem once_ins {k : Txt} {v : Nat} : ∀ {F : Folder}, F.Once → k ∉ F.keys → (Folder.ins k v F).Once
  | [], _, _ => by simp [Folder.Once, Folder.ins, Folder.keys]
  | z :: r, h, hk => by
    unfold Folder.ins
    unfold Folder.Once Folder.keys at h ⊢
    simp only [Folder.keys, List.map_cons, List.mem_cons, not_or] at hk
    split
    · rw [List.map_cons, List.nodup_cons]
      exact ⟨by simpa [not_or] using hk, h⟩
    · rw [List.map_cons, List.nodup_cons] at h ⊢
      refine ⟨fun e => ?_, once_ins h.2 hk.2⟩
      rcases keys_ins (F := r) e with e | e
      · exact hk.1 e.symm
      · exact h.1 e
theorem once_del {k : Txt} {F : Folder} (h : F.Once) : (F.del k).Once ∧ k ∉ (F.del k).keys := by
  refine ⟨?_, fun e => ?_⟩
  · unfold Folder.Once Folder.keys Folder.del at *
    exact h.sublist ((List.filter_sublist).map _)
  · unfold Folder.keys at e
    rw [List.mem_map] at e
    obtain ⟨z, hz, rfl⟩ := e
    exact (mem_del hz).2 rfl
theorem once_put {k : Txt} {v : Nat} {F : Folder} (h : F.Once) : (F.put k v).Once := once_ins (once_del h).1 (once_del h).2
theorem once_apply {F : Folder} (h : F.Once) (x : Chg) : (F.apply x).Once := by
  unfold Folder.apply
  split
  · exact once_put h
  · split
    · exact once_put (once_del h).1
    · split
      · exact (once_del h).1
      · exact h
theorem once_get {F : Folder} (h : F.Once) {j : Nat} {y : Txt × Nat} (hj : F[j]? = some y) : F.get? y.1 = some y.2 := by
  induction F generalizing j with
  | nil => simp at hj
  | cons z r ih =>
    unfold Folder.Once Folder.keys at h
    rw [List.map_cons, List.nodup_cons] at h
    cases j with
    | zero =>
      simp at hj
      subst hj
      simp [Folder.get?]
    | succ j =>
      rw [List.getElem?_cons_succ] at hj
      have hne : ¬ z.1 = y.1 := fun e => h.1 (by rw [e]; exact List.mem_map.2 ⟨y, List.mem_of_getElem? hj, rfl⟩)
      have := ih h.2 hj
      unfold Folder.get? at this ⊢
      rw [List.find?_cons_of_neg (by simpa using hne)]
      exact this

structure Sim (B : Nat) (c : Cab) (r : RCab) : Prop where
  quota : r.quota = c.quota
  q0 : 1 ≤ c.quota
  q1 : c.quota ≤ 1073741824
  off : r.off = c.off
  pow : (r.timed = false ∧ c.after = -1) ∨ (r.timed = true ∧ c.after = r.after ∧ 0 ≤ r.after)
  after1 : r.after ≤ 9223372036854775807
  now : r.now = c.now
  sure : r.sure = c.sure
  wait : r.waiting = c.waiting.map Chg.toR
  fit : ∀ (j : Nat) (x : Chg), c.waiting[j]? = some x → x.Fit (c.names_ j) ∧ x.file < c.files.length
  nows : c.now = c.names_ c.waiting.length
  once : c.sure.Once
  sures : ∀ y ∈ c.sure, y.2 < c.files.length ∧ y.1 ≠ [] ∧ y.1.length ≤ 32
  len : r.files.length = c.files.length
  files : ∀ i, i ∈ r.taken → r.files[i]? = c.files[i]?
  rest : ∀ i f, c.files[i]? = some f → i ∉ r.taken → f.all = []
  all : ∀ f ∈ c.files, f.all.length ≤ 1048576 ∧ f.sure ≤ f.all.length
  rall : ∀ f ∈ r.files, f.all.length ≤ 1048576 ∧ f.sure ≤ f.all.length
  b1 : c.files.length ≤ B
  b2 : c.sure.length + c.waiting.length ≤ B
  b3 : c.now.length ≤ B
  b4 : c.sure.length ≤ B
end Chart

/- What follows of the two cabinets' being alike. -/
namespace Chart
open Go (bytesBefore)

theorem names_zero (c : Cab) : c.names_ 0 = c.sure := rfl
theorem names_succ {c : Cab} {j : Nat} {x : Chg} (h : c.waiting[j]? = some x) : c.names_ (j + 1) = (c.names_ j).apply x := by
  unfold Cab.names_
  rw [List.take_add_one, h, List.foldl_append]
  rfl
theorem mem_vals {F : Folder} {n : Nat} : n ∈ F.vals ↔ ∃ k, (k, n) ∈ F := by
  unfold Folder.vals
  rw [List.mem_map]
  constructor
  · rintro ⟨y, hy, rfl⟩
    exact ⟨y.1, hy⟩
  · rintro ⟨k, hk⟩
    exact ⟨_, hk, rfl⟩

section
variable {B : Nat} {c : Cab} {r : RCab}
theorem Sim.names (h : Sim B c r) : ∀ j, j ≤ c.waiting.length → (c.names_ j).Once ∧ (∀ y ∈ c.names_ j, y.2 < c.files.length ∧ y.1 ≠ [] ∧ y.1.length ≤ 32 ∧ y.2 ∈ r.taken) ∧ (c.names_ j) = (r.waiting.take j).foldl Folder.wth r.sure
  | 0, _ => by
    refine ⟨h.once, fun y hy => ?_, by rw [h.sure]; rfl⟩
    obtain ⟨h1, h2, h3⟩ := h.sures y hy
    refine ⟨h1, h2, h3, ?_⟩
    unfold RCab.taken
    rw [h.sure]
    exact List.mem_append_left _ (List.mem_map.2 ⟨y, hy, rfl⟩)
  | j + 1, hj => by
    obtain ⟨i1, i2, i3⟩ := h.names j (by omega)
    obtain ⟨x, hx⟩ : ∃ x, c.waiting[j]? = some x := ⟨_, List.getElem?_eq_getElem (by omega)⟩
    obtain ⟨f1, f2⟩ := h.fit j x hx
    rw [names_succ hx]
    refine ⟨once_apply i1 x, fun y hy => ?_, ?_⟩
    · rcases mem_apply f1 hy with hy | ⟨e1, e2⟩
      · exact i2 y hy
      · rw [e1, e2]
        refine ⟨f2, f1.name.1, f1.name.2, ?_⟩
        unfold RCab.taken
        refine List.mem_append_right _ ?_
        rw [h.wait, List.map_map]
        refine List.mem_map.2 ⟨x, List.mem_of_getElem? hx, ?_⟩
        simp only [Function.comp, Chg.toR]
        split <;> rfl
    · rw [apply_wth f1, i3]
      have hw : r.waiting[j]? = some x.toR := by rw [h.wait, List.getElem?_map, hx]; rfl
      rw [List.take_add_one, hw, List.foldl_append]
      rfl
theorem Sim.nowOk (h : Sim B c r) : c.now.Once ∧ ∀ y ∈ c.now, y.2 < c.files.length ∧ y.1 ≠ [] ∧ y.1.length ≤ 32 ∧ y.2 ∈ r.taken := by
  have := h.names c.waiting.length (Nat.le_refl _)
  rw [← h.nows] at this
  exact ⟨this.1, this.2.1⟩
theorem taken_lt (h : Sim B c r) {i : Nat} (hi : i ∈ r.taken) : i < c.files.length := by
  unfold RCab.taken at hi
  rcases List.mem_append.1 hi with hi | hi
  · rw [h.sure] at hi
    obtain ⟨k, hk⟩ := mem_vals.1 hi
    exact (h.sures _ hk).1
  · rw [h.wait, List.map_map] at hi
    obtain ⟨x, hx, rfl⟩ := List.mem_map.1 hi
    obtain ⟨j, hj⟩ := List.getElem?_of_mem hx
    have := (h.fit j x hj).2
    simp only [Function.comp, Chg.toR]
    split <;> exact this

/-- The bytes that are taken are all that lie there. -/
theorem usedFrom_all (t : List Nat) : ∀ (fs gs : List FileS) (i : Nat), fs.length = gs.length → (∀ k, i + k ∈ t → fs[k]? = gs[k]?) → (∀ k f, gs[k]? = some f → i + k ∉ t → f.all = []) → RCab.usedFrom t i fs = (gs.map fun f => f.all.length).sum
  | [], [], _, _, _, _ => rfl
  | [], _ :: _, _, h, _, _ => by simp at h
  | _ :: _, [], _, h, _, _ => by simp at h
  | f :: fs, g :: gs, i, h, h1, h2 => by
    have ih := usedFrom_all t fs gs (i + 1) (by simpa using h) (fun k hk => by
      have := h1 (k + 1) (by rw [← Nat.add_assoc, Nat.add_right_comm]; exact hk)
      simpa using this) (fun k x hx hk => h2 (k + 1) x (by simpa using hx) (by rw [← Nat.add_assoc, Nat.add_right_comm]; exact hk))
    simp only [RCab.usedFrom, List.map_cons, List.sum_cons, ih]
    by_cases hc : i ∈ t
    · have := h1 0 (by simpa using hc)
      simp at this
      subst this
      have : t.contains i = true := by rw [List.contains_iff_mem]; exact hc
      rw [if_pos this]
    · have := h2 0 g (by simp) (by simpa using hc)
      have hn : ¬ t.contains i = true := by rw [List.contains_iff_mem]; exact hc
      rw [if_neg hn, this]
      simp
theorem foldl_sum (l : List Nat) : ∀ a, l.foldl (· + ·) a = a + l.sum := by
  induction l with
  | nil => intro a; simp
  | cons x r ih =>
    intro a
    simp only [List.foldl_cons, List.sum_cons]
    rw [ih]
    omega
theorem Sim.used (h : Sim B c r) : r.used = c.used := by
  unfold RCab.used Cab.used
  rw [foldl_sum, Nat.zero_add]
  exact usedFrom_all r.taken r.files c.files 0 h.len (fun k hk => h.files k (by simpa using hk)) (fun k f hf hk => h.rest k f hf (by simpa using hk))
theorem Sim.spend (h : Sim B c r) : r.power.2 = c.spend.2 ∧ Sim B c.spend.1 r.power.1 ∧ (c.spend.2 = 0 → c.spend.1.off = c.off) := by
  have ho := h.off
  unfold RCab.power Cab.spend
  rcases h.pow with ⟨p1, p2⟩ | ⟨p1, p2, p3⟩
  · have hc : ¬ (c.after = 0) := by omega
    have hc2 : ¬ (0 < c.after) := by omega
    simp only [p1, hc, hc2, if_false, Bool.false_eq_true, false_and]
    exact ⟨trivial, h, fun _ => trivial⟩
  · by_cases h0 : r.after = 0
    · have hc : c.after = 0 := by omega
      simp only [p1, hc, h0, and_self, if_true]
      refine ⟨trivial, ?_, fun e => by simp at e⟩
      have hs := { h with off := rfl, pow := h.pow : Sim B { c with off := true } { r with off := true } }
      simpa [p1, hc, h0] using hs
    · have hc : ¬ c.after = 0 := by omega
      have hc2 : 0 < c.after := by omega
      simp only [p1, hc, h0, hc2, and_false, if_false, if_true]
      exact ⟨trivial, { h with pow := .inr ⟨by simp, by simp only; omega, by simp only; omega⟩, after1 := by have := h.after1; simp only; omega }, fun _ => trivial⟩
end
end Chart

/- Words for memory: what a call turns ('Fr'), a row of cells that a slice holds ('Row'), what a slice reads as ('Src'); append, stores. Plain theorems, of whatever program. -/
namespace Chart
open Go Go.RowKit

/-- Of what was there only blocks of D have turned. -/
structure Fr (D : Nat → Prop) (w w' : World) : Prop where
  os : w'.os = w.os
  tape : w'.tape = w.tape
  output : w'.output = w.output
  size : w.heap.size ≤ w'.heap.size
  block : ∀ k, k < w.heap.size → ¬ D k → w'.heap[k]? = w.heap[k]?

theorem Fr.refl (D : Nat → Prop) (w : World) : Fr D w w := ⟨rfl, rfl, rfl, Nat.le_refl _, fun _ _ _ => rfl⟩
theorem Fr.trans {D D' : Nat → Prop} {a b c : World} (h : Fr D a b) (k : Fr D' b c) (hD : ∀ i, D' i → D i ∨ a.heap.size ≤ i) : Fr D a c :=
  ⟨k.os.trans h.os, k.tape.trans h.tape, k.output.trans h.output, Nat.le_trans h.size k.size, fun i hi hn =>
    (k.block i (Nat.lt_of_lt_of_le hi h.size) (fun e => by rcases hD i e with e | e; exact hn e; omega)).trans (h.block i hi hn)⟩
theorem Fr.mono {D D' : Nat → Prop} {w w' : World} (h : Fr D w w') (hD : ∀ i, i < w.heap.size → D i → D' i) : Fr D' w w' :=
  ⟨h.os, h.tape, h.output, h.size, fun k hk hn => h.block k hk (fun e => hn (hD k hk e))⟩
theorem Fr.drewN {D : Nat → Prop} {a w : World} (h : Fr D a w) (n : Nat) : Fr D a (w.drewN n) := ⟨h.os, h.tape, h.output, h.size, h.block⟩
theorem Fr.drew {D : Nat → Prop} {a w : World} (h : Fr D a w) : Fr D a w.drew := ⟨h.os, h.tape, h.output, h.size, h.block⟩
theorem Fr.undrew {D : Nat → Prop} {a w : World} (h : Fr D a.drew w) : Fr D a w := ⟨h.os, h.tape, h.output, h.size, h.block⟩
theorem Fr.undrewN {D : Nat → Prop} {a w : World} {n : Nat} (h : Fr D (a.drewN n) w) : Fr D a w := ⟨h.os, h.tape, h.output, h.size, h.block⟩
theorem Fr.alloc {D : Nat → Prop} {a w : World} (h : Fr D a w) (o : Obj) : Fr D a (w.alloc o) :=
  ⟨h.os, h.tape, h.output, Nat.le_trans h.size (by simp), fun k hk hn => (Below.heap_alloc w o k (Nat.lt_of_lt_of_le hk h.size)).trans (h.block k hk hn)⟩
theorem Fr.setCell {D : Nat → Prop} {a w : World} (h : Fr D a w) {p : Addr} (hp : D p.block ∨ a.heap.size ≤ p.block) (u : Value) : Fr D a (w.setCell p u) :=
  ⟨h.os, h.tape, h.output, Nat.le_trans h.size (by simp [World.setCell]), fun k hk hn =>
    (Below.heap_setCell w p u k (fun e => by subst e; rcases hp with hp | hp; exact hn hp; omega)).trans (h.block k hk hn)⟩
theorem Fr.of_below {w w' : World} (D : Nat → Prop) (h : Below w.heap.size w w') : Fr D w w' := ⟨h.os, h.tape, h.output, h.size, fun k hk _ => h.block k hk⟩
theorem Fr.below {D : Nat → Prop} {w w' : World} (h : Fr D w w') {B : Nat} (hB : B ≤ w.heap.size) (hD : ∀ k, k < B → ¬ D k) : Below B w w' :=
  ⟨h.os, h.tape, h.output, h.size, fun k hk => h.block k (by omega) (hD k hk)⟩
theorem Fr.of_grown {w w' : World} {row : Option Nat} (h : w.grownBy w' row) : Fr (fun k => row = some k) w w' :=
  ⟨h.os, h.tape, h.output, h.size, fun k hk hn => h.block k hk (fun e => hn e.symm)⟩
theorem Fr.cell {D : Nat → Prop} {w w' : World} (h : Fr D w w') {a : Addr} {v : Value} (hc : w.cell? a = some v) (hn : ¬ D a.block) : w'.cell? a = some v :=
  (World.cell?_of_block (h.block a.block (World.block_lt_of_cell? w a hc) hn)).trans hc
theorem Fr.heap {D : Nat → Prop} {w w' : World} (h : Fr D w w') {k : Nat} {o : Obj} (hc : w.heap[k]? = some o) (hn : ¬ D k) : w'.heap[k]? = some o :=
  (h.block k (Array.getElem?_eq_some_iff.1 hc).1 hn).trans hc

/-! ### A block of cells that is known whole -/
def Blk (w : World) (g : Nat) (t : TypeId) (cs : Array Value) : Prop := w.heap[g]? = some (.cells cs t (0, 0))
section
variable {w w' : World} {g : Nat} {t : TypeId} {cs : Array Value}
theorem Blk.lt (h : Blk w g t cs) : g < w.heap.size := (Array.getElem?_eq_some_iff.1 h).1
theorem Blk.cell (h : Blk w g t cs) (i : Nat) : w.cell? ⟨g, i, none⟩ = cs[i]? := cell_of_row w g i cs t (0, 0) h
theorem Blk.frozen (h : Blk w g t cs) (i : Nat) : w.frozen? ⟨g, i, none⟩ = false := by
  unfold Blk at h
  simp [World.frozen?, h]
theorem Blk.new (w : World) (t : TypeId) (cs : Array Value) : Blk (w.alloc (.cells cs t)) w.heap.size t cs := heap_alloc_new w _
theorem Blk.alloc (h : Blk w g t cs) (o : Obj) : Blk (w.alloc o) g t cs := (Below.heap_alloc w o g h.lt).trans h
theorem Blk.drewN (h : Blk w g t cs) (n : Nat) : Blk (w.drewN n) g t cs := h
theorem Blk.drew (h : Blk w g t cs) : Blk w.drew g t cs := h
theorem Blk.set (h : Blk w g t cs) (i : Nat) (u : Value) : Blk (w.setCell ⟨g, i, none⟩ u) g t (cs.setIfInBounds i u) := by
  unfold Blk at h ⊢
  simp [World.setCell, Array.getElem?_modify, h]
theorem Blk.far (h : Blk w g t cs) {p : Addr} (hp : g ≠ p.block) (u : Value) : Blk (w.setCell p u) g t cs := (Below.heap_setCell w p u g hp).trans h
theorem Blk.fr {D : Nat → Prop} (h : Blk w g t cs) (hf : Fr D w w') (hn : ¬ D g) : Blk w' g t cs := hf.heap h hn
theorem Blk.ne_ {g' : Nat} {t' : TypeId} {cs' : Array Value} (h : Blk w g t cs) (h' : Blk w g' t' cs') (hne : t ≠ t') : g ≠ g' := by
  rintro rfl
  unfold Blk at h h'
  rw [h] at h'
  injection h' with h'
  injection h' with _ ht
  exact hne ht
end

/-! ### A slice that holds a row of cells: nil, or the head of a block of its own -/
def Row (w : World) (e : TypeId) (size : Nat) (v : Value) (n : Nat) (xs : List Value) : Prop :=
  xs.length = n * size ∧
  ((v = .slice none 0 0 ∧ n = 0) ∨
   ∃ g cap cur, v = .slice (some ⟨g, 0, none⟩) n cap ∧ w.heap[g]? = some (.cells cur e (0, 0)) ∧ n ≤ cap ∧ cap ≤ maxLen ∧ cap * size ≤ cur.size ∧ cur.toList.take (n * size) = xs)

section
variable {w w' : World} {e : TypeId} {size n : Nat} {v : Value} {xs : List Value}
theorem Row.nil (w : World) (e : TypeId) (size : Nat) : Row w e size (.slice none 0 0) 0 [] := ⟨by simp, .inl ⟨rfl, rfl⟩⟩
theorem Row.lt (h : Row w e size v n xs) {k : Nat} (hk : v.ownBlock = some k) : k < w.heap.size := by
  rcases h.2 with ⟨rfl, _⟩ | ⟨g, cap, cur, rfl, hg, _⟩
  · simp [Value.ownBlock] at hk
  · simp [Value.ownBlock] at hk
    subst hk
    exact (Array.getElem?_eq_some_iff.1 hg).1
theorem Row.keep (h : Row w e size v n xs) (hb : ∀ k o, v.ownBlock = some k → w.heap[k]? = some o → w'.heap[k]? = some o) : Row w' e size v n xs := by
  refine ⟨h.1, ?_⟩
  rcases h.2 with hn | ⟨g, cap, cur, rfl, hg, rest⟩
  · exact .inl hn
  · exact .inr ⟨g, cap, cur, rfl, hb g _ (by simp [Value.ownBlock]) hg, rest⟩
theorem Row.fr {D : Nat → Prop} (h : Row w e size v n xs) (hf : Fr D w w') (hn : ∀ k, v.ownBlock = some k → ¬ D k) : Row w' e size v n xs :=
  h.keep fun k _ hk ho => hf.heap ho (hn k hk)
theorem Row.alloc (h : Row w e size v n xs) (o : Obj) : Row (w.alloc o) e size v n xs := h.fr ((Fr.refl (fun _ => False) w).alloc o) (fun _ _ => id)
theorem Row.drewN (h : Row w e size v n xs) (k : Nat) : Row (w.drewN k) e size v n xs := h
theorem Row.drew (h : Row w e size v n xs) : Row w.drew e size v n xs := h
theorem Row.far (h : Row w e size v n xs) {p : Addr} (hp : v.ownBlock ≠ some p.block) (u : Value) : Row (w.setCell p u) e size v n xs :=
  h.keep fun k _ hk ho => (Below.heap_setCell w p u k (fun e => hp (e ▸ hk))).trans ho
theorem Row.of_own {base : Nat} (h : w.ownsRow base e size v n xs) : Row w e size v n xs := by
  refine ⟨h.1, ?_⟩
  rcases h.2 with hn | ⟨g, cap, cur, rfl, _, hg, h1, h2, h3, h4⟩
  · exact .inl hn
  · exact .inr ⟨g, cap, cur, rfl, hg, h1, h2, by omega, h4⟩
theorem Row.shape (h : Row w e size v n xs) : ∃ A c, v = .slice A n c ∧ n ≤ c ∧ c ≤ maxLen := by
  rcases h.2 with ⟨rfl, rfl⟩ | ⟨g, cap, cur, rfl, _, h1, h2, _⟩
  · exact ⟨none, 0, rfl, Nat.le_refl _, Nat.zero_le _⟩
  · exact ⟨_, cap, rfl, h1, h2⟩
theorem Row.le (h : Row w e size v n xs) : n ≤ 9223372036854775807 := by
  obtain ⟨_, _, _, h1, h2⟩ := h.shape
  simp only [maxLen] at h2
  omega
/-- Where it holds something its address is known. -/
theorem Row.form (h : Row w e size v n xs) (hn : 0 < n) : ∃ g c, v = .slice (some ⟨g, 0, none⟩) n c ∧ n ≤ c ∧ c ≤ maxLen ∧
    (∀ j u, xs[j]? = some u → w.cell? ⟨g, j, none⟩ = some u) ∧ (∀ j, w.frozen? ⟨g, j, none⟩ = false) ∧ g < w.heap.size := by
  rcases h.2 with ⟨rfl, rfl⟩ | ⟨g, cap, cur, rfl, hg, h1, h2, h3, h4⟩
  · omega
  · refine ⟨g, cap, rfl, h1, h2, fun j u hu => ?_, fun j => by simp [World.frozen?, hg], (Array.getElem?_eq_some_iff.1 hg).1⟩
    rw [cell_of_row w g j cur e (0, 0) hg]
    rw [← h4, List.getElem?_take] at hu
    split at hu
    · simpa using hu
    · cases hu
theorem Row.free {g c : Nat} (h : Row w e size (.slice (some ⟨g, 0, none⟩) n c) n xs) (j : Nat) : w.frozen? ⟨g, j, none⟩ = false := by
  rcases h.2 with ⟨hv, _⟩ | ⟨g', cap, cur, hv, hg, _⟩
  · cases hv
  · cases hv
    simp [World.frozen?, hg]
theorem Row.ne_blk {g : Nat} {t : TypeId} {cs : Array Value} (h : Row w e size v n xs) (hg : Blk w g t cs) (hne : e ≠ t) : v.ownBlock ≠ some g := by
  rcases h.2 with ⟨rfl, _⟩ | ⟨g', cap, cur, rfl, hh, _⟩
  · simp [Value.ownBlock]
  · intro he
    have : g' = g := by simpa [Value.ownBlock] using he
    subst this
    exact Blk.ne_ (t := e) hh hg hne rfl
theorem Row.ne_row {e' : TypeId} {size' n' : Nat} {v' : Value} {xs' : List Value} (h : Row w e size v n xs) (h' : Row w e' size' v' n' xs') (hne : e ≠ e') {k : Nat} (hk : v.ownBlock = some k) : v'.ownBlock ≠ some k := by
  rcases h.2 with ⟨rfl, _⟩ | ⟨g, cap, cur, rfl, hh, _⟩
  · simp [Value.ownBlock] at hk
  · have : g = k := by simpa [Value.ownBlock] using hk
    subst this
    exact h'.ne_blk (g := g) (t := e) (cs := cur) hh (Ne.symm hne)
theorem Row.ne_map {b m : Nat} {H : Type} {P : Program} {k : TypeId} {R : Value → Option (DataW H × List MemPlace)} {D : DataW H} (h : Row w e size v n xs) (hm : w.ownsMap P k R b m D) : v.ownBlock ≠ some b := by
  obtain ⟨es, clock, hb, _⟩ := hm
  rcases h.2 with ⟨rfl, _⟩ | ⟨g', cap, cur, rfl, hh, _⟩
  · simp [Value.ownBlock]
  · intro he
    have : g' = b := by simpa [Value.ownBlock] using he
    subst this
    rw [hb] at hh
    cases hh
theorem Blk.ne_map {b m g : Nat} {t : TypeId} {cs : Array Value} {H : Type} {P : Program} {k : TypeId} {R : Value → Option (DataW H × List MemPlace)} {D : DataW H} (h : Blk w g t cs) (hm : w.ownsMap P k R b m D) : g ≠ b := by
  rintro rfl
  obtain ⟨es, clock, hb, _⟩ := hm
  unfold Blk at h
  rw [h] at hb
  cases hb
theorem Row.made (w : World) (e : TypeId) (size n : Nat) (cs : Array Value) (hs : cs.size = n * size) (hn : n ≤ maxLen) : Row (w.alloc (.cells cs e)) e size (.slice (some ⟨w.heap.size, 0, none⟩) n n) n cs.toList :=
  ⟨by simp [hs], .inr ⟨w.heap.size, n, cs, rfl, heap_alloc_new w _, Nat.le_refl _, hn, by omega, by rw [← hs, ← Array.length_toList, List.take_length]⟩⟩
/-- A cell of the row is written. -/
theorem Row.set {g c : Nat} (h : Row w e size (.slice (some ⟨g, 0, none⟩) n c) n xs) (j : Nat) (u : Value) : Row (w.setCell ⟨g, j, none⟩ u) e size (.slice (some ⟨g, 0, none⟩) n c) n (xs.set j u) := by
  refine ⟨by simpa using h.1, ?_⟩
  rcases h.2 with ⟨hv, _⟩ | ⟨g', cap, cur, hv, hg, h1, h2, h3, h4⟩
  · cases hv
  · cases hv
    refine .inr ⟨g, c, cur.setIfInBounds j u, rfl, Blk.set (g := g) hg j u, h1, h2, by simpa using h3, ?_⟩
    rw [Array.toList_setIfInBounds, List.take_set, h4]
/-- The front of it, by 's[:k]' or 's[:k:k]'. -/
theorem Row.front {g c : Nat} (h : Row w e size (.slice (some ⟨g, 0, none⟩) n c) n xs) (k c' : Nat) (hk : k ≤ n) (hc : k ≤ c') (hc' : c' ≤ c) : Row w e size (.slice (some ⟨g, 0, none⟩) k c') k (xs.take (k * size)) := by
  rcases h.2 with ⟨hv, _⟩ | ⟨g', cap, cur, hv, hg, h1, h2, h3, h4⟩
  · cases hv
  · cases hv
    refine ⟨?_, .inr ⟨g, c', cur, rfl, hg, hc, by omega, Nat.le_trans (Nat.mul_le_mul_right _ hc') h3, ?_⟩⟩
    · rw [List.length_take, h.1]
      exact Nat.min_eq_left (Nat.mul_le_mul_right _ hk)
    · rw [← h4, List.take_take, Nat.min_eq_left (Nat.mul_le_mul_right _ hk)]
end

/-! ### What a slice reads as, wherever it lies -/
def Src (w : World) (size : Nat) (v : Value) (n : Nat) (xs : List Value) : Prop :=
  xs.length = n * size ∧ ∃ A c, v = .slice A n c ∧ n ≤ c ∧ c ≤ maxLen ∧ (A = none → n = 0 ∧ c = 0) ∧ ∀ a, A = some a → ∀ j u, xs[j]? = some u → w.cell? (a.add j) = some u

section
variable {w w' : World} {e : TypeId} {size n : Nat} {v : Value} {xs : List Value}
theorem block_add (a : Addr) (n : Nat) : (a.add n).block = a.block := by unfold Addr.add; split <;> rfl
theorem add_head (g j : Nat) : (⟨g, 0, none⟩ : Addr).add j = ⟨g, j, none⟩ := by unfold Addr.add; split <;> simp_all
theorem add_lit (g o j : Nat) : (⟨g, o, none⟩ : Addr).add j = ⟨g, o + j, none⟩ := by unfold Addr.add; split <;> simp_all
theorem Src.keep (h : Src w size v n xs) (hk : ∀ a u, w.cell? a = some u → w'.cell? a = some u) : Src w' size v n xs := by
  obtain ⟨h1, A, c, rfl, h2, h3, h4, h5⟩ := h
  exact ⟨h1, A, c, rfl, h2, h3, h4, fun a ha j u hu => hk _ _ (h5 a ha j u hu)⟩
theorem Src.fr {D : Nat → Prop} (h : Src w size v n xs) (hf : Fr D w w') (hn : ∀ k, k < w.heap.size → v.ownBlock = some k → ¬ D k) : Src w' size v n xs := by
  obtain ⟨h1, A, c, rfl, h2, h3, h4, h5⟩ := h
  refine ⟨h1, A, c, rfl, h2, h3, h4, fun a ha j u hu => ?_⟩
  subst ha
  have hc := h5 a rfl j u hu
  refine hf.cell hc ?_
  rw [block_add]
  exact hn _ (by have := World.block_lt_of_cell? w _ hc; rwa [block_add] at this) (by simp [Value.ownBlock])
/-- .. where an empty one asks nothing. -/
theorem Src.frl {D : Nat → Prop} (h : Src w size v n xs) (hf : Fr D w w') (hn : ∀ k, v.ownBlock = some k → 0 < n → ¬ D k) : Src w' size v n xs := by
  rcases Nat.eq_zero_or_pos n with h0 | h0
  · obtain ⟨h1, A, c, rfl, h2, h3, h4, h5⟩ := h
    refine ⟨h1, A, c, rfl, h2, h3, h4, fun a ha j u hu => ?_⟩
    have : xs = [] := List.eq_nil_of_length_eq_zero (by rw [h1, h0, Nat.zero_mul])
    subst this
    simp at hu
  · exact h.fr hf fun k _ hk => hn k hk h0
theorem Row.src (h : Row w e size v n xs) : Src w size v n xs := by
  refine ⟨h.1, ?_⟩
  obtain ⟨A, c, rfl, h1, h2⟩ := h.shape
  refine ⟨A, c, rfl, h1, h2, fun hA => ?_, fun a ha j u hu => ?_⟩
  · subst hA
    rcases h.2 with ⟨h4, h3⟩ | ⟨g, cap, cur, hv, _⟩
    · injection h4 with _ _ h4
      exact ⟨h3, h4⟩
    · cases hv
  · subst ha
    have hn : 0 < n := by
      rcases Nat.eq_zero_or_pos n with h0 | h0
      · subst h0
        have : xs = [] := List.eq_nil_of_length_eq_zero (by simpa using h.1)
        subst this
        simp at hu
      · exact h0
    obtain ⟨g, c', hv, _, _, hcell, _⟩ := h.form hn
    cases hv
    rw [add_head]
    exact hcell j u hu
theorem Src.drew (h : Src w size v n xs) : Src w.drew size v n xs := h
theorem Src.drewN (h : Src w size v n xs) (k : Nat) : Src (w.drewN k) size v n xs := h
theorem Src.alloc (h : Src w size v n xs) (o : Obj) : Src (w.alloc o) size v n xs := h.fr ((Fr.refl (fun _ => False) w).alloc o) fun _ _ _ => id
theorem Src.le (h : Src w size v n xs) : n ≤ 9223372036854775807 := by
  obtain ⟨_, _, _, _, h1, h2, _⟩ := h
  simp only [maxLen] at h2
  omega
theorem Src.nil (w : World) (size : Nat) : Src w size (.slice none 0 0) 0 [] := ⟨by simp, none, 0, rfl, Nat.le_refl _, Nat.zero_le _, fun _ => ⟨rfl, rfl⟩, fun _ h => by cases h⟩
end

/-! ### append -/
section
variable {P : Program} (w : World)
theorem run_append_none (t ty e : TypeId) (i : TypeInfo) (size : Nat) (ht : P.underlying t = some (.slice e)) (hi : P.info? e = some i)
    (v : Value) (n : Nat) (xs : List Value) (hrow : Row w e size v n xs) (c : Nat) : (Builtin.append_ #[t, t] ty #[v, .slice none 0 c]).run P w = .ok v w := by
  rcases hrow.2 with ⟨rfl, rfl⟩ | ⟨g, cap, cur, rfl, _, hnc, _⟩
  · simp [Builtin.append_, run_underlying ht, Go.sizeOf, Go.typeInfo, hi, Builtin.lenOf, Builtin.firstCells]
  · simp [Builtin.append_, run_underlying ht, Go.sizeOf, Go.typeInfo, hi, Builtin.lenOf, Builtin.firstCells, hnc, storeCells]

theorem run_append (t ty e : TypeId) (i : TypeInfo) (z : Value) (size bytes : Nat) (ht : P.underlying t = some (.slice e)) (hi : P.info? e = some i) (hz : i.zero = some z)
    (hsize : i.size = size) (hby : i.bytes = bytes) (hzs : z.cells.size = size) (hsz : 0 < size)
    (v : Value) (n : Nat) (xs : List Value) (hrow : Row w e size v n xs)
    (s : Value) (m : Nat) (news : List Value) (hs : Src w size s m news) (h1 : ∀ u ∈ news, u.oneCell' = true)
    (h63 : n + m ≤ maxLen) (hbytes : (n + m) * bytes ≤ 140737488355328) :
    ∃ v' w', (Builtin.append_ #[t, t] ty #[v, s]).run P w = .ok v' w' ∧ Row w' e size v' (n + m) (xs ++ news) ∧ Fr (fun k => v.ownBlock = some k) w w' ∧
      (v'.ownBlock = v.ownBlock ∨ v'.ownBlock = some w.heap.size) ∧ (m = 0 → v' = v ∨ ∃ k, v'.ownBlock = some k) := by
  obtain ⟨hl, A, c, rfl, hmc, hcm, hA, hcells⟩ := hs
  rcases A with _ | ad
  · obtain ⟨rfl, rfl⟩ := hA rfl
    obtain rfl : news = [] := List.eq_nil_of_length_eq_zero (by simpa using hl)
    exact ⟨v, w, run_append_none w t ty e i size ht hi v n xs hrow 0, by simpa using hrow, Fr.refl _ _, .inl rfl, fun _ => .inl rfl⟩
  · have hcells := hcells ad rfl
    rcases hrow.2 with ⟨rfl, rfl⟩ | ⟨g, cap, cur, rfl, hg, hnc, hcm2, hcs, htake⟩
    · obtain rfl : xs = [] := List.eq_nil_of_length_eq_zero (by simpa using hrow.1)
      obtain ⟨v', w', hrun, h2, h3, _, h5⟩ := run_append_own_at (P := P) w w.heap.size t ty e i z size bytes ht hi hz hsize hby hzs hsz (.slice none 0 0) 0 [] (World.ownsRow_nil w _ e size) ad m c news hl hcells h1 h63 hbytes (Nat.le_refl _)
      exact ⟨v', w', hrun, Row.of_own h2, (Fr.of_grown h3).mono (fun k _ h => h), h5, fun hm => by
        subst hm
        obtain rfl : news = [] := List.eq_nil_of_length_eq_zero (by simpa using hl)
        rcases h5 with h5 | h5
        · rcases h2.2 with ⟨rfl, _⟩ | ⟨g', cap', cur', rfl, _⟩
          · exact .inl rfl
          · exact .inr ⟨_, rfl⟩
        · exact .inr ⟨_, h5⟩⟩
    · have holds : ∀ j u, xs[j]? = some u → w.cell? ⟨g, 0 + j, none⟩ = some u := by
        intro j u hu
        rw [Nat.zero_add, cell_of_row w g j cur e (0, 0) hg]
        rw [← htake, List.getElem?_take] at hu
        split at hu
        · simpa using hu
        · cases hu
      by_cases hr : n + m ≤ cap
      · subst hsize
        have hfit : n * i.size + news.length ≤ cur.size := by
          rw [hl, ← Nat.add_mul]
          exact Nat.le_trans (Nat.mul_le_mul_right _ hr) hcs
        have hrun := run_append_room (P := P) w t ty e i ht hi g n cap cur hg ad m c news hl hcells h1 hr hfit
        refine ⟨_, _, hrun, ⟨by rw [List.length_append, hrow.1, hl, Nat.add_mul], .inr ⟨g, cap, _, rfl, setRow_heap w g cur _ e _ hg, hr, hcm2, ?_, ?_⟩⟩, ⟨rfl, rfl, rfl, by simp, fun k _ hk => setRow_other w g k _ (fun e => hk (by simp [Value.ownBlock, e]))⟩, .inl rfl, fun _ => .inr ⟨g, rfl⟩⟩
        · simp only [List.size_toArray, List.length_append, List.length_take, List.length_drop, Array.length_toList]
          omega
        · rw [htake]
          have hlen : (xs ++ news).length = (n + m) * i.size := by rw [List.length_append, hrow.1, hl, Nat.add_mul]
          rw [← hlen]
          exact List.take_left
      · obtain ⟨v', w', hrun, h2, h3⟩ := run_append_arg_grows (P := P) w t ty e i z size bytes ht hi hz hsize hby hzs hsz ⟨g, 0, none⟩ n cap xs hrow.1 (fun j u hj => by rw [add_lit]; exact holds j u hj) ad m c news hl hcells (by omega) h63 hbytes
        refine ⟨v', w', hrun, Row.of_own h2, (Fr.of_grown h3).mono (fun k _ h => by cases h), ?_, fun hm => by omega⟩
        right
        rcases h2.2 with ⟨_, h0⟩ | ⟨g', cap', cur', rfl, hb', hg', _⟩
        · omega
        · have hh : ∀ k, w.heap.size ≤ k → k < w'.heap.size → k = w.heap.size := by
            intro k h1 h2
            have := run_append_grow (P := P) w t ty e i z ht hi hz ⟨g, 0, none⟩ n cap xs (by rw [hsize]; exact hrow.1) (fun j u hj => by rw [add_lit]; exact holds j u hj) ad m c news (by rw [hsize]; exact hl) hcells (by omega) (by simp only [maxLen] at h63; omega) (by rw [hby]; exact growslice_fits (by omega) hbytes)
            rw [hrun] at this
            injection this with _ hw
            subst hw
            simp at h2
            omega
          have := hh g' hb' (Array.getElem?_eq_some_iff.1 hg').1
          subst this
          rfl
end

/-- append at the operation. -/
theorem wp_append_row {P : Program} (w : World) {o : Oper} {a : Act} {K : Act → World → Prop} {Q : Exit → Act → World → Prop} (s x : Operand) (t : TypeId)
    (ho : o.op = .call { callee := .builtin .append, args := #[s, x], argTypes := #[t, t] })
    (e : TypeId) (i : TypeInfo) (z : Value) (size bytes : Nat) (ht : P.underlying t = some (.slice e)) (hi : P.info? e = some i) (hz : i.zero = some z)
    (hsize : i.size = size) (hby : i.bytes = bytes) (hzs : z.cells.size = size) (hsz : 0 < size)
    (v : Value) (n : Nat) (xs : List Value) (hv : a.eval s = v) (hrow : Row w e size v n xs)
    (sv : Value) (m : Nat) (news : List Value) (hx : a.eval x = sv) (hs : Src w size sv m news) (h1 : ∀ u ∈ news, u.oneCell' = true)
    (h63 : n + m ≤ maxLen) (hbytes : (n + m) * bytes ≤ 140737488355328)
    (h : ∀ v' w', Row w' e size v' (n + m) (xs ++ news) → Fr (fun k => v.ownBlock = some k) w w' → (v'.ownBlock = v.ownBlock ∨ v'.ownBlock = some w.heap.size) → K (a.put o.dst v') w') : o.wp P a w K Q := by
  obtain ⟨v', w', hrun, h2, h3, h4, _⟩ := run_append (P := P) w t o.type e i z size bytes ht hi hz hsize hby hzs hsz v n xs hrow sv m news hs h1 h63 hbytes
  unfold Oper.wp execOp
  simp only [ho, resolve, invoke, builtin, Sem.run_bind, Sem.run_pure, Result.andThen_ok, List.map_toArray, List.map_cons, List.map_nil, hv, hx, hrun]
  exact h v' w' h2 h3 h4

theorem wpList_append_row {P : Program} (w : World) {ops : Array Oper} {rest : List Oper} {o : Oper} {a : Act} {Q : Exit → Act → World → Prop} (hgd : o.guard = none) (s x : Operand) (t : TypeId)
    (ho : o.op = .call { callee := .builtin .append, args := #[s, x], argTypes := #[t, t] })
    (e : TypeId) (i : TypeInfo) (z : Value) (size bytes : Nat) (ht : P.underlying t = some (.slice e)) (hi : P.info? e = some i) (hz : i.zero = some z)
    (hsize : i.size = size) (hby : i.bytes = bytes) (hzs : z.cells.size = size) (hsz : 0 < size)
    (v : Value) (n : Nat) (xs : List Value) (hv : a.eval s = v) (hrow : Row w e size v n xs)
    (sv : Value) (m : Nat) (news : List Value) (hx : a.eval x = sv) (hs : Src w size sv m news) (h1 : ∀ u ∈ news, u.oneCell' = true)
    (h63 : n + m ≤ maxLen) (hbytes : (n + m) * bytes ≤ 140737488355328)
    (h : ∀ v' w', Row w' e size v' (n + m) (xs ++ news) → Fr (fun k => v.ownBlock = some k) w w' → (v'.ownBlock = v.ownBlock ∨ v'.ownBlock = some w.heap.size) → wpList P ops Q rest (a.put o.dst v') w') : wpList P ops Q (o :: rest) a w :=
  wpList_plain hgd fun _ hK => wp_append_row w s x t ho e i z size bytes ht hi hz hsize hby hzs hsz v n xs hv hrow sv m news hx hs h1 h63 hbytes fun v' w' h2 h3 h4 => hK _ _ (h v' w' h2 h3 h4)

theorem step_append_row {P : Program} (w : World) {ops : Array Oper} {o : Oper} {a : Act} {K : Act → World → Prop} {Q : Exit → Act → World → Prop} {E : Prop} (hgd : o.guard = none) (s x : Operand) (t : TypeId)
    (ho : o.op = .call { callee := .builtin .append, args := #[s, x], argTypes := #[t, t] })
    (e : TypeId) (i : TypeInfo) (z : Value) (size bytes : Nat) (ht : P.underlying t = some (.slice e)) (hi : P.info? e = some i) (hz : i.zero = some z)
    (hsize : i.size = size) (hby : i.bytes = bytes) (hzs : z.cells.size = size) (hsz : 0 < size)
    (v : Value) (n : Nat) (xs : List Value) (hv : a.eval s = v) (hrow : Row w e size v n xs)
    (sv : Value) (m : Nat) (news : List Value) (hx : a.eval x = sv) (hs : Src w size sv m news) (h1 : ∀ u ∈ news, u.oneCell' = true)
    (h63 : n + m ≤ maxLen) (hbytes : (n + m) * bytes ≤ 140737488355328)
    (h : ∀ v' w', Row w' e size v' (n + m) (xs ++ news) → Fr (fun k => v.ownBlock = some k) w w' → (v'.ownBlock = v.ownBlock ∨ v'.ownBlock = some w.heap.size) → K (a.put o.dst v') w') :
    if Region.wanted o (yielded ops a.tmps) = true then Oper.wp P o a w K Q else E := by
  have hw : Region.wanted o (yielded ops a.tmps) = true := by simp [Region.wanted, hgd]
  rw [if_pos hw]
  exact wp_append_row w s x t ho e i z size bytes ht hi hz hsize hby hzs hsz v n xs hv hrow sv m news hx hs h1 h63 hbytes h

end Chart

/- A folder in memory: a map from names to numbers that reads as the model's list; its look-ups, stores, deletions. Of whatever program. -/
namespace Chart
open Go Go.RowKit

/-- A text as Go's string. -/
def str (k : Txt) : ByteArray := ⟨k.toArray⟩
theorem str_toList (k : Txt) : (str k).data.toList = k := by simp [str]
theorem str_size (k : Txt) : (str k).size = k.length := by simp [str, ByteArray.size]
theorem str_of (s : ByteArray) : str s.data.toList = s := by cases s; simp [str]
theorem str_inj {a b : Txt} (h : str a = str b) : a = b := by rw [← str_toList a, h, str_toList]
theorem str_ex (s : ByteArray) : ∃ k, s = str k := ⟨s.data.toList, (str_of s).symm⟩

def folderEs (F : Folder) : List (Lit × DataW Unit) := F.map fun p => (.string p.1, .lit (.int .i64 p.2))
def folderD (F : Folder) : DataW Unit := .map (folderEs F)

theorem folderEs_ins (k : Txt) (v : Nat) (F : Folder) : folderEs (F.ins k v) = DataW.insert (.string k, .lit (.int .i64 v)) (folderEs F) := by
  induction F with
  | nil => rfl
  | cons y r ih =>
    have hb : (Lit.string k).before (Lit.string y.1) = bytesBefore k y.1 := rfl
    have e : folderEs (y :: r) = (.string y.1, .lit (.int .i64 y.2)) :: folderEs r := rfl
    rw [e]
    unfold Folder.ins DataW.insert
    by_cases h : bytesBefore k y.1 = true
    · rw [if_pos h, if_pos (by rw [hb]; exact h)]; rfl
    · rw [if_neg h, if_neg (by rw [hb]; exact h), ← ih]; rfl
theorem folderEs_del (k : Txt) (F : Folder) : folderEs (F.del k) = (folderEs F).filter fun p => !p.1.sameKey (.string k) := by
  induction F with
  | nil => rfl
  | cons y r ih =>
    unfold Folder.del folderEs at *
    simp only [List.filter_cons, List.map_cons, Lit.sameKey] at ih ⊢
    split <;> rename_i h
    · rw [List.map_cons, ih]
    · exact ih
theorem folderD_put (k : Txt) (v : Nat) (F : Folder) : (folderD F).put (.string k) (.lit (.int .i64 v)) = folderD (F.put k v) := by
  unfold folderD DataW.put Folder.put
  simp only [folderEs_ins, folderEs_del]
theorem folderD_del (k : Txt) (F : Folder) : (folderD F).del (.string k) = folderD (F.del k) := by
  unfold folderD DataW.del
  simp only [folderEs_del]
theorem folderD_find (k : Txt) (F : Folder) : (folderEs F).find? (fun p => p.1.sameKey (.string k)) = (F.find? fun p => p.1 == k).map fun p => (.string p.1, .lit (.int .i64 p.2)) := by
  induction F with
  | nil => rfl
  | cons y r ih =>
    simp only [folderEs, List.map_cons, List.find?_cons, Lit.sameKey] at ih ⊢
    cases y.1 == k
    · simpa using ih
    · simp
theorem folderD_at (k : Txt) (F : Folder) : (folderD F).atKey (.string k) (.lit (.int .i64 0)) = .lit (.int .i64 ((F.get? k).getD 0 : Nat)) := by
  unfold folderD DataW.atKey Folder.get?
  simp only [folderD_find]
  cases F.find? fun p => p.1 == k <;> rfl
theorem folderD_has (k : Txt) (F : Folder) : Maps.has (folderD F) (.string k) = (F.get? k).isSome := by
  unfold folderD Maps.has Folder.get?
  simp only [folderEs, List.any_map, Function.comp_def, Lit.sameKey, Option.isSome_map]
  induction F with
  | nil => rfl
  | cons y r ih => simp only [List.any_cons, List.find?_cons]; cases y.1 == k <;> simp_all
theorem folderD_size (F : Folder) : Maps.size (folderD F) = F.length := by simp [folderD, Maps.size, folderEs]

/-- Block b is a map that reads as the folder F (k, e: the numbers of string and int). -/
def FolderAt (P : Program) (k e : TypeId) (w : World) (b : Nat) (F : Folder) : Prop := w.ownsMap P k (plainElem P e) b F.length (folderD F)

section
variable {P : Program} {k e : TypeId} {w w' : World} {b : Nat} {F : Folder}
theorem FolderAt.of {n : Nat} (h : w.ownsMap P k (plainElem P e) b n (folderD F)) : FolderAt P k e w b F := by
  obtain ⟨es, clock, hb, hf, _, hD⟩ := h
  refine ⟨es, clock, hb, hf, ?_, hD⟩
  have := congrArg Maps.size hD
  rw [folderD_size] at this
  simp only [Maps.size, length_sorted, List.length_map, Array.length_toList] at this
  omega
theorem FolderAt.lt (h : FolderAt P k e w b F) : b < w.heap.size := World.ownsMap.lt h
theorem FolderAt.keep (h : FolderAt P k e w b F) (hb : ∀ o, w.heap[b]? = some o → w'.heap[b]? = some o) : FolderAt P k e w' b F := by
  obtain ⟨es, clock, hb', hf, h1, hD⟩ := h
  exact ⟨es, clock, hb _ hb', hf, h1, hD⟩
theorem FolderAt.fr {D : Nat → Prop} (h : FolderAt P k e w b F) (hf : Fr D w w') (hn : ¬ D b) : FolderAt P k e w' b F := h.keep fun _ ho => hf.heap ho hn
theorem FolderAt.alloc (h : FolderAt P k e w b F) (o : Obj) : FolderAt P k e (w.alloc o) b F := World.ownsMap.alloc h o
theorem FolderAt.drewN (h : FolderAt P k e w b F) (n : Nat) : FolderAt P k e (w.drewN n) b F := h
theorem FolderAt.drew (h : FolderAt P k e w b F) : FolderAt P k e w.drew b F := h
theorem FolderAt.far (h : FolderAt P k e w b F) {p : Addr} (hp : b ≠ p.block) (u : Value) : FolderAt P k e (w.setCell p u) b F := World.ownsMap.setCell h hp u
theorem FolderAt.made (w : World) : FolderAt P k e (w.alloc (.map #[] 0)) w.heap.size [] := World.ownsMap_made w P k _
theorem key_of (hk : P.underlying k = some .string) (s : Txt) (hs : s.length ≤ maxLen) : keyOf P k (.string (str s)) = some (.string s) := by
  have h := Go.WideMaps.keyOf_string_mk (P := P) (k := k) hk (s := str s) (by rw [str_size]; exact hs)
  rw [str_toList] at h
  exact h
end

theorem FolderAt.look_run {P : Program} {k e t : TypeId} {w : World} {b : Nat} {F : Folder} (h : FolderAt P k e w b F) (hk : P.underlying k = some .string) (ht : P.underlying t = some (.map k e)) (he : P.underlying e = some (.int .i64)) (hz : (zeroValue e).run P w = .ok (.int .i64 0) w) (s : Txt) (hs : s.length ≤ maxLen) :
    (Instr.lookup t (.map (some b)) (.string (str s)) false).run P w = .ok (.int .i64 ((F.get? s).getD 0 : Nat)) w := by
  obtain ⟨c, hrun, hat, _⟩ := World.ownsMap.lookup_int h (Go.Maps.string_keyed hk) ht he hz (key_of hk s hs)
  rw [folderD_at] at hat
  injection hat with hat
  injection hat with _ hat
  subst hat
  exact hrun

section
variable {P : Program} (w : World) {ops : Array Oper} {rest : List Oper} {o : Oper} {a : Act} {Q : Exit → Act → World → Prop}
theorem wpList_look_ok (hg : o.guard = none) (m x : Operand) (t : TypeId) (hop : o.op = Op.lookup t m x true)
    (k e : TypeId) (hk : P.underlying k = some .string) (ht : P.underlying t = some (.map k e)) (he : P.underlying e = some (.int .i64)) (hz : (zeroValue e).run P w = .ok (.int .i64 0) w) (b : Nat) (F : Folder)
    (hm : a.eval m = .map (some b)) (hF : FolderAt P k e w b F) (s : Txt) (hx : a.eval x = .string (str s)) (hs : s.length ≤ maxLen)
    (hK : wpList P ops Q rest (a.put o.dst (.tuple #[.int .i64 ((F.get? s).getD 0 : Nat), .bool (F.get? s).isSome])) w) :
    wpList P ops Q (o :: rest) a w :=
  wpList_lookup_own_ok_int w hg m x t hop k e .i64 (Go.Maps.string_keyed hk) ht he hz b F.length (folderD F) hm hF _ _ hx (key_of hk s hs) fun c hat _ => by
    rw [folderD_at] at hat
    injection hat with hat
    injection hat with _ hat
    subst hat
    rw [folderD_has]
    exact hK
theorem wpList_look (hg : o.guard = none) (m x : Operand) (t : TypeId) (hop : o.op = Op.lookup t m x false)
    (k e : TypeId) (hk : P.underlying k = some .string) (ht : P.underlying t = some (.map k e)) (he : P.underlying e = some (.int .i64)) (hz : (zeroValue e).run P w = .ok (.int .i64 0) w) (b : Nat) (F : Folder)
    (hm : a.eval m = .map (some b)) (hF : FolderAt P k e w b F) (s : Txt) (hx : a.eval x = .string (str s)) (hs : s.length ≤ maxLen)
    (hK : wpList P ops Q rest (a.put o.dst (.int .i64 ((F.get? s).getD 0 : Nat))) w) :
    wpList P ops Q (o :: rest) a w :=
  wpList_lookup_own_int w hg m x t hop k e .i64 (Go.Maps.string_keyed hk) ht he hz b F.length (folderD F) hm hF _ _ hx (key_of hk s hs) fun c hat _ => by
    rw [folderD_at] at hat
    injection hat with hat
    injection hat with _ hat
    subst hat
    exact hK
theorem wpList_put (hg : o.guard = none) (m x v : Operand) (t : TypeId) (hop : o.op = Op.mapUpdate t m x v)
    (k e : TypeId) (hk : P.underlying k = some .string) (ht : P.underlying t = some (.map k e)) (he : P.underlying e = some (.int .i64)) (b : Nat) (F : Folder)
    (hm : a.eval m = .map (some b)) (hF : FolderAt P k e w b F) (hn : F.length < maxLen) (s : Txt) (hx : a.eval x = .string (str s)) (hs : s.length ≤ maxLen) (q : Nat) (hv : a.eval v = .int .i64 q) (hq : (q : Int) ≤ 9223372036854775807)
    (hK : ∀ w', FolderAt P k e w' b (F.put s q) → Fr (· = b) w w' → wpList P ops Q rest (a.put o.dst undef) w') :
    wpList P ops Q (o :: rest) a w :=
  wpList_mapUpdate_own w hg m x v t hop k e (Go.Maps.string_keyed hk) ht (plainElem P e) b F.length (folderD F) hm hF hn _ _ _ hx hv (key_of hk s hs) _ [] (plainElem_int he (WalkArith.wf_i64 (by omega))) fun w' h1 h2 => by
    rw [folderD_put] at h1
    exact hK w' (FolderAt.of h1) ((Fr.of_grown h2).mono fun i _ h => by simpa using h.symm)
theorem wpList_del (hg : o.guard = none) (m x : Operand) (t k : TypeId) (hop : o.op = Op.call { callee := Callee.builtin Builtin.delete, args := #[m, x], argTypes := #[t, k] })
    (e : TypeId) (hk : P.underlying k = some .string) (ht : P.underlying t = some (.map k e)) (b : Nat) (F : Folder)
    (hm : a.eval m = .map (some b)) (hF : FolderAt P k e w b F) (s : Txt) (hx : a.eval x = .string (str s)) (hs : s.length ≤ maxLen)
    (hK : ∀ w', FolderAt P k e w' b (F.del s) → Fr (· = b) w w' → wpList P ops Q rest (a.put o.dst (.tuple #[])) w') :
    wpList P ops Q (o :: rest) a w :=
  wpList_delete_own w hg m x t k hop e (Go.Maps.string_keyed hk) ht (plainElem P e) b F.length (folderD F) hm hF _ _ hx (key_of hk s hs) fun w' h1 h2 => by
    rw [folderD_del] at h1
    exact hK w' (FolderAt.of h1) ((Fr.of_grown h2.grown).mono fun i _ h => by simpa using h.symm)
theorem wpList_size (hg : o.guard = none) (m : Operand) (t : TypeId) (hop : o.op = Op.call { callee := Callee.builtin Builtin.len, args := #[m], argTypes := #[t] })
    (k e : TypeId) (ht : P.underlying t = some (.map k e)) (b : Nat) (F : Folder) (hm : a.eval m = .map (some b)) (hF : FolderAt P k e w b F)
    (hK : wpList P ops Q rest (a.put o.dst (.int .i64 (F.length : Nat))) w) :
    wpList P ops Q (o :: rest) a w :=
  wpList_len_own w hg m t hop k e ht (plainElem P e) b F.length (folderD F) hm hF (by rw [folderD_size]; exact hK)
end
end Chart
