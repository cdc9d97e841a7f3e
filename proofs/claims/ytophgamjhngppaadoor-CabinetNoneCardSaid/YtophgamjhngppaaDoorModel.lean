/- The cabinet as plain data: what each call of package cabinet computes. No program in sight. -/
import GoSem.ClaimWide
namespace Chart
open Go (bytesBefore)

abbrev Txt := List UInt8

/-- A file: its bytes, and how many of them last. -/
structure FileS where
  all : Txt := []
  sure : Nat := 0
  deriving DecidableEq, Inhabited, Repr

/-- A change of names: 0 made, 1 renamed, 2 removed. -/
structure Chg where
  kind : Nat
  old : Txt
  name : Txt
  file : Nat
  deriving DecidableEq, Inhabited, Repr

/-- Names in order, each with its file's number. -/
abbrev Folder := List (Txt × Nat)

namespace Folder
def ins (k : Txt) (v : Nat) : Folder → Folder
  | [] => [(k, v)]
  | y :: r => if bytesBefore k y.1 then (k, v) :: y :: r else y :: ins k v r
def del (f : Folder) (k : Txt) : Folder := f.filter fun p => !(p.1 == k)
def put (f : Folder) (k : Txt) (v : Nat) : Folder := ins k v (del f k)
def get? (f : Folder) (k : Txt) : Option Nat := (f.find? fun p => p.1 == k).map (·.2)
def keys (f : Folder) : List Txt := f.map (·.1)
def vals (f : Folder) : List Nat := f.map (·.2)
/-- The folder behind a change. -/
def apply (f : Folder) (x : Chg) : Folder :=
  if x.kind = 0 then f.put x.name x.file
  else if x.kind = 1 then (f.del x.old).put x.name ((f.get? x.old).getD 0)
  else if x.kind = 2 then f.del x.name
  else f
end Folder

/-- All that a cabinet is. -/
structure Cab where
  quota : Int
  files : List FileS := []
  now : Folder := []
  sure : Folder := []
  waiting : List Chg := []
  after : Int := -1
  off : Bool := false
  deriving DecidableEq, Inhabited, Repr

namespace Cab
def new (quota : Int) : Cab := { quota }

/-- May it be a file's name? -/
def nameByte (b : UInt8) : Bool := (97 ≤ b && b ≤ 122) || (48 ≤ b && b ≤ 57) || b == 45 || b == 46
def nameOk (s : Txt) : Bool := !s.isEmpty && decide (s.length ≤ 32) && s.all nameByte

def used (c : Cab) : Nat := (c.files.map fun f => f.all.length).foldl (· + ·) 0

/-- Power for a change: the cabinet behind it, and is there any? -/
def spend (c : Cab) : Cab × Int :=
  if c.after = 0 then ({ c with off := true }, 11)
  else if 0 < c.after then ({ c with after := c.after - 1 }, 0)
  else (c, 0)

def rename (c : Cab) (x : Chg) : Cab := { c with now := c.now.apply x, waiting := c.waiting ++ [x] }

def find (c : Cab) (name : Txt) : Nat × Int :=
  if c.off then (0, 11) else match c.now.get? name with | none => (0, 7) | some n => (n, 0)

def create (c : Cab) (name : Txt) : Cab × Int :=
  if c.off then (c, 11)
  else if nameOk name = false then (c, 6)
  else if (c.now.get? name).isSome then (c, 8)
  else if 4096 ≤ c.now.length then (c, 9)
  else
    let s := c.spend
    if s.2 ≠ 0 then s
    else (({ s.1 with files := s.1.files ++ [FileS.mk [] 0] } : Cab).rename ⟨0, [], name, s.1.files.length⟩, 0)

def setFile (c : Cab) (n : Nat) (f : FileS) : Cab := { c with files := c.files.set n f }
def file (c : Cab) (n : Nat) : FileS := c.files.getD n ⟨[], 0⟩

def append (c : Cab) (name b : Txt) : Cab × Int :=
  let r := c.find name
  if r.2 ≠ 0 then (c, r.2)
  else if (b.length : Int) > 1048576 - ((c.file r.1).all.length : Int) then (c, 17)
  else if (b.length : Int) > c.quota - (c.used : Int) then (c, 10)
  else
    let s := c.spend
    if s.2 ≠ 0 then s
    else (s.1.setFile r.1 { s.1.file r.1 with all := (s.1.file r.1).all ++ b }, 0)

def sync (c : Cab) (name : Txt) : Cab × Int :=
  let r := c.find name
  if r.2 ≠ 0 then (c, r.2)
  else
    let s := c.spend
    if s.2 ≠ 0 then s
    else (s.1.setFile r.1 { s.1.file r.1 with sure := (s.1.file r.1).all.length }, 0)

def renameTo (c : Cab) (old name : Txt) : Cab × Int :=
  let r := c.find old
  if r.2 ≠ 0 then (c, r.2)
  else if nameOk name = false then (c, 6)
  else
    let s := c.spend
    if s.2 ≠ 0 then s
    else (s.1.rename ⟨1, old, name, r.1⟩, 0)

def remove (c : Cab) (name : Txt) : Cab × Int :=
  let r := c.find name
  if r.2 ≠ 0 then (c, r.2)
  else
    let s := c.spend
    if s.2 ≠ 0 then s
    else (s.1.rename ⟨2, [], name, r.1⟩, 0)

/-- Files without a name are forgotten. -/
def forget (now : Folder) : Nat → List FileS → List FileS
  | _, [] => []
  | i, f :: r => (if now.vals.contains i then f else ⟨[], 0⟩) :: forget now (i + 1) r

def settle (c : Cab) : Cab := { c with sure := c.now, waiting := [], files := forget c.now 0 c.files }

def turn (c : Cab) : Cab × Int :=
  if c.off then (c, 11)
  else
    let s := c.spend
    if s.2 ≠ 0 then s else (s.1.settle, 0)

def read (c : Cab) (name : Txt) : Txt × Int :=
  let r := c.find name
  if r.2 ≠ 0 then ([], r.2) else ((c.file r.1).all, 0)

def names (c : Cab) : List Txt × Int := if c.off then ([], 11) else (c.now.keys, 0)

def fail (c : Cab) (n : Int) : Cab := { c with after := max n (-1) }

/-- A number from 0 to another one. -/
def part (n most : Int) : Int := max 0 (min n most)

/-- What lasts of a file: so many of the bytes that are not sure, and perhaps a turned one. -/
def cut (f : FileS) (more : Int) (turn : UInt8) : FileS :=
  let e := f.sure + more.toNat
  if turn ≠ 0 ∧ e < f.all.length then ⟨f.all.take e ++ [f.all.getD e 0 ^^^ turn], e + 1⟩
  else ⟨f.all.take e, e⟩

def crashFiles (now : Folder) (keep : List Int) (turn : UInt8) : List Txt → Nat → List FileS → List FileS
  | [], _, fs => fs
  | k :: ks, i, fs =>
    let n := (now.get? k).getD 0
    let f := fs.getD n ⟨[], 0⟩
    let more := if i < keep.length then part (keep.getD i 0) ((f.all.length : Int) - (f.sure : Int)) else 0
    crashFiles now keep turn ks (i + 1) (fs.set n (cut f more turn))

def crash (c : Cab) (names : Int) (keep : List Int) (turn : UInt8) : Cab :=
  let now := (c.waiting.take (part names c.waiting.length).toNat).foldl Folder.apply c.sure
  let files := crashFiles now keep turn now.keys 0 c.files
  { settle { c with now, files } with after := -1, off := false }
end Cab
end Chart
