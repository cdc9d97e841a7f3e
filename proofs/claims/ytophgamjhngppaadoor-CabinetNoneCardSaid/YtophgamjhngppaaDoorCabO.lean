/- part; the lemmas of Crash. -/
import Derived.Test.YtophgamjhngppaaDoorCabN
namespace Chart
open Go Go.RowKit Go.Proofs
attribute [local go_sem ↓] Go.wp_at_zero Go.wp_at_succ

set_option maxHeartbeats 1000000 in
theorem part_calls (n m : Int) (w : World) : Calls Tryd.prog 43 #[.int .i64 n, .int .i64 m] w fun e w' => e = .returned (.int .i64 (Cab.part n m)) ∧ w = w' := by
  unfold Cab.part
  go_enter Tryd.func43, Tryd.ntmps43
  go_wp2
  go_ret
  exact ⟨rfl, rfl⟩

theorem crashFiles_append (now : Folder) (keep : List Int) (turn : UInt8) : ∀ (a b : List Txt) (i : Nat) (fs : List FileS), Cab.crashFiles now keep turn (a ++ b) i fs = Cab.crashFiles now keep turn b (i + a.length) (Cab.crashFiles now keep turn a i fs)
  | [], b, i, fs => by simp [Cab.crashFiles]
  | x :: a, b, i, fs => by
    simp only [List.cons_append, Cab.crashFiles, List.length_cons]
    rw [crashFiles_append now keep turn a b (i + 1)]
    congr 1
    omega
theorem crashFiles_length (now : Folder) (keep : List Int) (turn : UInt8) : ∀ (a : List Txt) (i : Nat) (fs : List FileS), (Cab.crashFiles now keep turn a i fs).length = fs.length
  | [], _, _ => rfl
  | x :: a, i, fs => by
    simp only [Cab.crashFiles]
    rw [crashFiles_length now keep turn a (i + 1)]
    simp

theorem foldl_length (xs : List Chg) : ∀ F : Folder, (xs.foldl Folder.apply F).length ≤ F.length + xs.length := by
  induction xs with
  | nil => intro F; simp
  | cons x r ih =>
    intro F
    have h1 := ih (F.apply x)
    have h2 := apply_length x F
    simp only [List.foldl_cons, List.length_cons]
    omega

theorem chgCells_get : ∀ (l : List Chg) (k : Nat) (x : Chg), l[k]? = some x → (chgCells l)[k * 4]? = some (.int .i64 x.kind) ∧ (chgCells l)[k * 4 + 1]? = some (.string (str x.old)) ∧ (chgCells l)[k * 4 + 2]? = some (.string (str x.name)) ∧ (chgCells l)[k * 4 + 3]? = some (.int .i64 x.file)
  | [], _, _, h => by simp at h
  | y :: r, 0, x, h => by simp at h; subst h; exact ⟨rfl, rfl, rfl, rfl⟩
  | y :: r, k + 1, x, h => by
    simp only [List.getElem?_cons_succ] at h
    have ih := chgCells_get r k x h
    have e0 : (k + 1) * 4 = k * 4 + 1 + 1 + 1 + 1 := by omega
    simp only [chgCells, e0, List.getElem?_cons_succ]
    exact ih

section
variable {w w1 : World} {p : Nat} {c : Cab} {fv : Value} {avs : List Value} {nb sb : Nat} {wv : Value} {D : Nat → Prop}
/-- The names are as they lasted. -/
theorem crash_mid (hi : CabIn w p c fv avs nb sb wv) (hF1 : FolderIn w1 w.heap.size c.sure) (hB1 : Below w.heap.size w w1) :
    CabIn (w1.setCell ⟨p, 2, none⟩ (.map (some w.heap.size))) p { c with now := c.sure } fv avs w.heap.size sb wv := by
  have F := Fr.of_below (fun _ => False) hB1
  have hb1 := hi.blk.fr F id
  have hp := hi.blk.lt
  exact {
    blk := hb1.set 2 _
    files := (hi.files.fr F fun _ _ => id).far (fun e => hi.files.ne_blk hi.blk (by decide) e) _
    len := hi.len
    bytes := fun i f hf => by
      obtain ⟨v, hv, hr⟩ := hi.bytes i f hf
      exact ⟨v, hv, (hr.fr F fun _ _ => id).far (fun e => hr.ne_blk hi.blk (by decide) e) _⟩
    apart := hi.apart
    now := hF1.far (by simp; omega) _
    sure := (hi.sure.fr F id).far (fun e => hi.blk.ne_map hi.sure (by simpa using e.symm)) _
    two := by have := hi.sure.lt; omega
    waiting := (hi.waiting.fr F fun _ _ => id).far (fun e => hi.waiting.ne_blk hi.blk (by decide) e) _ }
/-- The names have turned. -/
theorem CabIn.newNow (hi : CabIn w p c fv avs nb sb wv) {F' : Folder} (hfr : Fr (· = nb) w w1) (hF : FolderIn w1 nb F') : CabIn w1 p { c with now := F' } fv avs nb sb wv := {
    blk := hi.blk.fr hfr (hi.blk.ne_map hi.now)
    files := hi.files.fr hfr fun k hk e => hi.files.ne_map hi.now (by rw [hk, show k = nb from e])
    len := hi.len
    bytes := fun i f hf => by
      obtain ⟨v, hv, hr⟩ := hi.bytes i f hf
      exact ⟨v, hv, hr.fr hfr fun k hk e => hr.ne_map hi.now (by rw [hk, show k = nb from e])⟩
    apart := hi.apart
    now := hF
    sure := hi.sure.fr hfr fun e => hi.two e.symm
    two := hi.two
    waiting := hi.waiting.fr hfr fun k hk e => hi.waiting.ne_map hi.now (by rw [hk, show k = nb from e]) }
end
end Chart
