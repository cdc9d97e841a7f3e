/- A folder in memory: a map from names to numbers that reads as the model's list; its look-ups, stores, deletions. Of whatever program. -/
import Derived.Test.YtophgamjhngppaaDoorMem
import Derived.Test.YtophgamjhngppaaDoorModel
import Derived.Maps.OwnSet
import Derived.Maps.OwnOps
import Derived.MapViews
import Derived.StringKeys
namespace Chart
open Go Go.RowKit

/-- A text as Go's string. -/
def str (k : Txt) : ByteArray := ⟨k.toArray⟩
theorem str_toList (k : Txt) : (str k).data.toList = k := by simp [str]
theorem str_size (k : Txt) : (str k).size = k.length := by simp [str, ByteArray.size]
theorem str_of (s : ByteArray) : str s.data.toList = s := by cases s; simp [str]
theorem str_inj {a b : Txt} (h : str a = str b) : a = b := by rw [← str_toList a, h, str_toList]
theorem str_ex (s : ByteArray) : ∃ k, s = str k := ⟨s.data.toList, (str_of s).symm⟩

def folderEs (F : Folder) : List (Lit × DataW Unit) := F.map fun p => (.string p.1, .lit (.int .i64 p.2))
def folderD (F : Folder) : DataW Unit := .map (folderEs F)

theorem folderEs_ins (k : Txt) (v : Nat) (F : Folder) : folderEs (F.ins k v) = DataW.insert (.string k, .lit (.int .i64 v)) (folderEs F) := by
  induction F with
  | nil => rfl
  | cons y r ih =>
    have hb : (Lit.string k).before (Lit.string y.1) = bytesBefore k y.1 := rfl
    have e : folderEs (y :: r) = (.string y.1, .lit (.int .i64 y.2)) :: folderEs r := rfl
    rw [e]
    unfold Folder.ins DataW.insert
    by_cases h : bytesBefore k y.1 = true
    · rw [if_pos h, if_pos (by rw [hb]; exact h)]; rfl
    · rw [if_neg h, if_neg (by rw [hb]; exact h), ← ih]; rfl
theorem folderEs_del (k : Txt) (F : Folder) : folderEs (F.del k) = (folderEs F).filter fun p => !p.1.sameKey (.string k) := by
  induction F with
  | nil => rfl
  | cons y r ih =>
    unfold Folder.del folderEs at *
    simp only [List.filter_cons, List.map_cons, Lit.sameKey] at ih ⊢
    split <;> rename_i h
    · rw [List.map_cons, ih]
    · exact ih
theorem folderD_put (k : Txt) (v : Nat) (F : Folder) : (folderD F).put (.string k) (.lit (.int .i64 v)) = folderD (F.put k v) := by
  unfold folderD DataW.put Folder.put
  simp only [folderEs_ins, folderEs_del]
theorem folderD_del (k : Txt) (F : Folder) : (folderD F).del (.string k) = folderD (F.del k) := by
  unfold folderD DataW.del
  simp only [folderEs_del]
theorem folderD_find (k : Txt) (F : Folder) : (folderEs F).find? (fun p => p.1.sameKey (.string k)) = (F.find? fun p => p.1 == k).map fun p => (.string p.1, .lit (.int .i64 p.2)) := by
  induction F with
  | nil => rfl
  | cons y r ih =>
    simp only [folderEs, List.map_cons, List.find?_cons, Lit.sameKey] at ih ⊢
    cases y.1 == k
    · simpa using ih
    · simp
theorem folderD_at (k : Txt) (F : Folder) : (folderD F).atKey (.string k) (.lit (.int .i64 0)) = .lit (.int .i64 ((F.get? k).getD 0 : Nat)) := by
  unfold folderD DataW.atKey Folder.get?
  simp only [folderD_find]
  cases F.find? fun p => p.1 == k <;> rfl
theorem folderD_has (k : Txt) (F : Folder) : Maps.has (folderD F) (.string k) = (F.get? k).isSome := by
  unfold folderD Maps.has Folder.get?
  simp only [folderEs, List.any_map, Function.comp_def, Lit.sameKey, Option.isSome_map]
  induction F with
  | nil => rfl
  | cons y r ih => simp only [List.any_cons, List.find?_cons]; cases y.1 == k <;> simp_all
theorem folderD_size (F : Folder) : Maps.size (folderD F) = F.length := by simp [folderD, Maps.size, folderEs]

/-- Block b is a map that reads as the folder F (k, e: the numbers of string and int). -/
def FolderAt (P : Program) (k e : TypeId) (w : World) (b : Nat) (F : Folder) : Prop := w.ownsMap P k (plainElem P e) b F.length (folderD F)

section
variable {P : Program} {k e : TypeId} {w w' : World} {b : Nat} {F : Folder}
theorem FolderAt.of {n : Nat} (h : w.ownsMap P k (plainElem P e) b n (folderD F)) : FolderAt P k e w b F := by
  obtain ⟨es, clock, hb, hf, _, hD⟩ := h
  refine ⟨es, clock, hb, hf, ?_, hD⟩
  have := congrArg Maps.size hD
  rw [folderD_size] at this
  simp only [Maps.size, length_sorted, List.length_map, Array.length_toList] at this
  omega
theorem FolderAt.lt (h : FolderAt P k e w b F) : b < w.heap.size := World.ownsMap.lt h
theorem FolderAt.keep (h : FolderAt P k e w b F) (hb : ∀ o, w.heap[b]? = some o → w'.heap[b]? = some o) : FolderAt P k e w' b F := by
  obtain ⟨es, clock, hb', hf, h1, hD⟩ := h
  exact ⟨es, clock, hb _ hb', hf, h1, hD⟩
theorem FolderAt.fr {D : Nat → Prop} (h : FolderAt P k e w b F) (hf : Fr D w w') (hn : ¬ D b) : FolderAt P k e w' b F := h.keep fun _ ho => hf.heap ho hn
theorem FolderAt.alloc (h : FolderAt P k e w b F) (o : Obj) : FolderAt P k e (w.alloc o) b F := World.ownsMap.alloc h o
theorem FolderAt.drewN (h : FolderAt P k e w b F) (n : Nat) : FolderAt P k e (w.drewN n) b F := h
theorem FolderAt.drew (h : FolderAt P k e w b F) : FolderAt P k e w.drew b F := h
theorem FolderAt.far (h : FolderAt P k e w b F) {p : Addr} (hp : b ≠ p.block) (u : Value) : FolderAt P k e (w.setCell p u) b F := World.ownsMap.setCell h hp u
theorem FolderAt.made (w : World) : FolderAt P k e (w.alloc (.map #[] 0)) w.heap.size [] := World.ownsMap_made w P k _
theorem key_of (hk : P.underlying k = some .string) (s : Txt) (hs : s.length ≤ maxLen) : keyOf P k (.string (str s)) = some (.string s) := by
  have h := Go.WideMaps.keyOf_string_mk (P := P) (k := k) hk (s := str s) (by rw [str_size]; exact hs)
  rw [str_toList] at h
  exact h
end

theorem FolderAt.look_run {P : Program} {k e t : TypeId} {w : World} {b : Nat} {F : Folder} (h : FolderAt P k e w b F) (hk : P.underlying k = some .string) (ht : P.underlying t = some (.map k e)) (he : P.underlying e = some (.int .i64)) (hz : (zeroValue e).run P w = .ok (.int .i64 0) w) (s : Txt) (hs : s.length ≤ maxLen) :
    (Instr.lookup t (.map (some b)) (.string (str s)) false).run P w = .ok (.int .i64 ((F.get? s).getD 0 : Nat)) w := by
  obtain ⟨c, hrun, hat, _⟩ := World.ownsMap.lookup_int h (Go.Maps.string_keyed hk) ht he hz (key_of hk s hs)
  rw [folderD_at] at hat
  injection hat with hat
  injection hat with _ hat
  subst hat
  exact hrun

section
variable {P : Program} (w : World) {ops : Array Oper} {rest : List Oper} {o : Oper} {a : Act} {Q : Exit → Act → World → Prop}
theorem wpList_look_ok (hg : o.guard = none) (m x : Operand) (t : TypeId) (hop : o.op = Op.lookup t m x true)
    (k e : TypeId) (hk : P.underlying k = some .string) (ht : P.underlying t = some (.map k e)) (he : P.underlying e = some (.int .i64)) (hz : (zeroValue e).run P w = .ok (.int .i64 0) w) (b : Nat) (F : Folder)
    (hm : a.eval m = .map (some b)) (hF : FolderAt P k e w b F) (s : Txt) (hx : a.eval x = .string (str s)) (hs : s.length ≤ maxLen)
    (hK : wpList P ops Q rest (a.put o.dst (.tuple #[.int .i64 ((F.get? s).getD 0 : Nat), .bool (F.get? s).isSome])) w) :
    wpList P ops Q (o :: rest) a w :=
  wpList_lookup_own_ok_int w hg m x t hop k e .i64 (Go.Maps.string_keyed hk) ht he hz b F.length (folderD F) hm hF _ _ hx (key_of hk s hs) fun c hat _ => by
    rw [folderD_at] at hat
    injection hat with hat
    injection hat with _ hat
    subst hat
    rw [folderD_has]
    exact hK
theorem wpList_look (hg : o.guard = none) (m x : Operand) (t : TypeId) (hop : o.op = Op.lookup t m x false)
    (k e : TypeId) (hk : P.underlying k = some .string) (ht : P.underlying t = some (.map k e)) (he : P.underlying e = some (.int .i64)) (hz : (zeroValue e).run P w = .ok (.int .i64 0) w) (b : Nat) (F : Folder)
    (hm : a.eval m = .map (some b)) (hF : FolderAt P k e w b F) (s : Txt) (hx : a.eval x = .string (str s)) (hs : s.length ≤ maxLen)
    (hK : wpList P ops Q rest (a.put o.dst (.int .i64 ((F.get? s).getD 0 : Nat))) w) :
    wpList P ops Q (o :: rest) a w :=
  wpList_lookup_own_int w hg m x t hop k e .i64 (Go.Maps.string_keyed hk) ht he hz b F.length (folderD F) hm hF _ _ hx (key_of hk s hs) fun c hat _ => by
    rw [folderD_at] at hat
    injection hat with hat
    injection hat with _ hat
    subst hat
    exact hK
theorem wpList_put (hg : o.guard = none) (m x v : Operand) (t : TypeId) (hop : o.op = Op.mapUpdate t m x v)
    (k e : TypeId) (hk : P.underlying k = some .string) (ht : P.underlying t = some (.map k e)) (he : P.underlying e = some (.int .i64)) (b : Nat) (F : Folder)
    (hm : a.eval m = .map (some b)) (hF : FolderAt P k e w b F) (hn : F.length < maxLen) (s : Txt) (hx : a.eval x = .string (str s)) (hs : s.length ≤ maxLen) (q : Nat) (hv : a.eval v = .int .i64 q) (hq : (q : Int) ≤ 9223372036854775807)
    (hK : ∀ w', FolderAt P k e w' b (F.put s q) → Fr (· = b) w w' → wpList P ops Q rest (a.put o.dst undef) w') :
    wpList P ops Q (o :: rest) a w :=
  wpList_mapUpdate_own w hg m x v t hop k e (Go.Maps.string_keyed hk) ht (plainElem P e) b F.length (folderD F) hm hF hn _ _ _ hx hv (key_of hk s hs) _ [] (plainElem_int he (WalkArith.wf_i64 (by omega))) fun w' h1 h2 => by
    rw [folderD_put] at h1
    exact hK w' (FolderAt.of h1) ((Fr.of_grown h2).mono fun i _ h => by simpa using h.symm)
theorem wpList_del (hg : o.guard = none) (m x : Operand) (t k : TypeId) (hop : o.op = Op.call { callee := Callee.builtin Builtin.delete, args := #[m, x], argTypes := #[t, k] })
    (e : TypeId) (hk : P.underlying k = some .string) (ht : P.underlying t = some (.map k e)) (b : Nat) (F : Folder)
    (hm : a.eval m = .map (some b)) (hF : FolderAt P k e w b F) (s : Txt) (hx : a.eval x = .string (str s)) (hs : s.length ≤ maxLen)
    (hK : ∀ w', FolderAt P k e w' b (F.del s) → Fr (· = b) w w' → wpList P ops Q rest (a.put o.dst (.tuple #[])) w') :
    wpList P ops Q (o :: rest) a w :=
  wpList_delete_own w hg m x t k hop e (Go.Maps.string_keyed hk) ht (plainElem P e) b F.length (folderD F) hm hF _ _ hx (key_of hk s hs) fun w' h1 h2 => by
    rw [folderD_del] at h1
    exact hK w' (FolderAt.of h1) ((Fr.of_grown h2.grown).mono fun i _ h => by simpa using h.symm)
theorem wpList_size (hg : o.guard = none) (m : Operand) (t : TypeId) (hop : o.op = Op.call { callee := Callee.builtin Builtin.len, args := #[m], argTypes := #[t] })
    (k e : TypeId) (ht : P.underlying t = some (.map k e)) (b : Nat) (F : Folder) (hm : a.eval m = .map (some b)) (hF : FolderAt P k e w b F)
    (hK : wpList P ops Q rest (a.put o.dst (.int .i64 (F.length : Nat))) w) :
    wpList P ops Q (o :: rest) a w :=
  wpList_len_own w hg m t hop k e ht (plainElem P e) b F.length (folderD F) hm hF (by rw [folderD_size]; exact hK)
end
end Chart
