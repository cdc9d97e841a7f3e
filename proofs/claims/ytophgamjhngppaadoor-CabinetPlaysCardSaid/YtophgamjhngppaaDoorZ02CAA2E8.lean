import Derived.Test.YtophgamjhngppaaDoorZ09FF40DF
import Derived.Test.YtophgamjhngppaaDoorZE3E08527
/- What the contracts ask, of cabinets that are alike. -/
namespace Chart
open Go (maxLen)

section
variable {B : Nat} {c : Cab} {r : RCab}
theorem Sim.afters (h : Sim B c r) : -1 ≤ c.after ∧ c.after ≤ 9223372036854775807 := by
  have := h.after1
  rcases h.pow with ⟨_, e⟩ | ⟨_, e, e2⟩ <;> omega
theorem Sim.num (h : Sim B c r) (hB : B ≤ 100000) : r.Num where
  after0 := fun ht => by
    rcases h.pow with ⟨e, _⟩ | ⟨_, _, e⟩
    · rw [ht] at e
      cases e
    · exact e
  after1 := h.after1
  files := by have := h.b1; have := h.len; omega
  now := by have := h.b3; rw [h.now]; omega
  sure := by have := h.b4; rw [h.sure]; omega
  waiting := by have := h.b2; rw [h.wait, List.length_map]; omega
  nows := fun x hx => by rw [h.now] at hx; rw [h.len]; exact (h.nowOk.2 x hx).1
  sures := fun x hx => by rw [h.sure] at hx; rw [h.len]; exact (h.sures x hx).1
  chg := fun x hx => by
    rw [h.len]
    exact taken_lt h (by unfold RCab.taken; exact List.mem_append_right _ (List.mem_map.2 ⟨x, hx, rfl⟩))
  all := fun f hf => (h.rall f hf).1
  quota0 := by rw [h.quota]; exact h.q0
  quota1 := by rw [h.quota]; exact h.q1
theorem Sim.rep (h : Sim B c r) (j : Nat) : ∀ x ∈ (c.waiting.take j).foldl Folder.apply c.sure, x.2 < c.files.length ∧ x.1 ≠ [] ∧ x.1.length ≤ 32 := by
  by_cases hj : j ≤ c.waiting.length
  · exact fun x hx => ⟨((h.names j hj).2.1 x hx).1, ((h.names j hj).2.1 x hx).2.1, ((h.names j hj).2.1 x hx).2.2.1⟩
  · have e : c.waiting.take j = c.waiting.take c.waiting.length := by rw [List.take_length, List.take_of_length_le (by omega)]
    rw [e]
    exact fun x hx => ⟨((h.names _ (Nat.le_refl _)).2.1 x hx).1, ((h.names _ (Nat.le_refl _)).2.1 x hx).2.1, ((h.names _ (Nat.le_refl _)).2.1 x hx).2.2.1⟩
theorem len32 {n : Nat} (h : n ≤ 32) : n ≤ maxLen := by simp only [maxLen]; omega
theorem Sim.crashOk (h : Sim B c r) (hB : B ≤ 100000) : CrashOk c where
  files := by have := h.b1; omega
  waiting := by have := h.b2; omega
  sure := by have := h.b4; omega
  chg := fun x hx => by
    obtain ⟨j, hj⟩ := List.getElem?_of_mem hx
    obtain ⟨f1, f2⟩ := h.fit j x hj
    have := h.b1
    exact ⟨f1.kind, len32 f1.oldl, len32 f1.name.2, by omega⟩
  rep := fun j x hx => ⟨(h.rep j x hx).1, len32 (h.rep j x hx).2.2⟩
  all := h.all
theorem Sim.rcrashOk (h : Sim B c r) (hB : B ≤ 100000) : RCrashOk r where
  num := h.num hB
  rep := fun j x hx => by
    rw [h.len]
    have e : (r.waiting.take j).foldl Folder.wth r.sure = (c.waiting.take j).foldl Folder.apply c.sure := by
      by_cases hj : j ≤ c.waiting.length
      · exact ((h.names j hj).2.2).symm
      · have hw : r.waiting.length = c.waiting.length := by rw [h.wait, List.length_map]
        have e1 : c.waiting.take j = c.waiting.take c.waiting.length := by rw [List.take_length, List.take_of_length_le (by omega)]
        have e2 : r.waiting.take j = r.waiting.take c.waiting.length := by rw [List.take_of_length_le (by omega), List.take_of_length_le (by omega)]
        rw [e1, e2]
        exact ((h.names _ (Nat.le_refl _)).2.2).symm
    rw [e] at hx
    exact (h.rep j x hx).1
  all := h.rall
theorem Sim.getD (h : Sim B c r) (hB : B ≤ 100000) (k : Txt) : (c.now.get? k).getD 0 ≤ 9223372036854775807 := by
  have h1 := get_le (F := c.now) (N := c.files.length) (fun x hx => (h.nowOk.2 x hx).1) k
  have h2 := h.b1
  omega
theorem Sim.nnow (h : Sim B c r) : ∀ x ∈ c.now, x.2 < c.files.length := fun x hx => (h.nowOk.2 x hx).1
end

/-- A step, as plain data. -/
structure StepS where
  what : Int
  old : Txt
  name : Txt
  data : Txt
  n : Int
  keep : List Int
  turn : UInt8
def Cab.chg (c : Cab) (s : StepS) : Cab × Int :=
  if s.what = 0 then c.create s.name else if s.what = 1 then c.append s.name s.data else if s.what = 2 then c.sync s.name else if s.what = 3 then c.renameTo s.old s.name else if s.what = 4 then c.remove s.name else c.turn
def RCab.chg (c : RCab) (s : StepS) : RCab × Int :=
  if s.what = 0 then c.create s.name else if s.what = 1 then c.append s.name s.data else if s.what = 2 then c.sync s.name else if s.what = 3 then c.renameTo s.old s.name else if s.what = 4 then c.remove s.name else c.turn
theorem Sim.chg {B : Nat} {c : Cab} {r : RCab} (h : Sim B c r) (s : StepS) : (r.chg s).2 = (c.chg s).2 ∧ Sim (B + 2) (c.chg s).1 (r.chg s).1 := by
  unfold Cab.chg RCab.chg
  split
  · have := h.create s.name
    exact ⟨congrArg Prod.snd this.1, this.2⟩
  · split
    · exact h.append _ _
    · split
      · exact h.sync _
      · split
        · exact h.rename _ _
        · split
          · exact h.remove _
          · exact h.turn
def Cab.act (c : Cab) (s : StepS) : Cab :=
  if 1200000 < s.data.length then c
  else if 0 ≤ s.what ∧ s.what ≤ 5 then (c.chg s).1
  else if s.what = 6 then c.fail s.n
  else if s.what = 7 then c.crash s.n s.keep s.turn
  else c
def RCab.act (c : RCab) (s : StepS) : RCab :=
  if 1200000 < s.data.length then c
  else if 0 ≤ s.what ∧ s.what ≤ 5 then (c.chg s).1
  else if s.what = 6 then c.fail s.n
  else if s.what = 7 then c.crash s.n s.keep s.turn
  else c
theorem Sim.act {B : Nat} {c : Cab} {r : RCab} (h : Sim B c r) (s : StepS) (hn : s.n ≤ 9223372036854775807) : Sim (B + 2) (c.act s) (r.act s) := by
  unfold Cab.act RCab.act
  split
  · exact h.mono (Nat.le_add_right B 2)
  · split
    · exact (h.chg s).2
    · split
      · exact (h.fail s.n hn).mono (Nat.le_add_right B 2)
      · split
        · exact (h.crash _ _ _).mono (Nat.le_add_right B 2)
        · exact h.mono (Nat.le_add_right B 2)
theorem Sim.start (q : Int) (h1 : 1 ≤ q) (h2 : q ≤ 1073741824) : Sim 0 (Cab.new q) (RCab.new q) where
  quota := rfl
  q0 := h1
  q1 := h2
  off := rfl
  pow := .inl ⟨rfl, rfl⟩
  after1 := by show (0 : Int) ≤ 9223372036854775807; decide
  now := rfl
  sure := rfl
  wait := rfl
  fit := fun j x hx => by simp [Cab.new] at hx
  nows := rfl
  once := by simp [Cab.new, Folder.Once, Folder.keys]
  sures := fun y hy => by simp [Cab.new] at hy
  len := rfl
  files := fun i hi => by simp [RCab.taken, RCab.new, Folder.vals] at hi
  rest := fun i f hf => by simp [Cab.new] at hf
  all := fun f hf => by simp [Cab.new] at hf
  rall := fun f hf => by simp [RCab.new] at hf
  b1 := Nat.le_refl _
  b2 := Nat.le_refl _
  b3 := Nat.le_refl _
  b4 := Nat.le_refl _
end Chart

/- The pair of cabinets in memory; a call that may change something. -/
namespace Chart
open Go Go.RowKit Go.Proofs
attribute [local go_sem ↓] Go.wp_at_zero Go.wp_at_succ

structure PairAt (w : World) (pp : Nat) (c : Cab) (r : RCab) (pc pr : Nat) (D E : Nat → Prop) : Prop where
  blk : Blk w pp 33 #[.pointer (some ⟨pc, 0, none⟩), .pointer (some ⟨pr, 0, none⟩)]
  cab : CabAt w pc c D
  ref : RefAt w pr r E
  apart : ∀ k, D k → ¬ E k
  d : ¬ D pp
  e : ¬ E pp
/-- What a call on the pair leaves: of what was there only D and E have turned. -/
structure PAfter (w : World) (D E : Nat → Prop) (pp : Nat) (c : Cab) (r : RCab) (pc pr : Nat) (D' E' : Nat → Prop) (w' : World) : Prop where
  at_ : PairAt w' pp c r pc pr D' E'
  fr : Fr (fun k => D k ∨ E k) w w'
  newD : ∀ k, D' k → D k ∨ w.heap.size ≤ k
  newE : ∀ k, E' k → E k ∨ w.heap.size ≤ k

section
variable {w w' : World} {pp pc pr : Nat} {c c' : Cab} {r r' : RCab} {D E D' E' : Nat → Prop}
theorem PairAt.fr {Z : Nat → Prop} (h : PairAt w pp c r pc pr D E) (hf : Fr Z w w') (h1 : ¬ Z pp) (h2 : ∀ k, D k → ¬ Z k) (h3 : ∀ k, E k → ¬ Z k) : PairAt w' pp c r pc pr D E :=
  ⟨h.blk.fr hf h1, h.cab.fr hf h2, h.ref.fr hf h3, h.apart, h.d, h.e⟩
theorem PAfter.same (h : PairAt w pp c r pc pr D E) : PAfter w D E pp c r pc pr D E w := ⟨h, Fr.refl _ _, fun _ h => .inl h, fun _ h => .inl h⟩
theorem PAfter.trans {w1 w2 : World} {D1 E1 D2 E2 : Nat → Prop} {c1 c2 : Cab} {r1 r2 : RCab} (h : PAfter w D E pp c1 r1 pc pr D1 E1 w1) (k : PAfter w1 D1 E1 pp c2 r2 pc pr D2 E2 w2) : PAfter w D E pp c2 r2 pc pr D2 E2 w2 :=
  ⟨k.at_, h.fr.trans k.fr fun i hi => by
      rcases hi with hi | hi
      · rcases h.newD i hi with h | h
        · exact .inl (.inl h)
        · exact .inr h
      · rcases h.newE i hi with h | h
        · exact .inl (.inr h)
        · exact .inr h,
    fun i hi => by
      rcases k.newD i hi with hi | hi
      · exact h.newD i hi
      · exact .inr (Nat.le_trans h.fr.size hi),
    fun i hi => by
      rcases k.newE i hi with hi | hi
      · exact h.newE i hi
      · exact .inr (Nat.le_trans h.fr.size hi)⟩
/-- A call on the program's cabinet. -/
theorem PairAt.onCab (h : PairAt w pp c r pc pr D E) (k : After w D pc c' D' w') : PAfter w D E pp c' r pc pr D' E w' := by
  have hlt : ∀ k, E k → k < w.heap.size := fun _ => h.ref.below
  refine ⟨⟨h.blk.fr k.fr h.d, k.at_, h.ref.fr k.fr fun i hi e => h.apart i e hi, fun i hi he => ?_, fun e => ?_, h.e⟩, k.fr.mono fun _ _ h => .inl h, k.new, fun _ h => .inl h⟩
  · rcases k.new i hi with h1 | h1
    · exact h.apart i h1 he
    · have := hlt i he
      omega
  · rcases k.new pp e with h1 | h1
    · exact h.d h1
    · have := h.blk.lt
      omega
/-- A call on the document's. -/
theorem PairAt.onRef (h : PairAt w pp c r pc pr D E) (k : RAfter w E pr r' E' w') : PAfter w D E pp c r' pc pr D E' w' := by
  have hlt : ∀ k, D k → k < w.heap.size := fun _ => h.cab.below
  refine ⟨⟨h.blk.fr k.fr h.e, h.cab.fr k.fr fun i hi e => h.apart i hi e, k.at_, fun i hi he => ?_, h.d, fun e => ?_⟩, k.fr.mono fun _ _ h => .inr h, fun _ h => .inl h, k.new⟩
  · rcases k.new i he with h1 | h1
    · exact h.apart i hi h1
    · have := hlt i hi
      omega
  · rcases k.new pp e with h1 | h1
    · exact h.e h1
    · have := h.blk.lt
      omega
theorem PAfter.drewN (h : PAfter w D E pp c r pc pr D' E' w') (n : Nat) : PAfter w D E pp c r pc pr D' E' (w'.drewN n) :=
  ⟨h.at_.fr ((Fr.refl (fun _ => False) w').drewN n) id (fun _ _ => id) fun _ _ => id, h.fr.drewN n, h.newD, h.newE⟩
theorem PAfter.drew (h : PAfter w D E pp c r pc pr D' E' w') : PAfter w D E pp c r pc pr D' E' w'.drew :=
  ⟨h.at_.fr ((Fr.refl (fun _ => False) w').drew) id (fun _ _ => id) fun _ _ => id, h.fr.drew, h.newD, h.newE⟩
end

/-- A Step as a value; what it reads as. -/
def stepV (s : StepS) (DV KV : Value) : Value := .agg #[.int .i64 s.what, .string (str s.old), .string (str s.name), DV, .int .i64 s.n, KV, .int .u8 s.turn.toNat]
structure StepOk (w : World) (s : StepS) (DV KV : Value) (Z : Nat → Prop) : Prop where
  data : BytesSrc w DV s.data
  keep : Src w 1 KV s.keep.length (s.keep.map (Value.int .i64))
  dz : ∀ k, DV.ownBlock = some k → 0 < s.data.length → ¬ Z k
  kz : ∀ k, KV.ownBlock = some k → 0 < s.keep.length → ¬ Z k
  old : s.old.length ≤ maxLen
  name : s.name.length ≤ maxLen
  n0 : -9223372036854775808 ≤ s.n
  n1 : s.n ≤ 9223372036854775807
  kb : s.keep.length * 8 ≤ 140737488355328

theorem StepOk.fr {w w' : World} {s : StepS} {DV KV : Value} {Z : Nat → Prop} (h : StepOk w s DV KV Z) (hf : Fr (fun _ => False) w w') : StepOk w' s DV KV Z :=
  ⟨h.data.fr hf fun _ _ _ => id, h.keep.fr hf fun _ _ _ => id, h.dz, h.kz, h.old, h.name, h.n0, h.n1, h.kb⟩

section
variable {w w' : World} {pp pc pr : Nat} {c c' : Cab} {r r' : RCab} {D E D' E' : Nat → Prop} {B : Nat}
set_option maxRecDepth 100000 in
set_option maxHeartbeats 4000000 in
theorem change_calls (h : PairAt w pp c r pc pr D E) (hs : Sim B c r) (hB : B ≤ 90000) (s : StepS) (DV KV : Value) (hok : StepOk w s DV KV (fun k => D k ∨ E k)) (hdl : s.data.length ≤ 1200000) (hw0 : 0 ≤ s.what) (hw5 : s.what ≤ 5) :
    Calls Tryd.prog 35 #[.pointer (some ⟨pp, 0, none⟩), stepV s DV KV] w fun e w' => e = .returned (.tuple #[.int .i64 (c.chg s).2, .int .i64 (r.chg s).2]) ∧ ∃ D' E', PAfter w D E pp (c.chg s).1 (r.chg s).1 pc pr D' E' w' := by
  have hn := hs.num (by omega)
  obtain ⟨a0, a1⟩ := hs.afters
  obtain ⟨what, old, name, data, n, keep, turn⟩ := s
  unfold stepV
  simp only at hdl hw0 hw5 hok ⊢
  obtain ⟨_, DA, dc, rfl, hdc, hdm, _, _⟩ := id hok.data
  obtain ⟨_, KA, kc, rfl, hkc, hkm, _, _⟩ := id hok.keep
  have hbox := Blk.new w 38 #[.int .i64 what, .string (str old), .string (str name), .slice DA data.length dc, .int .i64 n, .slice KA keep.length kc, .int .u8 turn.toNat]
  have hfr0 : Fr (fun _ => False) w (w.alloc (.cells #[.int .i64 what, .string (str old), .string (str name), .slice DA data.length dc, .int .i64 n, .slice KA keep.length kc, .int .u8 turn.toNat] 38)) := (Fr.refl (fun _ => False) w).alloc _
  have h0 := h.fr hfr0 id (fun _ _ => id) fun _ _ => id
  have hlD : ∀ k, D k → k < w.heap.size := fun _ => h.cab.below
  have hlE : ∀ k, E k → k < w.heap.size := fun _ => h.ref.below
  by_cases w0 : what = 0
  · subst w0
    go_enter Tryd.func35, Tryd.ntmps35
    go_wp2_with fail
    generalize w.alloc (.cells #[.int .i64 0, .string (str old), .string (str name), .slice DA data.length dc, .int .i64 n, .slice KA keep.length kc, .int .u8 turn.toNat] 38) = W at *
    obtain ⟨X, hX⟩ : ∃ X, X = w.heap.size := ⟨_, rfl⟩
    rw [← hX] at hbox ⊢
    have xD : ¬ D X := fun e => by have := hlD X e; omega
    have xE : ¬ E X := fun e => by have := hlE X e; omega
    have HX := Lib.hid hX
    clear hX
    have p0 : W.cell? ⟨pp, 0, none⟩ = some (.pointer (some ⟨pc, 0, none⟩)) := h0.blk.cell 0
    have p1 : W.cell? ⟨pp, 1, none⟩ = some (.pointer (some ⟨pr, 0, none⟩)) := h0.blk.cell 1
    have x2 : W.cell? ⟨X, 2, none⟩ = some (.string (str name)) := hbox.cell 2
    go_region_held3 (fun w' => w'.cell? ⟨pp, 0, none⟩ = some (.pointer (some ⟨pc, 0, none⟩)) ∧ w'.cell? ⟨pp, 1, none⟩ = some (.pointer (some ⟨pr, 0, none⟩)) ∧ w'.cell? ⟨X, 2, none⟩ = some (.string (str name))) (first | go_keep | exact ⟨hA2.fr.cell (hA1.fr.undrew.cell p0 h0.d) h0.e, hA2.fr.cell (hA1.fr.undrew.cell p1 h0.d) h0.e, hA2.fr.cell (hA1.fr.undrew.cell x2 xD) xE⟩ | exact ⟨hA1.fr.undrew.cell p0 h0.d, hA1.fr.undrew.cell p1 h0.d, hA1.fr.undrew.cell x2 xD⟩) ((first
      | (go_at_call 19; refine (create_calls h0.cab.drew name hok.name a0 a1 (Nat.le_trans (Nat.le_trans (Nat.le_add_left _ _) hs.b2) (Nat.le_trans hB (by decide))) (Nat.le_trans hs.b1 (Nat.le_trans hB (by decide))) (hs.getD (Nat.le_trans hB (by decide)))).mono ?_; rintro e w1 ⟨rfl, D1, hA1⟩)
      | (go_at_call 67; refine (rcreate_calls ((h0.fr ((Fr.refl (fun _ => False) W).drew) id (fun _ _ => id) fun _ _ => id).onCab hA1).at_.ref hn name hok.name).mono ?_; rintro e w2 ⟨rfl, E1, hA2⟩)))
    go_wp2_with fail
    go_ret2
    have hP0 : PAfter w D E pp c r pc pr D E W.drew := ⟨h0.fr ((Fr.refl (fun _ => False) W).drew) id (fun _ _ => id) fun _ _ => id, (hfr0.mono fun _ _ h => h.elim).drew, fun _ h => .inl h, fun _ h => .inl h⟩
    have hP1 := hP0.at_.onCab hA1
    exact ⟨rfl, D1, E1, (hP0.trans hP1).trans (hP1.at_.onRef hA2)⟩
  by_cases w2 : what = 2
  · subst w2
    go_enter Tryd.func35, Tryd.ntmps35
    go_wp2_with fail
    generalize w.alloc (.cells #[.int .i64 2, .string (str old), .string (str name), .slice DA data.length dc, .int .i64 n, .slice KA keep.length kc, .int .u8 turn.toNat] 38) = W at *
    obtain ⟨X, hX⟩ : ∃ X, X = w.heap.size := ⟨_, rfl⟩
    rw [← hX] at hbox ⊢
    have xD : ¬ D X := fun e => by have := hlD X e; omega
    have xE : ¬ E X := fun e => by have := hlE X e; omega
    have HX := Lib.hid hX
    clear hX
    have p0 : W.cell? ⟨pp, 0, none⟩ = some (.pointer (some ⟨pc, 0, none⟩)) := h0.blk.cell 0
    have p1 : W.cell? ⟨pp, 1, none⟩ = some (.pointer (some ⟨pr, 0, none⟩)) := h0.blk.cell 1
    have x2 : W.cell? ⟨X, 2, none⟩ = some (.string (str name)) := hbox.cell 2
    go_region_held3 (fun w' => w'.cell? ⟨pp, 0, none⟩ = some (.pointer (some ⟨pc, 0, none⟩)) ∧ w'.cell? ⟨pp, 1, none⟩ = some (.pointer (some ⟨pr, 0, none⟩)) ∧ w'.cell? ⟨X, 2, none⟩ = some (.string (str name))) (first | go_keep | exact ⟨hA2.fr.cell (hA1.fr.undrew.cell p0 h0.d) h0.e, hA2.fr.cell (hA1.fr.undrew.cell p1 h0.d) h0.e, hA2.fr.cell (hA1.fr.undrew.cell x2 xD) xE⟩ | exact ⟨hA1.fr.undrew.cell p0 h0.d, hA1.fr.undrew.cell p1 h0.d, hA1.fr.undrew.cell x2 xD⟩) ((first
      | (go_at_call 21; refine (sync_calls h0.cab.drew name hok.name a0 a1 hs.nnow).mono ?_; rintro e w1 ⟨rfl, D1, hA1⟩)
      | (go_at_call 69; refine (rsync_calls ((h0.fr ((Fr.refl (fun _ => False) W).drew) id (fun _ _ => id) fun _ _ => id).onCab hA1).at_.ref hn name).mono ?_; rintro e w2 ⟨rfl, E1, hA2⟩)))
    go_wp2_with fail
    go_ret2
    have hP0 : PAfter w D E pp c r pc pr D E W.drew := ⟨h0.fr ((Fr.refl (fun _ => False) W).drew) id (fun _ _ => id) fun _ _ => id, (hfr0.mono fun _ _ h => h.elim).drew, fun _ h => .inl h, fun _ h => .inl h⟩
    have hP1 := hP0.at_.onCab hA1
    exact ⟨rfl, D1, E1, (hP0.trans hP1).trans (hP1.at_.onRef hA2)⟩
  by_cases w3 : what = 3
  · subst w3
    go_enter Tryd.func35, Tryd.ntmps35
    go_wp2_with fail
    generalize w.alloc (.cells #[.int .i64 3, .string (str old), .string (str name), .slice DA data.length dc, .int .i64 n, .slice KA keep.length kc, .int .u8 turn.toNat] 38) = W at *
    obtain ⟨X, hX⟩ : ∃ X, X = w.heap.size := ⟨_, rfl⟩
    rw [← hX] at hbox ⊢
    have xD : ¬ D X := fun e => by have := hlD X e; omega
    have xE : ¬ E X := fun e => by have := hlE X e; omega
    have HX := Lib.hid hX
    clear hX
    have p0 : W.cell? ⟨pp, 0, none⟩ = some (.pointer (some ⟨pc, 0, none⟩)) := h0.blk.cell 0
    have p1 : W.cell? ⟨pp, 1, none⟩ = some (.pointer (some ⟨pr, 0, none⟩)) := h0.blk.cell 1
    have x1 : W.cell? ⟨X, 1, none⟩ = some (.string (str old)) := hbox.cell 1
    have x2 : W.cell? ⟨X, 2, none⟩ = some (.string (str name)) := hbox.cell 2
    go_region_held3 (fun w' => w'.cell? ⟨pp, 0, none⟩ = some (.pointer (some ⟨pc, 0, none⟩)) ∧ w'.cell? ⟨pp, 1, none⟩ = some (.pointer (some ⟨pr, 0, none⟩)) ∧ w'.cell? ⟨X, 1, none⟩ = some (.string (str old)) ∧ w'.cell? ⟨X, 2, none⟩ = some (.string (str name))) (first | go_keep | exact ⟨hA2.fr.cell (hA1.fr.undrew.cell p0 h0.d) h0.e, hA2.fr.cell (hA1.fr.undrew.cell p1 h0.d) h0.e, hA2.fr.cell (hA1.fr.undrew.cell x1 xD) xE, hA2.fr.cell (hA1.fr.undrew.cell x2 xD) xE⟩ | exact ⟨hA1.fr.undrew.cell p0 h0.d, hA1.fr.undrew.cell p1 h0.d, hA1.fr.undrew.cell x1 xD, hA1.fr.undrew.cell x2 xD⟩) ((first
      | (go_at_call 22; refine (rename2_calls h0.cab.drew old name hok.old hok.name a0 a1 (Nat.lt_of_le_of_lt hs.b3 (Nat.lt_of_le_of_lt hB (by decide))) (Nat.le_trans (Nat.le_trans (Nat.le_add_left _ _) hs.b2) (Nat.le_trans hB (by decide))) (hs.getD (Nat.le_trans hB (by decide)))).mono ?_; rintro e w1 ⟨rfl, D1, hA1⟩)
      | (go_at_call 70; refine (rrename_calls ((h0.fr ((Fr.refl (fun _ => False) W).drew) id (fun _ _ => id) fun _ _ => id).onCab hA1).at_.ref hn old name hok.name).mono ?_; rintro e w2 ⟨rfl, E1, hA2⟩)))
    go_wp2_with fail
    go_ret2
    have hP0 : PAfter w D E pp c r pc pr D E W.drew := ⟨h0.fr ((Fr.refl (fun _ => False) W).drew) id (fun _ _ => id) fun _ _ => id, (hfr0.mono fun _ _ h => h.elim).drew, fun _ h => .inl h, fun _ h => .inl h⟩
    have hP1 := hP0.at_.onCab hA1
    exact ⟨rfl, D1, E1, (hP0.trans hP1).trans (hP1.at_.onRef hA2)⟩
  by_cases w4 : what = 4
  · subst w4
    go_enter Tryd.func35, Tryd.ntmps35
    go_wp2_with fail
    generalize w.alloc (.cells #[.int .i64 4, .string (str old), .string (str name), .slice DA data.length dc, .int .i64 n, .slice KA keep.length kc, .int .u8 turn.toNat] 38) = W at *
    obtain ⟨X, hX⟩ : ∃ X, X = w.heap.size := ⟨_, rfl⟩
    rw [← hX] at hbox ⊢
    have xD : ¬ D X := fun e => by have := hlD X e; omega
    have xE : ¬ E X := fun e => by have := hlE X e; omega
    have HX := Lib.hid hX
    clear hX
    have p0 : W.cell? ⟨pp, 0, none⟩ = some (.pointer (some ⟨pc, 0, none⟩)) := h0.blk.cell 0
    have p1 : W.cell? ⟨pp, 1, none⟩ = some (.pointer (some ⟨pr, 0, none⟩)) := h0.blk.cell 1
    have x2 : W.cell? ⟨X, 2, none⟩ = some (.string (str name)) := hbox.cell 2
    go_region_held3 (fun w' => w'.cell? ⟨pp, 0, none⟩ = some (.pointer (some ⟨pc, 0, none⟩)) ∧ w'.cell? ⟨pp, 1, none⟩ = some (.pointer (some ⟨pr, 0, none⟩)) ∧ w'.cell? ⟨X, 2, none⟩ = some (.string (str name))) (first | go_keep | exact ⟨hA2.fr.cell (hA1.fr.undrew.cell p0 h0.d) h0.e, hA2.fr.cell (hA1.fr.undrew.cell p1 h0.d) h0.e, hA2.fr.cell (hA1.fr.undrew.cell x2 xD) xE⟩ | exact ⟨hA1.fr.undrew.cell p0 h0.d, hA1.fr.undrew.cell p1 h0.d, hA1.fr.undrew.cell x2 xD⟩) ((first
      | (go_at_call 23; refine (remove_calls h0.cab.drew name hok.name a0 a1 (Nat.lt_of_le_of_lt hs.b3 (Nat.lt_of_le_of_lt hB (by decide))) (Nat.le_trans (Nat.le_trans (Nat.le_add_left _ _) hs.b2) (Nat.le_trans hB (by decide))) (hs.getD (Nat.le_trans hB (by decide)))).mono ?_; rintro e w1 ⟨rfl, D1, hA1⟩)
      | (go_at_call 71; refine (rremove_calls ((h0.fr ((Fr.refl (fun _ => False) W).drew) id (fun _ _ => id) fun _ _ => id).onCab hA1).at_.ref hn name).mono ?_; rintro e w2 ⟨rfl, E1, hA2⟩)))
    go_wp2_with fail
    go_ret2
    have hP0 : PAfter w D E pp c r pc pr D E W.drew := ⟨h0.fr ((Fr.refl (fun _ => False) W).drew) id (fun _ _ => id) fun _ _ => id, (hfr0.mono fun _ _ h => h.elim).drew, fun _ h => .inl h, fun _ h => .inl h⟩
    have hP1 := hP0.at_.onCab hA1
    exact ⟨rfl, D1, E1, (hP0.trans hP1).trans (hP1.at_.onRef hA2)⟩
  by_cases w1 : what = 1
  · subst w1
    obtain ⟨i0, hi0, hz0, hz1, hz2⟩ := info_parts u8_info
    go_enter Tryd.func35, Tryd.ntmps35
    go_wp2_with fail
    have hdat := hok.data.fr hfr0 fun _ _ _ => id
    generalize w.alloc (.cells #[.int .i64 1, .string (str old), .string (str name), .slice DA data.length dc, .int .i64 n, .slice KA keep.length kc, .int .u8 turn.toNat] 38) = W at *
    obtain ⟨X, hX⟩ : ∃ X, X = w.heap.size := ⟨_, rfl⟩
    rw [← hX] at hbox ⊢
    have xD : ¬ D X := fun e => by have := hlD X e; omega
    have xE : ¬ E X := fun e => by have := hlE X e; omega
    have HX := Lib.hid hX
    clear hX
    have HDAT := Lib.hid hdat
    have hsz := hfr0.size
    have p0 : W.cell? ⟨pp, 0, none⟩ = some (.pointer (some ⟨pc, 0, none⟩)) := h0.blk.cell 0
    have p1 : W.cell? ⟨pp, 1, none⟩ = some (.pointer (some ⟨pr, 0, none⟩)) := h0.blk.cell 1
    have x2 : W.cell? ⟨X, 2, none⟩ = some (.string (str name)) := hbox.cell 2
    have x3 : W.cell? ⟨X, 3, none⟩ = some (.slice DA data.length dc) := hbox.cell 3
    have hbD : ∀ v3 : Value, (v3.ownBlock = (Value.slice (some ⟨W.heap.size, 0, none⟩) 0 0).ownBlock ∨ v3.ownBlock = some ((W.alloc (.cells #[] 5)).drew).heap.size) → ∀ k, v3.ownBlock = some k → ¬ D k ∧ ¬ E k := fun v3 hv k hk => by
      have hk2 : w.heap.size ≤ k := by
        rcases hv with hv | hv
        · rw [hv] at hk
          simp [Value.ownBlock] at hk
          omega
        · rw [hv] at hk
          injection hk with hk
          have e : ((W.alloc (.cells #[] 5)).drew).heap.size = W.heap.size + 1 := by
            show (W.alloc (.cells #[] 5)).heap.size = _
            simp
          omega
      exact ⟨fun e => by have := hlD k e; omega, fun e => by have := hlE k e; omega⟩
    go_region_held3 (fun w' => w'.cell? ⟨pp, 0, none⟩ = some (.pointer (some ⟨pc, 0, none⟩)) ∧ w'.cell? ⟨pp, 1, none⟩ = some (.pointer (some ⟨pr, 0, none⟩)) ∧ w'.cell? ⟨X, 2, none⟩ = some (.string (str name)) ∧ w'.cell? ⟨X, 3, none⟩ = some (.slice DA data.length dc)) (first | go_keep | exact ⟨hA2.fr.cell (hA1.fr.cell (F3.cell p0 id) h0.d) h0.e, hA2.fr.cell (hA1.fr.cell (F3.cell p1 id) h0.d) h0.e, hA2.fr.cell (hA1.fr.cell (F3.cell x2 id) xD) xE, hA2.fr.cell (hA1.fr.cell (F3.cell x3 id) xD) xE⟩ | exact ⟨hA1.fr.cell (F3.cell p0 id) h0.d, hA1.fr.cell (F3.cell p1 id) h0.d, hA1.fr.cell (F3.cell x2 id) xD, hA1.fr.cell (F3.cell x3 id) xD⟩ | exact ⟨F3.cell p0 id, F3.cell p1 id, F3.cell x2 id, F3.cell x3 id⟩) ((first
      | (refine step_append_row _ (by rfl) (.tmp 32) (.tmp 34) 35 (by rfl) 5 i0 _ 1 1 Tryd.underlying35 hi0 hz0 hz1 hz2 (by rfl) (by decide) (.slice (some ⟨W.heap.size, 0, none⟩) 0 0) 0 [] (by rfl) (Row.made W 5 1 0 #[] rfl (Nat.zero_le _)).drew (.slice DA data.length dc) data.length (bytesV data) (by rfl) (HDAT.out.alloc _).drew (bytesV_one data) (by simp only [maxLen]; omega) (by omega) ?_; intro v3 w3 hrow3 hfr3 hwh3; have F3 : Fr (fun _ => False) W w3 := (((Fr.refl (fun _ => False) W).alloc _).drew).trans hfr3 fun q hq => .inr (by simp [Value.ownBlock] at hq; omega))
      | (go_at_call 20; refine (append_calls (h0.cab.fr F3 fun _ _ => id) name hok.name a0 a1 hs.q0 hs.q1 hs.nnow (fun f hf => (hs.all f hf).1) (Nat.le_trans hs.b1 (Nat.le_trans hB (by decide))) data v3 (by simpa using hrow3.src) (fun k hk _ => (hbD v3 hwh3 k hk).1)).mono ?_; rintro e w1 ⟨rfl, D1, hA1⟩)
      | (go_at_call 68; refine (rappend_calls ((h0.fr F3 id (fun _ _ => id) fun _ _ => id).onCab hA1).at_.ref hn name data (.slice DA data.length dc) ((HDAT.out.fr F3 fun _ _ _ => id).frl hA1.fr fun k hk h0 e => hok.dz k hk h0 (.inl e)) (fun k hk h0 e => hok.dz k hk h0 (.inr e))).mono ?_; rintro e w2 ⟨rfl, E1, hA2⟩)))
    go_wp2_with fail
    go_ret2
    have hP0 : PAfter w D E pp c r pc pr D E w3 := ⟨h0.fr F3 id (fun _ _ => id) fun _ _ => id, (hfr0.mono (D' := fun k => D k ∨ E k) fun _ _ h => h.elim).trans F3 fun _ h => h.elim, fun _ h => .inl h, fun _ h => .inl h⟩
    have hP1 := hP0.at_.onCab hA1
    exact ⟨rfl, D1, E1, (hP0.trans hP1).trans (hP1.at_.onRef hA2)⟩
  obtain w5 : what = 5 := by omega
  subst w5
  go_enter Tryd.func35, Tryd.ntmps35
  go_wp2_with fail
  generalize w.alloc (.cells #[.int .i64 5, .string (str old), .string (str name), .slice DA data.length dc, .int .i64 n, .slice KA keep.length kc, .int .u8 turn.toNat] 38) = W at *
  obtain ⟨X, hX⟩ : ∃ X, X = w.heap.size := ⟨_, rfl⟩
  rw [← hX] at hbox ⊢
  have xD : ¬ D X := fun e => by have := hlD X e; omega
  have xE : ¬ E X := fun e => by have := hlE X e; omega
  have HX := Lib.hid hX
  clear hX
  have p0 : W.cell? ⟨pp, 0, none⟩ = some (.pointer (some ⟨pc, 0, none⟩)) := h0.blk.cell 0
  have p1 : W.cell? ⟨pp, 1, none⟩ = some (.pointer (some ⟨pr, 0, none⟩)) := h0.blk.cell 1
  go_region_held3 (fun w' => w'.cell? ⟨pp, 0, none⟩ = some (.pointer (some ⟨pc, 0, none⟩)) ∧ w'.cell? ⟨pp, 1, none⟩ = some (.pointer (some ⟨pr, 0, none⟩))) (first | go_keep | exact ⟨hA2.fr.cell (hA1.fr.undrew.cell p0 h0.d) h0.e, hA2.fr.cell (hA1.fr.undrew.cell p1 h0.d) h0.e⟩ | exact ⟨hA1.fr.undrew.cell p0 h0.d, hA1.fr.undrew.cell p1 h0.d⟩) ((first
    | (go_at_call 24; refine (turn_calls h0.cab.drew a0 a1 (Nat.le_trans hs.b1 (Nat.le_trans hB (by decide)))).mono ?_; rintro e w1 ⟨rfl, D1, hA1⟩)
    | (go_at_call 72; refine (rturn_calls ((h0.fr ((Fr.refl (fun _ => False) W).drew) id (fun _ _ => id) fun _ _ => id).onCab hA1).at_.ref hn).mono ?_; rintro e w2 ⟨rfl, E1, hA2⟩)))
  go_wp2_with fail
  go_ret2
  have hP0 : PAfter w D E pp c r pc pr D E W.drew := ⟨h0.fr ((Fr.refl (fun _ => False) W).drew) id (fun _ _ => id) fun _ _ => id, (hfr0.mono fun _ _ h => h.elim).drew, fun _ h => .inl h, fun _ h => .inl h⟩
  have hP1 := hP0.at_.onCab hA1
  exact ⟨rfl, D1, E1, (hP0.trans hP1).trans (hP1.at_.onRef hA2)⟩
end
end Chart

/- play: a call, and what is to be seen behind it. -/
namespace Chart
open Go Go.RowKit Go.Proofs
attribute [local go_sem ↓] Go.wp_at_zero Go.wp_at_succ

section
variable {w w' : World} {p : Nat} {c : RCab} {D : Nat → Prop}
theorem RefAt.read (h : RefAt w p c D) (k : Txt) (hnn : ∀ x ∈ c.now, x.2 < c.files.length) :
    Calls Tryd.prog 38 #[.pointer (some ⟨p, 0, none⟩), .string (str k)] w fun e w' => e = .returned (.tuple #[.string (str (c.read k).1), .int .i64 (c.read k).2]) ∧ w = w' := by
  obtain ⟨fv, nv, sv, wv, hi, hD, hlt⟩ := h
  exact hi.read k hnn
theorem RefAt.namesOf (h : RefAt w p c D) (hn : c.now.length ≤ 10000000) :
    Calls Tryd.prog 39 #[.pointer (some ⟨p, 0, none⟩)] w fun e w' => ∃ v', e = .returned (.tuple #[v', .int .i64 c.namesOf.2]) ∧ Row w' 9 1 v' c.namesOf.1.length (strV c.namesOf.1) ∧ (∀ q, v'.ownBlock = some q → w.heap.size ≤ q) ∧ Fr (fun _ => False) w w' := by
  obtain ⟨fv, nv, sv, wv, hi, hD, hlt⟩ := h
  exact hi.names hn
theorem RefAt.fail (h : RefAt w p c D) (n : Int) :
    Calls Tryd.prog 36 #[.pointer (some ⟨p, 0, none⟩), .int .i64 n] w fun e w' => e = .returned (.tuple #[]) ∧ RAfter w D p (c.fail n) D w' := by
  obtain ⟨fv, nv, sv, wv, hi, hD, hlt⟩ := h
  refine (hi.fail n).mono fun e w' ⟨h1, h2, h3⟩ => ⟨h1, ⟨fv, nv, sv, wv, h2, hD, fun k hk => Nat.lt_of_lt_of_le (hlt k hk) h3.size⟩, h3.mono fun k _ e => ?_, fun k hk => .inl hk⟩
  subst e
  exact hD _ (.inl rfl)
theorem CabAt.fail {c : Cab} (h : CabAt w p c D) (n : Int) :
    Calls Tryd.prog 14 #[.pointer (some ⟨p, 0, none⟩), .int .i64 n] w fun e w' => e = .returned (.tuple #[]) ∧ After w D p (c.fail n) D w' := by
  obtain ⟨fv, avs, nb, sb, wv, hi, hD, hlt⟩ := h
  refine (hi.fail n).mono fun e w' ⟨h1, h2, h3⟩ => ⟨h1, ⟨fv, avs, nb, sb, wv, h2, hD, fun k hk => Nat.lt_of_lt_of_le (hlt k hk) h3.size⟩, h3.mono fun k _ e => ?_, fun k hk => .inl hk⟩
  subst e
  exact hD _ (.inl rfl)
theorem RefAt.crash (h : RefAt w p c D) (ok : RCrashOk c) (names : Int) (KV : Value) (keep : List Int) (hK : Src w 1 KV keep.length (keep.map (Value.int .i64))) (hKD : ∀ k, KV.ownBlock = some k → 0 < keep.length → ¬ D k) (turn : UInt8) :
    Calls Tryd.prog 37 #[.pointer (some ⟨p, 0, none⟩), .int .i64 names, KV, .int .u8 turn.toNat] w fun e w' => e = .returned (.tuple #[]) ∧ ∃ D', RAfter w D p (c.crash names keep turn) D' w' := by
  obtain ⟨fv, nv, sv, wv, hi, hD, hlt⟩ := h
  refine (hi.crash ok names KV keep hK (fun k hk h0 e => hKD k hk h0 (hD _ (.inr (.inl e)))) turn).mono fun e w' ⟨h1, lv, h2, h3, h4⟩ => ⟨h1, RefOwn p fv lv lv (.slice none 0 0), ⟨fv, lv, lv, _, h2, fun _ h => h, h2.lt⟩, h4.mono fun k _ hk => ?_, ?_⟩
  · rcases hk with rfl | hk
    · exact hD _ (.inl rfl)
    · exact hD _ (.inr (.inl hk))
  · have hl : ∀ k, lv.ownBlock = some k → D k ∨ w.heap.size ≤ k := fun k hk => by
      rcases h3 k hk with h | h
      · exact .inl (hD _ (.inr (.inr (.inr (.inl h)))))
      · exact .inr h
    rintro k (rfl | hk | hk | hk | hk)
    · exact .inl (hD _ (.inl rfl))
    · exact .inl (hD _ (.inr (.inl hk)))
    · exact hl k hk
    · exact hl k hk
    · simp [Value.ownBlock] at hk
end
theorem int_info : (Tryd.prog.info? 3).map (fun i => (i.zero, i.size, i.bytes)) = some (some (.int .i64 0), 1, 8) := by kernel_rfl
theorem ints_one (l : List Int) : ∀ u ∈ l.map (Value.int .i64), u.oneCell' = true := by
  intro u hu
  rw [List.mem_map] at hu
  obtain ⟨x, _, rfl⟩ := hu
  rfl
/-- What play leaves. -/
def PlayPost (w : World) (D E : Nat → Prop) (pp : Nat) (c : Cab) (r : RCab) (pc pr : Nat) (w' : World) : Prop := ∃ D' E', PAfter w D E pp c r pc pr D' E' w'
section
variable {w w' : World} {pp pc pr : Nat} {c c' : Cab} {r r' : RCab} {D E D' E' : Nat → Prop} {B : Nat}
set_option maxRecDepth 100000 in
set_option maxHeartbeats 4000000 in
theorem play_long (h : PairAt w pp c r pc pr D E) (hs : Sim B c r) (hB : B ≤ 80000) (s : StepS) (DV KV : Value) (hok : StepOk w s DV KV (fun k => D k ∨ E k)) (hlong : 1200000 < s.data.length) :
    Calls Tryd.prog 13 #[.pointer (some ⟨pp, 0, none⟩), stepV s DV KV] w fun e w' => e = .returned (.bool true) ∧ PlayPost w D E pp (c.act s) (r.act s) pc pr w' := by
  have hS0 := hs.act s hok.n1
  obtain ⟨what, old, name, data, n, keep, turn⟩ := s
  have hSA : Cab.act c ⟨what, old, name, data, n, keep, turn⟩ = Cab.act c ⟨what, old, name, data, n, keep, turn⟩ := rfl
  unfold stepV
  simp only at hok ⊢
  obtain ⟨_, DA, dc, rfl, hdc, hdm, _, _⟩ := id hok.data
  obtain ⟨_, KA, kc, rfl, hkc, hkm, _, _⟩ := id hok.keep
  have hbox := Blk.new w 38 #[.int .i64 what, .string (str old), .string (str name), .slice DA data.length dc, .int .i64 n, .slice KA keep.length kc, .int .u8 turn.toNat]
  have hfr0 : Fr (fun _ => False) w (w.alloc (.cells #[.int .i64 what, .string (str old), .string (str name), .slice DA data.length dc, .int .i64 n, .slice KA keep.length kc, .int .u8 turn.toNat] 38)) := (Fr.refl (fun _ => False) w).alloc _
  have h0 := h.fr hfr0 id (fun _ _ => id) fun _ _ => id
  have hlD : ∀ k, D k → k < w.heap.size := fun _ => h.cab.below
  have hlE : ∀ k, E k → k < w.heap.size := fun _ => h.ref.below
  have hP00 : PAfter w D E pp c r pc pr D E (w.alloc (.cells #[.int .i64 what, .string (str old), .string (str name), .slice DA data.length dc, .int .i64 n, .slice KA keep.length kc, .int .u8 turn.toNat] 38)) := ⟨h0, hfr0.mono fun _ _ h => h.elim, fun _ h => .inl h, fun _ h => .inl h⟩
  simp only at hlong
  have hl2 : (1200000 : Int) < (data.length : Int) := by omega
  have e1 : Cab.act c ⟨what, old, name, data, n, keep, turn⟩ = c := by unfold Cab.act; rw [if_pos hlong]
  have e2 : RCab.act r ⟨what, old, name, data, n, keep, turn⟩ = r := by unfold RCab.act; rw [if_pos hlong]
  rw [e1, e2]
  clear e1 e2 hSA hS0
  have HP := Lib.hid hP00
  clear hP00 hbox h0 hfr0
  go_enter Tryd.func13, Tryd.ntmps13
  go_wp2_with fail
  go_ret
  exact ⟨rfl, D, E, HP.out⟩
end
end Chart

/- play: the calls that change. -/
namespace Chart
open Go Go.RowKit Go.Proofs
attribute [local go_sem ↓] Go.wp_at_zero Go.wp_at_succ

section
variable {w w' : World} {pp pc pr : Nat} {c c' : Cab} {r r' : RCab} {D E D' E' : Nat → Prop} {B : Nat}
set_option maxRecDepth 100000 in
set_option maxHeartbeats 4000000 in
theorem play_chg (h : PairAt w pp c r pc pr D E) (hs : Sim B c r) (hB : B ≤ 80000) (s : StepS) (DV KV : Value) (hok : StepOk w s DV KV (fun k => D k ∨ E k)) (hlong : ¬ 1200000 < s.data.length) (hw : 0 ≤ s.what ∧ s.what ≤ 5) :
    Calls Tryd.prog 13 #[.pointer (some ⟨pp, 0, none⟩), stepV s DV KV] w fun e w' => e = .returned (.bool true) ∧ PlayPost w D E pp (c.act s) (r.act s) pc pr w' := by
  have hS0 := hs.act s hok.n1
  obtain ⟨what, old, name, data, n, keep, turn⟩ := s
  have hSA : Cab.act c ⟨what, old, name, data, n, keep, turn⟩ = Cab.act c ⟨what, old, name, data, n, keep, turn⟩ := rfl
  unfold stepV
  simp only at hok ⊢
  obtain ⟨_, DA, dc, rfl, hdc, hdm, _, _⟩ := id hok.data
  obtain ⟨_, KA, kc, rfl, hkc, hkm, _, _⟩ := id hok.keep
  have hbox := Blk.new w 38 #[.int .i64 what, .string (str old), .string (str name), .slice DA data.length dc, .int .i64 n, .slice KA keep.length kc, .int .u8 turn.toNat]
  have hfr0 : Fr (fun _ => False) w (w.alloc (.cells #[.int .i64 what, .string (str old), .string (str name), .slice DA data.length dc, .int .i64 n, .slice KA keep.length kc, .int .u8 turn.toNat] 38)) := (Fr.refl (fun _ => False) w).alloc _
  have h0 := h.fr hfr0 id (fun _ _ => id) fun _ _ => id
  have hlD : ∀ k, D k → k < w.heap.size := fun _ => h.cab.below
  have hlE : ∀ k, E k → k < w.heap.size := fun _ => h.ref.below
  have hP00 : PAfter w D E pp c r pc pr D E (w.alloc (.cells #[.int .i64 what, .string (str old), .string (str name), .slice DA data.length dc, .int .i64 n, .slice KA keep.length kc, .int .u8 turn.toNat] 38)) := ⟨h0, hfr0.mono fun _ _ h => h.elim, fun _ h => .inl h, fun _ h => .inl h⟩
  simp only at hlong hw
  have hl2 : ¬ (1200000 : Int) < (data.length : Int) := by omega
  obtain ⟨hw0, hw5⟩ := hw
  have e1 : Cab.act c ⟨what, old, name, data, n, keep, turn⟩ = (c.chg ⟨what, old, name, data, n, keep, turn⟩).1 := by unfold Cab.act; rw [if_neg hlong, if_pos ⟨hw0, hw5⟩]
  have e2 : RCab.act r ⟨what, old, name, data, n, keep, turn⟩ = (r.chg ⟨what, old, name, data, n, keep, turn⟩).1 := by unfold RCab.act; rw [if_neg hlong, if_pos ⟨hw0, hw5⟩]
  rw [e1, e2] at hS0
  rw [e1, e2]
  clear e1 e2 hSA
  have hS := hS0
  have hCH := fun (V0 : World) (hV : PairAt V0 pp c r pc pr D E) (hk : StepOk V0 ⟨what, old, name, data, n, keep, turn⟩ (.slice DA data.length dc) (.slice KA keep.length kc) (fun k => D k ∨ E k)) => change_calls hV hs (by omega) ⟨what, old, name, data, n, keep, turn⟩ (.slice DA data.length dc) (.slice KA keep.length kc) hk (by show data.length ≤ _; omega) hw0 hw5
  simp only [(hs.chg ⟨what, old, name, data, n, keep, turn⟩).1] at hCH
  unfold stepV at hCH
  simp only at hCH
  have HCH := Lib.hid hCH
  clear hCH
  have HOK := Lib.hid (hok.fr hfr0)
  have hokn := hok.name
  have ck : ((c.chg ⟨what, old, name, data, n, keep, turn⟩).2 != (c.chg ⟨what, old, name, data, n, keep, turn⟩).2) = false := by simp
  go_enter Tryd.func13, Tryd.ntmps13
  go_wp2_with fail
  generalize w.alloc (.cells #[.int .i64 what, .string (str old), .string (str name), .slice DA data.length dc, .int .i64 n, .slice KA keep.length kc, .int .u8 turn.toNat] 38) = V0 at *
  obtain ⟨X, hX⟩ : ∃ X, X = w.heap.size := ⟨_, rfl⟩
  rw [← hX] at hbox ⊢
  have xD : ¬ D X := fun e => by have := hlD X e; omega
  have xE : ¬ E X := fun e => by have := hlE X e; omega
  have HX := Lib.hid hX
  clear hX
  refine (HCH.out V0 h0 HOK.out).mono ?_
  rintro e V ⟨rfl, D1, E1, hA⟩
  have hP := hP00.trans hA
  have hbox := hbox.fr hA.fr (fun e => e.elim xD xE)
  go_wp2_with fail
  have x2 : V.cell? ⟨X, 2, none⟩ = some (.string (str name)) := hbox.cell 2
  have p0 : V.cell? ⟨pp, 0, none⟩ = some (.pointer (some ⟨pc, 0, none⟩)) := hP.at_.blk.cell 0
  have p1 : V.cell? ⟨pp, 1, none⟩ = some (.pointer (some ⟨pr, 0, none⟩)) := hP.at_.blk.cell 1
  have HREAD := Lib.hid (read_calls hP.at_.cab.drew name hok.name hS.nnow (fun f hf => (hS.all f hf).1))
  go_region_held3 (fun w' => w'.cell? ⟨pp, 0, none⟩ = some (.pointer (some ⟨pc, 0, none⟩)) ∧ w'.cell? ⟨X, 2, none⟩ = some (.string (str name))) (first | go_keep | exact ⟨fR.undrew.cell p0 id, fR.undrew.cell x2 id⟩) ((go_at_call 16; refine HREAD.out.mono ?_; rintro e wR ⟨vR, rfl, hbR, hnR, fR⟩))
  have hPR := hP.at_.fr fR.undrew id (fun _ _ => id) fun _ _ => id
  have p1R : wR.cell? ⟨pp, 1, none⟩ = some (.pointer (some ⟨pr, 0, none⟩)) := hPR.blk.cell 1
  have x2R : wR.cell? ⟨X, 2, none⟩ = some (.string (str name)) := fR.undrew.cell x2 id
  have hrr := fun m : Nat => RefAt.read (hPR.ref.drewN m) name (hS.num (by omega)).nows
  simp only [hS.read] at hrr
  have HRR := Lib.hid hrr
  clear hrr p0 p1 x2
  go_wp2_with fail
  go_quiet ((go_at_call 38; exact (HRR.out _).mono fun _ _ h => ⟨h.1, _, h.2.symm⟩))
  have hP2 := hPR.fr ((Fr.refl (fun _ => False) wR).drewN nq) id (fun _ _ => id) fun _ _ => id
  have HBR := Lib.hid (hbR.drewN nq)
  have HF2 := Lib.hid (fR.undrew.drewN nq)
  clear hPR p1R x2R HRR hbR fR
  generalize wR.drewN nq = V2 at *
  have p0 : V2.cell? ⟨pp, 0, none⟩ = some (.pointer (some ⟨pc, 0, none⟩)) := hP2.blk.cell 0
  have p1 : V2.cell? ⟨pp, 1, none⟩ = some (.pointer (some ⟨pr, 0, none⟩)) := hP2.blk.cell 1
  have HNM := Lib.hid (fun (w' : World) (hf : Fr (fun _ => False) V2 w') => by have := RefAt.namesOf (hP2.ref.fr hf fun _ _ => id) (Nat.le_trans (hS.num (by omega)).now (by decide)); rw [hS.namesSame] at this; exact this)
  have HUC := Lib.hid (fun (w' : World) (hf : Fr (fun _ => False) V2 w') => CabAt.used (hP2.cab.fr hf fun _ _ => id) (fun f hf => (hS.all f hf).1) (Nat.le_trans hS.b1 (by omega)))
  have HUR := Lib.hid (fun (w' : World) (hf : Fr (fun _ => False) V2 w') => by have := RefAt.used (hP2.ref.fr hf fun _ _ => id) (hS.num (by omega)); rw [hS.used] at this; exact this)
  have HQ := Lib.hid (fun (w' : World) (hf : Fr (fun _ => False) V2 w') => by have := RefAt.quota (hP2.ref.fr hf fun _ _ => id); rw [hS.quota] at this; exact this)
  go_wp2_with (first
    | (go_at_call 17; refine (names_calls hP2.cab (Nat.le_trans hS.b3 (by omega))).mono ?_; rintro e wN ⟨vN, rfl, hrN, hnN, fN⟩; have p0N := fN.cell p0 id; have p1N := fN.cell p1 id)
    | (go_at_call 39; refine (HNM.out wN fN).mono ?_; rintro e wM ⟨vM, rfl, hrM, hnM, fM0⟩; have fM := fN.trans fM0 (fun _ h => h.elim); have p0M := fM.cell p0 id; have p1M := fM.cell p1 id)
    | (go_at_call 18; refine (HUC.out wM fM).mono ?_; rintro e wU ⟨rfl, fU0⟩; have fU := fM.trans fU0 (fun _ h => h.elim); have kt := text_of (HBR.out.fr fU fun _ _ => id).src; have p1U := fU.cell p1 id)
    | (go_at_call 40; refine (texts_calls vN vM _ _ wU (hrN.fr (fM0.trans fU0 fun _ h => h.elim) fun _ _ => id) (hrM.fr fU0 fun _ _ => id)).mono ?_; rintro e wT ⟨rfl, fT0⟩; have fT := fU.trans fT0 (fun _ h => h.elim); have p1T := fT.cell p1 id)
    | (go_at_call 41; refine (HUR.out wT fT).mono ?_; rintro e wZ ⟨rfl, fZ0⟩; have fZ := fT.trans fZ0 (fun _ h => h.elim); have p1Z := fZ.cell p1 id; have q0Z := HQ.out wZ fZ))
  go_ret
  exact ⟨rfl, _, _, ⟨hP2.fr fZ id (fun _ _ => id) fun _ _ => id, (hP.fr.trans HF2.out fun _ h => h.elim).trans fZ fun _ h => h.elim, hP.newD, hP.newE⟩⟩
end
end Chart

/- play: Crash. -/
namespace Chart
open Go Go.RowKit Go.Proofs
attribute [local go_sem ↓] Go.wp_at_zero Go.wp_at_succ

section
variable {w w' : World} {pp pc pr : Nat} {c c' : Cab} {r r' : RCab} {D E D' E' : Nat → Prop} {B : Nat}
set_option maxRecDepth 100000 in
set_option maxHeartbeats 4000000 in
theorem play_crash (h : PairAt w pp c r pc pr D E) (hs : Sim B c r) (hB : B ≤ 80000) (s : StepS) (DV KV : Value) (hok : StepOk w s DV KV (fun k => D k ∨ E k)) (hlong : ¬ 1200000 < s.data.length) (hw : s.what = 7) :
    Calls Tryd.prog 13 #[.pointer (some ⟨pp, 0, none⟩), stepV s DV KV] w fun e w' => e = .returned (.bool true) ∧ PlayPost w D E pp (c.act s) (r.act s) pc pr w' := by
  have hS0 := hs.act s hok.n1
  obtain ⟨what, old, name, data, n, keep, turn⟩ := s
  have hSA : Cab.act c ⟨what, old, name, data, n, keep, turn⟩ = Cab.act c ⟨what, old, name, data, n, keep, turn⟩ := rfl
  unfold stepV
  simp only at hok ⊢
  obtain ⟨_, DA, dc, rfl, hdc, hdm, _, _⟩ := id hok.data
  obtain ⟨_, KA, kc, rfl, hkc, hkm, _, _⟩ := id hok.keep
  have hbox := Blk.new w 38 #[.int .i64 what, .string (str old), .string (str name), .slice DA data.length dc, .int .i64 n, .slice KA keep.length kc, .int .u8 turn.toNat]
  have hfr0 : Fr (fun _ => False) w (w.alloc (.cells #[.int .i64 what, .string (str old), .string (str name), .slice DA data.length dc, .int .i64 n, .slice KA keep.length kc, .int .u8 turn.toNat] 38)) := (Fr.refl (fun _ => False) w).alloc _
  have h0 := h.fr hfr0 id (fun _ _ => id) fun _ _ => id
  have hlD : ∀ k, D k → k < w.heap.size := fun _ => h.cab.below
  have hlE : ∀ k, E k → k < w.heap.size := fun _ => h.ref.below
  have hP00 : PAfter w D E pp c r pc pr D E (w.alloc (.cells #[.int .i64 what, .string (str old), .string (str name), .slice DA data.length dc, .int .i64 n, .slice KA keep.length kc, .int .u8 turn.toNat] 38)) := ⟨h0, hfr0.mono fun _ _ h => h.elim, fun _ h => .inl h, fun _ h => .inl h⟩
  simp only at hlong hw
  have hl2 : ¬ (1200000 : Int) < (data.length : Int) := by omega
  subst hw
  have e1 : Cab.act c ⟨7, old, name, data, n, keep, turn⟩ = c.crash n keep turn := by unfold Cab.act; simp only []; rw [if_neg hlong, if_neg (by omega)]; simp
  have e2 : RCab.act r ⟨7, old, name, data, n, keep, turn⟩ = r.crash n keep turn := by unfold RCab.act; simp only []; rw [if_neg hlong, if_neg (by omega)]; simp
  rw [e1, e2] at hS0
  rw [e1, e2]
  clear e1 e2 hSA
  have hS := hS0
  obtain ⟨i0, hi0, hz0, hz1, hz2⟩ := info_parts int_info
  have HKP := Lib.hid (hok.keep.fr hfr0 fun _ _ _ => id)
  have hkb : keep.length * 8 ≤ 140737488355328 := hok.kb
  go_enter Tryd.func13, Tryd.ntmps13
  go_wp2_with fail
  generalize w.alloc (.cells #[.int .i64 7, .string (str old), .string (str name), .slice DA data.length dc, .int .i64 n, .slice KA keep.length kc, .int .u8 turn.toNat] 38) = V0 at *
  obtain ⟨X, hX⟩ : ∃ X, X = w.heap.size := ⟨_, rfl⟩
  rw [← hX] at hbox ⊢
  have xD : ¬ D X := fun e => by have := hlD X e; omega
  have xE : ¬ E X := fun e => by have := hlE X e; omega
  have HX := Lib.hid hX
  clear hX
  have hsz := hfr0.size
  have p0 : V0.cell? ⟨pp, 0, none⟩ = some (.pointer (some ⟨pc, 0, none⟩)) := h0.blk.cell 0
  have x4 : V0.cell? ⟨X, 4, none⟩ = some (.int .i64 n) := hbox.cell 4
  have x5 : V0.cell? ⟨X, 5, none⟩ = some (.slice KA keep.length kc) := hbox.cell 5
  have x6 : V0.cell? ⟨X, 6, none⟩ = some (.int .u8 turn.toNat) := hbox.cell 6
  have hbD : ∀ v3 : Value, (v3.ownBlock = (Value.slice (some ⟨V0.heap.size, 0, none⟩) 0 0).ownBlock ∨ v3.ownBlock = some ((V0.alloc (.cells #[] 3)).drew).heap.size) → ∀ k, v3.ownBlock = some k → ¬ D k ∧ ¬ E k := fun v3 hv k hk => by
    have hk2 : w.heap.size ≤ k := by
      rcases hv with hv | hv
      · rw [hv] at hk
        simp [Value.ownBlock] at hk
        omega
      · rw [hv] at hk
        injection hk with hk
        have e : ((V0.alloc (.cells #[] 3)).drew).heap.size = V0.heap.size + 1 := by
          show (V0.alloc (.cells #[] 3)).heap.size = _
          simp
        omega
    exact ⟨fun e => by have := hlD k e; omega, fun e => by have := hlE k e; omega⟩
  go_region_held3 (fun w' => w'.cell? ⟨pp, 0, none⟩ = some (.pointer (some ⟨pc, 0, none⟩)) ∧ w'.cell? ⟨X, 4, none⟩ = some (.int .i64 n) ∧ w'.cell? ⟨X, 5, none⟩ = some (.slice KA keep.length kc) ∧ w'.cell? ⟨X, 6, none⟩ = some (.int .u8 turn.toNat)) (first | go_keep | exact ⟨hA1.fr.cell (F3.cell p0 id) h0.d, hA1.fr.cell (F3.cell x4 id) xD, hA1.fr.cell (F3.cell x5 id) xD, hA1.fr.cell (F3.cell x6 id) xD⟩ | exact ⟨F3.cell p0 id, F3.cell x4 id, F3.cell x5 id, F3.cell x6 id⟩) ((first
    | (refine step_append_row _ (by rfl) (.tmp 67) (.tmp 69) 36 (by rfl) 3 i0 _ 1 8 Tryd.underlying36 hi0 hz0 hz1 hz2 (by rfl) (by decide) (.slice (some ⟨V0.heap.size, 0, none⟩) 0 0) 0 [] (by rfl) (Row.made V0 3 1 0 #[] rfl (Nat.zero_le _)).drew (.slice KA keep.length kc) keep.length (keep.map (Value.int .i64)) (by rfl) (HKP.out.alloc _).drew (ints_one keep) (by simp only [maxLen]; omega) (by omega) ?_; intro v3 w3 hrow3 hfr3 hwh3; have F3 : Fr (fun _ => False) V0 w3 := (((Fr.refl (fun _ => False) V0).alloc _).drew).trans hfr3 fun q hq => .inr (by simp [Value.ownBlock] at hq; omega))
    | (go_at_call 15; refine (crash_calls (h0.cab.fr F3 fun _ _ => id) (hs.crashOk (by omega)) n hok.n0 hok.n1 v3 keep (by simpa using hrow3.src) (fun k hk _ => (hbD v3 hwh3 k hk).1) turn).mono ?_; rintro e w1 ⟨rfl, D1, hA1⟩)))
  have hP0 : PAfter w D E pp c r pc pr D E w3 := ⟨h0.fr F3 id (fun _ _ => id) fun _ _ => id, (hfr0.mono (D' := fun k => D k ∨ E k) fun _ _ h => h.elim).trans F3 fun _ h => h.elim, fun _ h => .inl h, fun _ h => .inl h⟩
  have hP1 := hP0.trans (hP0.at_.onCab hA1)
  have hbox1 := (hbox.fr F3 id).fr hA1.fr xD
  have p1 : w1.cell? ⟨pp, 1, none⟩ = some (.pointer (some ⟨pr, 0, none⟩)) := hP1.at_.blk.cell 1
  have HKW := Lib.hid ((HKP.out.fr F3 fun _ _ _ => id).frl hA1.fr fun k hk h0 e => hok.kz k hk h0 (.inl e))
  clear p0 x4 x5 x6
  have x4 : w1.cell? ⟨X, 4, none⟩ = some (.int .i64 n) := hbox1.cell 4
  have x5 : w1.cell? ⟨X, 5, none⟩ = some (.slice KA keep.length kc) := hbox1.cell 5
  have x6 : w1.cell? ⟨X, 6, none⟩ = some (.int .u8 turn.toNat) := hbox1.cell 6
  go_wp2_with fail
  go_region_held3 (fun w' => w'.cell? ⟨pp, 1, none⟩ = some (.pointer (some ⟨pr, 0, none⟩)) ∧ w'.cell? ⟨X, 4, none⟩ = some (.int .i64 n) ∧ w'.cell? ⟨X, 5, none⟩ = some (.slice KA keep.length kc) ∧ w'.cell? ⟨X, 6, none⟩ = some (.int .u8 turn.toNat)) (first | go_keep | exact ⟨hA2.fr.undrew.cell p1 hP1.at_.e, hA2.fr.undrew.cell x4 xE, hA2.fr.undrew.cell x5 xE, hA2.fr.undrew.cell x6 xE⟩) ((go_at_call 37; refine (RefAt.crash hP1.at_.ref.drew (hs.rcrashOk (by omega)) n (.slice KA keep.length kc) keep HKW.out (fun k hk h0 e => hok.kz k hk h0 (.inr e)) turn).mono ?_; rintro e V ⟨rfl, E1, hA2⟩))
  have hP := (hP1.drew).trans ((hP1.drew).at_.onRef hA2)
  have hbox := hbox1.fr hA2.fr.undrew xE
  clear p1 x4 x5 x6
  go_wp2_with fail
  have x2 : V.cell? ⟨X, 2, none⟩ = some (.string (str name)) := hbox.cell 2
  have p0 : V.cell? ⟨pp, 0, none⟩ = some (.pointer (some ⟨pc, 0, none⟩)) := hP.at_.blk.cell 0
  have p1 : V.cell? ⟨pp, 1, none⟩ = some (.pointer (some ⟨pr, 0, none⟩)) := hP.at_.blk.cell 1
  have HREAD := Lib.hid (read_calls hP.at_.cab.drew name hok.name hS.nnow (fun f hf => (hS.all f hf).1))
  go_region_held3 (fun w' => w'.cell? ⟨pp, 0, none⟩ = some (.pointer (some ⟨pc, 0, none⟩)) ∧ w'.cell? ⟨X, 2, none⟩ = some (.string (str name))) (first | go_keep | exact ⟨fR.undrew.cell p0 id, fR.undrew.cell x2 id⟩) ((go_at_call 16; refine HREAD.out.mono ?_; rintro e wR ⟨vR, rfl, hbR, hnR, fR⟩))
  have hPR := hP.at_.fr fR.undrew id (fun _ _ => id) fun _ _ => id
  have p1R : wR.cell? ⟨pp, 1, none⟩ = some (.pointer (some ⟨pr, 0, none⟩)) := hPR.blk.cell 1
  have x2R : wR.cell? ⟨X, 2, none⟩ = some (.string (str name)) := fR.undrew.cell x2 id
  have hrr := fun m : Nat => RefAt.read (hPR.ref.drewN m) name (hS.num (by omega)).nows
  simp only [hS.read] at hrr
  have HRR := Lib.hid hrr
  clear hrr p0 p1 x2
  go_wp2_with fail
  go_quiet ((go_at_call 38; exact (HRR.out _).mono fun _ _ h => ⟨h.1, _, h.2.symm⟩))
  have hP2 := hPR.fr ((Fr.refl (fun _ => False) wR).drewN nq) id (fun _ _ => id) fun _ _ => id
  have HBR := Lib.hid (hbR.drewN nq)
  have HF2 := Lib.hid (fR.undrew.drewN nq)
  clear hPR p1R x2R HRR hbR fR
  generalize wR.drewN nq = V2 at *
  have p0 : V2.cell? ⟨pp, 0, none⟩ = some (.pointer (some ⟨pc, 0, none⟩)) := hP2.blk.cell 0
  have p1 : V2.cell? ⟨pp, 1, none⟩ = some (.pointer (some ⟨pr, 0, none⟩)) := hP2.blk.cell 1
  have HNM := Lib.hid (fun (w' : World) (hf : Fr (fun _ => False) V2 w') => by have := RefAt.namesOf (hP2.ref.fr hf fun _ _ => id) (Nat.le_trans (hS.num (by omega)).now (by decide)); rw [hS.namesSame] at this; exact this)
  have HUC := Lib.hid (fun (w' : World) (hf : Fr (fun _ => False) V2 w') => CabAt.used (hP2.cab.fr hf fun _ _ => id) (fun f hf => (hS.all f hf).1) (Nat.le_trans hS.b1 (by omega)))
  have HUR := Lib.hid (fun (w' : World) (hf : Fr (fun _ => False) V2 w') => by have := RefAt.used (hP2.ref.fr hf fun _ _ => id) (hS.num (by omega)); rw [hS.used] at this; exact this)
  have HQ := Lib.hid (fun (w' : World) (hf : Fr (fun _ => False) V2 w') => by have := RefAt.quota (hP2.ref.fr hf fun _ _ => id); rw [hS.quota] at this; exact this)
  go_wp2_with (first
    | (go_at_call 17; refine (names_calls hP2.cab (Nat.le_trans hS.b3 (by omega))).mono ?_; rintro e wN ⟨vN, rfl, hrN, hnN, fN⟩; have p0N := fN.cell p0 id; have p1N := fN.cell p1 id)
    | (go_at_call 39; refine (HNM.out wN fN).mono ?_; rintro e wM ⟨vM, rfl, hrM, hnM, fM0⟩; have fM := fN.trans fM0 (fun _ h => h.elim); have p0M := fM.cell p0 id; have p1M := fM.cell p1 id)
    | (go_at_call 18; refine (HUC.out wM fM).mono ?_; rintro e wU ⟨rfl, fU0⟩; have fU := fM.trans fU0 (fun _ h => h.elim); have kt := text_of (HBR.out.fr fU fun _ _ => id).src; have p1U := fU.cell p1 id)
    | (go_at_call 40; refine (texts_calls vN vM _ _ wU (hrN.fr (fM0.trans fU0 fun _ h => h.elim) fun _ _ => id) (hrM.fr fU0 fun _ _ => id)).mono ?_; rintro e wT ⟨rfl, fT0⟩; have fT := fU.trans fT0 (fun _ h => h.elim); have p1T := fT.cell p1 id)
    | (go_at_call 41; refine (HUR.out wT fT).mono ?_; rintro e wZ ⟨rfl, fZ0⟩; have fZ := fT.trans fZ0 (fun _ h => h.elim); have p1Z := fZ.cell p1 id; have q0Z := HQ.out wZ fZ))
  go_ret
  exact ⟨rfl, _, _, ⟨hP2.fr fZ id (fun _ _ => id) fun _ _ => id, (hP.fr.trans HF2.out fun _ h => h.elim).trans fZ fun _ h => h.elim, hP.newD, hP.newE⟩⟩
end
end Chart

/- play: Fail. -/
namespace Chart
open Go Go.RowKit Go.Proofs
attribute [local go_sem ↓] Go.wp_at_zero Go.wp_at_succ

section
variable {w w' : World} {pp pc pr : Nat} {c c' : Cab} {r r' : RCab} {D E D' E' : Nat → Prop} {B : Nat}
set_option maxRecDepth 100000 in
set_option maxHeartbeats 4000000 in
theorem play_fail (h : PairAt w pp c r pc pr D E) (hs : Sim B c r) (hB : B ≤ 80000) (s : StepS) (DV KV : Value) (hok : StepOk w s DV KV (fun k => D k ∨ E k)) (hlong : ¬ 1200000 < s.data.length) (hw : s.what = 6) :
    Calls Tryd.prog 13 #[.pointer (some ⟨pp, 0, none⟩), stepV s DV KV] w fun e w' => e = .returned (.bool true) ∧ PlayPost w D E pp (c.act s) (r.act s) pc pr w' := by
  have hS0 := hs.act s hok.n1
  obtain ⟨what, old, name, data, n, keep, turn⟩ := s
  have hSA : Cab.act c ⟨what, old, name, data, n, keep, turn⟩ = Cab.act c ⟨what, old, name, data, n, keep, turn⟩ := rfl
  unfold stepV
  simp only at hok ⊢
  obtain ⟨_, DA, dc, rfl, hdc, hdm, _, _⟩ := id hok.data
  obtain ⟨_, KA, kc, rfl, hkc, hkm, _, _⟩ := id hok.keep
  have hbox := Blk.new w 38 #[.int .i64 what, .string (str old), .string (str name), .slice DA data.length dc, .int .i64 n, .slice KA keep.length kc, .int .u8 turn.toNat]
  have hfr0 : Fr (fun _ => False) w (w.alloc (.cells #[.int .i64 what, .string (str old), .string (str name), .slice DA data.length dc, .int .i64 n, .slice KA keep.length kc, .int .u8 turn.toNat] 38)) := (Fr.refl (fun _ => False) w).alloc _
  have h0 := h.fr hfr0 id (fun _ _ => id) fun _ _ => id
  have hlD : ∀ k, D k → k < w.heap.size := fun _ => h.cab.below
  have hlE : ∀ k, E k → k < w.heap.size := fun _ => h.ref.below
  have hP00 : PAfter w D E pp c r pc pr D E (w.alloc (.cells #[.int .i64 what, .string (str old), .string (str name), .slice DA data.length dc, .int .i64 n, .slice KA keep.length kc, .int .u8 turn.toNat] 38)) := ⟨h0, hfr0.mono fun _ _ h => h.elim, fun _ h => .inl h, fun _ h => .inl h⟩
  simp only at hlong hw
  have hl2 : ¬ (1200000 : Int) < (data.length : Int) := by omega
  subst hw
  have e1 : Cab.act c ⟨6, old, name, data, n, keep, turn⟩ = c.fail n := by unfold Cab.act; simp only []; rw [if_neg hlong, if_neg (by omega)]; simp
  have e2 : RCab.act r ⟨6, old, name, data, n, keep, turn⟩ = r.fail n := by unfold RCab.act; simp only []; rw [if_neg hlong, if_neg (by omega)]; simp
  rw [e1, e2] at hS0
  rw [e1, e2]
  clear e1 e2 hSA
  have hS := hS0
  go_enter Tryd.func13, Tryd.ntmps13
  go_wp2_with fail
  generalize w.alloc (.cells #[.int .i64 6, .string (str old), .string (str name), .slice DA data.length dc, .int .i64 n, .slice KA keep.length kc, .int .u8 turn.toNat] 38) = V0 at *
  obtain ⟨X, hX⟩ : ∃ X, X = w.heap.size := ⟨_, rfl⟩
  rw [← hX] at hbox ⊢
  have xD : ¬ D X := fun e => by have := hlD X e; omega
  have xE : ¬ E X := fun e => by have := hlE X e; omega
  have HX := Lib.hid hX
  clear hX
  have p0 : V0.cell? ⟨pp, 0, none⟩ = some (.pointer (some ⟨pc, 0, none⟩)) := h0.blk.cell 0
  have x4 : V0.cell? ⟨X, 4, none⟩ = some (.int .i64 n) := hbox.cell 4
  go_region_held3 (fun w' => w'.cell? ⟨pp, 0, none⟩ = some (.pointer (some ⟨pc, 0, none⟩)) ∧ w'.cell? ⟨X, 4, none⟩ = some (.int .i64 n)) (first | go_keep | exact ⟨hA1.fr.undrew.cell p0 h0.d, hA1.fr.undrew.cell x4 xD⟩) ((go_at_call 14; refine (CabAt.fail h0.cab.drew n).mono ?_; rintro e w1 ⟨rfl, hA1⟩))
  have hP1 := (hP00.drew).trans ((hP00.drew).at_.onCab hA1)
  have hbox1 := hbox.fr hA1.fr.undrew xD
  have p1 : w1.cell? ⟨pp, 1, none⟩ = some (.pointer (some ⟨pr, 0, none⟩)) := hP1.at_.blk.cell 1
  have x4 : w1.cell? ⟨X, 4, none⟩ = some (.int .i64 n) := hbox1.cell 4
  clear p0
  go_wp2_with fail
  go_region_held3 (fun w' => w'.cell? ⟨pp, 1, none⟩ = some (.pointer (some ⟨pr, 0, none⟩)) ∧ w'.cell? ⟨X, 4, none⟩ = some (.int .i64 n)) (first | go_keep | exact ⟨hA2.fr.undrew.cell p1 hP1.at_.e, hA2.fr.undrew.cell x4 xE⟩) ((go_at_call 36; refine (RefAt.fail hP1.at_.ref.drew n).mono ?_; rintro e V ⟨rfl, hA2⟩))
  have hP := (hP1.drew).trans ((hP1.drew).at_.onRef hA2)
  have hbox := hbox1.fr hA2.fr.undrew xE
  clear p1 x4
  go_wp2_with fail
  have x2 : V.cell? ⟨X, 2, none⟩ = some (.string (str name)) := hbox.cell 2
  have p0 : V.cell? ⟨pp, 0, none⟩ = some (.pointer (some ⟨pc, 0, none⟩)) := hP.at_.blk.cell 0
  have p1 : V.cell? ⟨pp, 1, none⟩ = some (.pointer (some ⟨pr, 0, none⟩)) := hP.at_.blk.cell 1
  have HREAD := Lib.hid (read_calls hP.at_.cab.drew name hok.name hS.nnow (fun f hf => (hS.all f hf).1))
  go_region_held3 (fun w' => w'.cell? ⟨pp, 0, none⟩ = some (.pointer (some ⟨pc, 0, none⟩)) ∧ w'.cell? ⟨X, 2, none⟩ = some (.string (str name))) (first | go_keep | exact ⟨fR.undrew.cell p0 id, fR.undrew.cell x2 id⟩) ((go_at_call 16; refine HREAD.out.mono ?_; rintro e wR ⟨vR, rfl, hbR, hnR, fR⟩))
  have hPR := hP.at_.fr fR.undrew id (fun _ _ => id) fun _ _ => id
  have p1R : wR.cell? ⟨pp, 1, none⟩ = some (.pointer (some ⟨pr, 0, none⟩)) := hPR.blk.cell 1
  have x2R : wR.cell? ⟨X, 2, none⟩ = some (.string (str name)) := fR.undrew.cell x2 id
  have hrr := fun m : Nat => RefAt.read (hPR.ref.drewN m) name (hS.num (by omega)).nows
  simp only [hS.read] at hrr
  have HRR := Lib.hid hrr
  clear hrr p0 p1 x2
  go_wp2_with fail
  go_quiet ((go_at_call 38; exact (HRR.out _).mono fun _ _ h => ⟨h.1, _, h.2.symm⟩))
  have hP2 := hPR.fr ((Fr.refl (fun _ => False) wR).drewN nq) id (fun _ _ => id) fun _ _ => id
  have HBR := Lib.hid (hbR.drewN nq)
  have HF2 := Lib.hid (fR.undrew.drewN nq)
  clear hPR p1R x2R HRR hbR fR
  generalize wR.drewN nq = V2 at *
  have p0 : V2.cell? ⟨pp, 0, none⟩ = some (.pointer (some ⟨pc, 0, none⟩)) := hP2.blk.cell 0
  have p1 : V2.cell? ⟨pp, 1, none⟩ = some (.pointer (some ⟨pr, 0, none⟩)) := hP2.blk.cell 1
  have HNM := Lib.hid (fun (w' : World) (hf : Fr (fun _ => False) V2 w') => by have := RefAt.namesOf (hP2.ref.fr hf fun _ _ => id) (Nat.le_trans (hS.num (by omega)).now (by decide)); rw [hS.namesSame] at this; exact this)
  have HUC := Lib.hid (fun (w' : World) (hf : Fr (fun _ => False) V2 w') => CabAt.used (hP2.cab.fr hf fun _ _ => id) (fun f hf => (hS.all f hf).1) (Nat.le_trans hS.b1 (by omega)))
  have HUR := Lib.hid (fun (w' : World) (hf : Fr (fun _ => False) V2 w') => by have := RefAt.used (hP2.ref.fr hf fun _ _ => id) (hS.num (by omega)); rw [hS.used] at this; exact this)
  have HQ := Lib.hid (fun (w' : World) (hf : Fr (fun _ => False) V2 w') => by have := RefAt.quota (hP2.ref.fr hf fun _ _ => id); rw [hS.quota] at this; exact this)
  go_wp2_with (first
    | (go_at_call 17; refine (names_calls hP2.cab (Nat.le_trans hS.b3 (by omega))).mono ?_; rintro e wN ⟨vN, rfl, hrN, hnN, fN⟩; have p0N := fN.cell p0 id; have p1N := fN.cell p1 id)
    | (go_at_call 39; refine (HNM.out wN fN).mono ?_; rintro e wM ⟨vM, rfl, hrM, hnM, fM0⟩; have fM := fN.trans fM0 (fun _ h => h.elim); have p0M := fM.cell p0 id; have p1M := fM.cell p1 id)
    | (go_at_call 18; refine (HUC.out wM fM).mono ?_; rintro e wU ⟨rfl, fU0⟩; have fU := fM.trans fU0 (fun _ h => h.elim); have kt := text_of (HBR.out.fr fU fun _ _ => id).src; have p1U := fU.cell p1 id)
    | (go_at_call 40; refine (texts_calls vN vM _ _ wU (hrN.fr (fM0.trans fU0 fun _ h => h.elim) fun _ _ => id) (hrM.fr fU0 fun _ _ => id)).mono ?_; rintro e wT ⟨rfl, fT0⟩; have fT := fU.trans fT0 (fun _ h => h.elim); have p1T := fT.cell p1 id)
    | (go_at_call 41; refine (HUR.out wT fT).mono ?_; rintro e wZ ⟨rfl, fZ0⟩; have fZ := fT.trans fZ0 (fun _ h => h.elim); have p1Z := fZ.cell p1 id; have q0Z := HQ.out wZ fZ))
  go_ret
  exact ⟨rfl, _, _, ⟨hP2.fr fZ id (fun _ _ => id) fun _ _ => id, (hP.fr.trans HF2.out fun _ h => h.elim).trans fZ fun _ h => h.elim, hP.newD, hP.newE⟩⟩
end
end Chart
