/- awake: a cabinet with one file, through a crash. -/
import Derived.Test.YtophgamjhngppaaDoorCabR
import Derived.Lib.SmallJoins
import Derived.Lib.SlBytesConst
import Derived.Lib.BufferRead
import Derived.Laws.IdiomStrings
namespace Chart
open Go Go.RowKit Go.Proofs

def wake0 : Cab := Cab.new 100
def wake1 : Cab := { quota := 100, files := [⟨[], 0⟩], now := [([97], 0)], waiting := [⟨0, [], [97], 0⟩] }
def wake2 : Cab := { quota := 100, files := [⟨[120, 121], 0⟩], now := [([97], 0)], waiting := [⟨0, [], [97], 0⟩] }
def wake3 : Cab := { quota := 100, files := [⟨[120, 121], 0⟩], now := [([97], 0)], sure := [([97], 0)] }
def wake4 : Cab := { quota := 100, files := [⟨[120], 1⟩], now := [([97], 0)], sure := [([97], 0)] }
theorem wake1_eq : wake0.create [97] = (wake1, 0) := by decide
theorem wake2_eq : wake1.append [97] [120, 121] = (wake2, 0) := by decide
theorem wake3_eq : wake2.turn = (wake3, 0) := by decide
theorem wake4_eq : wake3.crash 0 [1] 0 = wake4 := by decide
theorem wake5_eq : wake4.read [97] = ([120], 0) := by decide

theorem CabAt.below {w : World} {p : Nat} {c : Cab} {D : Nat → Prop} (h : CabAt w p c D) {k : Nat} (hk : D k) : k < w.heap.size := by
  obtain ⟨_, _, _, _, _, _, _, h3⟩ := h
  exact h3 k hk
section
variable {w : World} {p : Nat} {D : Nat → Prop}
theorem wake1_calls (h : CabAt w p wake0 D) : Calls Tryd.prog 19 #[.pointer (some ⟨p, 0, none⟩), .string (str [97])] w fun e w' => e = .returned (.int .i64 0) ∧ ∃ D', After w D p wake1 D' w' := by
  have := create_calls h [97] (by decide) (by decide) (by decide) (by decide) (by decide) (fun k => by simp [wake0, Cab.new, Folder.get?])
  rw [wake1_eq] at this
  exact this
theorem wake2_calls (h : CabAt w p wake1 D) (B : Value) (hB : BytesSrc w B [120, 121]) (hBD : ∀ k, B.ownBlock = some k → ¬ D k) : Calls Tryd.prog 20 #[.pointer (some ⟨p, 0, none⟩), .string (str [97]), B] w fun e w' => e = .returned (.int .i64 0) ∧ ∃ D', After w D p wake2 D' w' := by
  have := append_calls h [97] (by decide) (by decide) (by decide) (by decide) (by decide) (by decide) (by decide) (by decide) [120, 121] B hB hBD
  rw [wake2_eq] at this
  exact this
theorem wake3_calls (h : CabAt w p wake2 D) : Calls Tryd.prog 24 #[.pointer (some ⟨p, 0, none⟩)] w fun e w' => e = .returned (.int .i64 0) ∧ ∃ D', After w D p wake3 D' w' := by
  have := turn_calls h (by decide) (by decide) (by decide)
  rw [wake3_eq] at this
  exact this
theorem wake3_ok : CrashOk wake3 where
  files := by decide
  waiting := by decide
  sure := by decide
  chg := by decide
  rep := fun j => by
    have e : wake3.waiting.take j = [] := by simp [wake3]
    rw [e]
    decide
  all := by decide
theorem wake4_calls (h : CabAt w p wake3 D) (KV : Value) (hK : Src w 1 KV 1 [.int .i64 1]) (hKD : ∀ k, KV.ownBlock = some k → ¬ D k) : Calls Tryd.prog 15 #[.pointer (some ⟨p, 0, none⟩), .int .i64 0, KV, .int .u8 0] w fun e w' => e = .returned (.tuple #[]) ∧ ∃ D', After w D p wake4 D' w' := by
  have := crash_calls h wake3_ok 0 (by decide) (by decide) KV [1] hK hKD 0
  rw [wake4_eq] at this
  exact this
theorem wake5_calls (h : CabAt w p wake4 D) : Calls Tryd.prog 16 #[.pointer (some ⟨p, 0, none⟩), .string (str [97])] w fun e w' => ∃ v', e = .returned (.tuple #[v', .int .i64 0]) ∧ Bytes w' v' [120] ∧ (∀ q, v'.ownBlock = some q → w.heap.size ≤ q) ∧ Fr (fun _ => False) w w' := by
  have := read_calls h [97] (by decide) (by decide) (by decide)
  rw [wake5_eq] at this
  exact this
theorem wake6_calls (h : CabAt w p wake4 D) : Calls Tryd.prog 18 #[.pointer (some ⟨p, 0, none⟩)] w fun e w' => e = .returned (.tuple #[.int .i64 1, .int .i64 100]) ∧ Fr (fun _ => False) w w' := h.used (by decide) (by decide)
end

theorem Src.marked (w : World) (e : TypeId) (cs : Array Value) (fr : Nat × Nat) (n : Nat) (hn : cs.size = n) (hm : n ≤ maxLen) : Src (w.alloc (.cells cs e fr)) 1 (.slice (some ⟨w.heap.size, 0, none⟩) n n) n cs.toList := by
  refine ⟨by simp [hn], _, _, rfl, Nat.le_refl _, hm, (fun h => nomatch h), fun a ha j u hu => ?_⟩
  injection ha with ha
  subst ha
  rw [add_head, World.cell?_alloc_mark]
  simpa using hu
theorem text_of {w : World} {v : Value} {l : Txt} (h : BytesSrc w v l) : (convert 35 9 v).run Tryd.prog w = .ok (.string (str l)) w := by
  obtain ⟨_, A, c, rfl, _, _, hA, hc⟩ := h
  cases A with
  | none =>
    obtain ⟨h0, rfl⟩ := hA rfl
    obtain rfl : l = [] := List.eq_nil_of_length_eq_zero h0
    exact Lib.run_convert_nil_bytes w _ _ 5 0 Tryd.underlying35 Tryd.underlying5 Tryd.underlying9
  | some a =>
    refine run_convert_bytes_back w _ _ 5 a c l Tryd.underlying35 Tryd.underlying5 Tryd.underlying9 fun j hj => hc a rfl j _ ?_
    unfold bytesV
    rw [List.getElem?_map, List.getElem?_eq_getElem hj]
    rfl
set_option maxRecDepth 100000 in
set_option maxHeartbeats 1000000 in
theorem awake_calls (w : World) : Calls Tryd.prog 12 #[] w fun e w' => e = .returned (.bool true) ∧ Fr (fun _ => False) w w' := by
  have kc := fun (w : World) (C : Array Value) (n c : Nat) => Lib.run_convert_bytes_const (P := Tryd.prog) w 35 5 C n c Tryd.underlying35 Tryd.underlying5
  go_enter Tryd.func12, Tryd.ntmps12
  go_wp2_with (first
    | (go_at_call 10; refine (new_calls 100 _ (by decide) (by decide)).mono ?_; rintro e w1 ⟨rfl, ⟨D1, h1, n1⟩, f1⟩)
    | (go_at_call 19; refine (wake1_calls h1).mono ?_; rintro e w2 ⟨rfl, D2, h2⟩)
    | (go_at_call 20; refine (wake2_calls (h2.at_.fr ((Fr.refl (fun _ => False) w2).alloc _) (fun _ _ => id)) _ (Src.marked w2 5 _ _ 2 rfl (by decide)) ?_).mono ?_; (intro k hk hd; have h9 := h2.at_.below hd; simp [Value.ownBlock] at hk; omega); rintro e w3 ⟨rfl, D3, h3⟩)
    | (go_at_call 24; refine (wake3_calls h3.at_).mono ?_; rintro e w4 ⟨rfl, D4, h4⟩)
    | (go_at_call 15; refine (wake4_calls (h4.at_.fr ((Fr.refl (fun _ => False) w4).alloc _) (fun _ _ => id)) _ (Row.made w4 3 1 1 _ rfl (by decide)).src ?_).mono ?_; (intro k hk hd; have h9 := h4.at_.below hd; simp [Value.ownBlock] at hk; omega); rintro e w5 ⟨rfl, D5, h5⟩)
    | (go_at_call 16; refine (wake5_calls h5.at_).mono ?_; rintro e w6 ⟨v6, rfl, hb6, n6, f6⟩; obtain ⟨g6, cp6, rfl, _, _, hc6, _, _⟩ := hb6.form (by decide))
    | (go_at_call 18; refine (wake6_calls (h5.at_.fr f6 (fun _ _ => id))).mono ?_; rintro e w7 ⟨rfl, f7⟩; have kt : (convert 35 9 (.slice (some ⟨g6, 0, none⟩) 1 cp6)).run Tryd.prog w7 = .ok (.string { data := #[120] }) w7 := text_of (hb6.fr f7 fun _ _ => id).src))
  go_ret
  have g2 : Fr (fun _ => False) w w2 := f1.trans h2.fr fun k hk => .inr (n1 k hk)
  have n2 : ∀ k, D2 k → w.heap.size ≤ k := fun k hk => (h2.new k hk).elim (n1 k) (fun h => Nat.le_trans f1.size h)
  have g3 : Fr (fun _ => False) w w3 := (g2.alloc _).trans h3.fr fun k hk => .inr (n2 k hk)
  have n3 : ∀ k, D3 k → w.heap.size ≤ k := fun k hk => (h3.new k hk).elim (n2 k) (fun h => Nat.le_trans (g2.alloc _).size h)
  have g4 : Fr (fun _ => False) w w4 := g3.trans h4.fr fun k hk => .inr (n3 k hk)
  have n4 : ∀ k, D4 k → w.heap.size ≤ k := fun k hk => (h4.new k hk).elim (n3 k) (fun h => Nat.le_trans g3.size h)
  have g5 : Fr (fun _ => False) w w5 := (g4.alloc _).trans h5.fr fun k hk => .inr (n4 k hk)
  exact ⟨rfl, (g5.trans f6 fun _ h => h.elim).trans f7 fun _ h => h.elim⟩
end Chart
