/- No cabinet: each call answers so. -/
import Derived.Test.YtophgamjhngppaaDoorCabQ
namespace Chart
open Go Go.RowKit Go.Proofs

set_option maxHeartbeats 400000 in
theorem create_nil (s : ByteArray) (w : World) : Calls Tryd.prog 19 #[.pointer none, .string s] w fun e w' => e = .returned (.int .i64 1) ∧ w = w' := by
  go_enter Tryd.func19, Tryd.ntmps19
  go_wp2_with (go_at_call 51; refine (ready_nil _).mono ?_; rintro e w' ⟨rfl, rfl⟩)
  go_ret
  exact ⟨rfl, rfl⟩
set_option maxHeartbeats 400000 in
theorem append_nil (s : ByteArray) (v : Value) (w : World) : Calls Tryd.prog 20 #[.pointer none, .string s, v] w fun e w' => e = .returned (.int .i64 1) ∧ w = w' := by
  go_enter Tryd.func20, Tryd.ntmps20
  go_wp2_with (go_at_call 49; refine (find_nil _ _).mono ?_; rintro e w' ⟨rfl, rfl⟩)
  go_ret
  exact ⟨rfl, rfl⟩
set_option maxHeartbeats 400000 in
theorem sync_nil (s : ByteArray) (w : World) : Calls Tryd.prog 21 #[.pointer none, .string s] w fun e w' => e = .returned (.int .i64 1) ∧ w = w' := by
  go_enter Tryd.func21, Tryd.ntmps21
  go_wp2_with (go_at_call 49; refine (find_nil _ _).mono ?_; rintro e w' ⟨rfl, rfl⟩)
  go_ret
  exact ⟨rfl, rfl⟩
set_option maxHeartbeats 400000 in
theorem rename_nil (s t : ByteArray) (w : World) : Calls Tryd.prog 22 #[.pointer none, .string s, .string t] w fun e w' => e = .returned (.int .i64 1) ∧ w = w' := by
  go_enter Tryd.func22, Tryd.ntmps22
  go_wp2_with (go_at_call 49; refine (find_nil _ _).mono ?_; rintro e w' ⟨rfl, rfl⟩)
  go_ret
  exact ⟨rfl, rfl⟩
set_option maxHeartbeats 400000 in
theorem remove_nil (s : ByteArray) (w : World) : Calls Tryd.prog 23 #[.pointer none, .string s] w fun e w' => e = .returned (.int .i64 1) ∧ w = w' := by
  go_enter Tryd.func23, Tryd.ntmps23
  go_wp2_with (go_at_call 49; refine (find_nil _ _).mono ?_; rintro e w' ⟨rfl, rfl⟩)
  go_ret
  exact ⟨rfl, rfl⟩
set_option maxHeartbeats 400000 in
theorem turn_nil  (w : World) : Calls Tryd.prog 24 #[.pointer none] w fun e w' => e = .returned (.int .i64 1) ∧ w = w' := by
  go_enter Tryd.func24, Tryd.ntmps24
  go_wp2_with (go_at_call 51; refine (ready_nil _).mono ?_; rintro e w' ⟨rfl, rfl⟩)
  go_ret
  exact ⟨rfl, rfl⟩
set_option maxHeartbeats 400000 in
theorem read_nil (s : ByteArray) (w : World) : Calls Tryd.prog 16 #[.pointer none, .string s] w fun e w' => e = .returned (.tuple #[.slice none 0 0, .int .i64 1]) ∧ w = w' := by
  go_enter Tryd.func16, Tryd.ntmps16
  go_wp2_with (go_at_call 49; refine (find_nil _ _).mono ?_; rintro e w' ⟨rfl, rfl⟩)
  go_ret2
  exact ⟨rfl, rfl⟩
set_option maxHeartbeats 400000 in
theorem names_nil  (w : World) : Calls Tryd.prog 17 #[.pointer none] w fun e w' => e = .returned (.tuple #[.slice none 0 0, .int .i64 1]) ∧ w = w' := by
  go_enter Tryd.func17, Tryd.ntmps17
  go_wp2_with (go_at_call 51; refine (ready_nil _).mono ?_; rintro e w' ⟨rfl, rfl⟩)
  go_ret2
  exact ⟨rfl, rfl⟩
set_option maxRecDepth 100000 in
set_option maxHeartbeats 1000000 in
theorem crash_nil (n : Value) (k : Value) (t : Value) (w : World) : Calls Tryd.prog 15 #[.pointer none, n, k, t] w fun e w' => e = .returned (.tuple #[]) ∧ w = w' := by
  go_enter Tryd.func15, Tryd.ntmps15
  go_wp2
  refine bodyPost_ret (results_none rfl _ _ _) rfl ?_
  exact ⟨rfl, rfl⟩
end Chart
