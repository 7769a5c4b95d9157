/- No pages: what the functions of pages answer at nil. Conditions: none. -/
import Derived.Test.YtkpoladbabhdmaaPg2
namespace Go.Proofs.Ytkpoladbabhdmaa
open Go.RowKit

set_option maxRecDepth 100000 in
theorem alloc_nil (w : World) : Calls Try.prog 59 #[.pointer none] w fun e w' => e = .returned (.tuple #[.int .i64 0, .int .i64 7]) ∧ w = w' := by
  go_enter Try.func59, Try.ntmps59
  go_wp2_with (fail)
  refine (lost_nil w).mono ?_
  rintro e w' ⟨rfl, rfl⟩
  go_wp2_with (fail)
  go_ret2
  exact ⟨rfl, rfl⟩

set_option maxRecDepth 100000 in
theorem pget_nil (n : Int) (w : World) : Calls Try.prog 62 #[.pointer none, .int .i64 n] w fun e w' => e = .returned (.tuple #[.slice none 0 0, .int .i64 7]) ∧ w = w' := by
  go_enter Try.func62, Try.ntmps62
  go_wp2_with (fail)
  refine (lost_nil w).mono ?_
  rintro e w' ⟨rfl, rfl⟩
  go_wp2_with (fail)
  go_ret2
  exact ⟨rfl, rfl⟩

set_option maxRecDepth 100000 in
theorem pput_nil (n : Int) (v : Value) (w : World) : Calls Try.prog 60 #[.pointer none, .int .i64 n, v] w fun e w' => e = .returned (.int .i64 7) ∧ w = w' := by
  go_enter Try.func60, Try.ntmps60
  go_wp2_with (fail)
  refine (lost_nil w).mono ?_
  rintro e w' ⟨rfl, rfl⟩
  go_wp2_with (fail)
  go_ret
  exact ⟨rfl, rfl⟩

set_option maxRecDepth 100000 in
theorem pfree_nil (n : Int) (w : World) : Calls Try.prog 63 #[.pointer none, .int .i64 n] w fun e w' => e = .returned (.int .i64 7) ∧ w = w' := by
  go_enter Try.func63, Try.ntmps63
  go_wp2_with (fail)
  refine (lost_nil w).mono ?_
  rintro e w' ⟨rfl, rfl⟩
  go_wp2_with (fail)
  go_ret
  exact ⟨rfl, rfl⟩

set_option maxRecDepth 100000 in
theorem pflush_nil (w : World) : Calls Try.prog 64 #[.pointer none] w fun e w' => e = .returned (.int .i64 7) ∧ w = w' := by
  go_enter Try.func64, Try.ntmps64
  go_wp2_with (fail)
  refine (lost_nil w).mono ?_
  rintro e w' ⟨rfl, rfl⟩
  go_wp2_with (fail)
  go_ret
  exact ⟨rfl, rfl⟩

set_option maxRecDepth 100000 in
theorem psettle_nil (w : World) : Calls Try.prog 65 #[.pointer none] w fun e w' => e = .returned (.tuple #[]) ∧ w = w' := by
  go_enter Try.func65, Try.ntmps65
  go_wp2_with (fail)
  (try simp only [Exit.inBlock, Exit.then])
  refine bodyPost_ret (results_none rfl _ _ _) rfl ?_
  exact ⟨rfl, rfl⟩

set_option maxRecDepth 100000 in
theorem proom_nil (w : World) : Calls Try.prog 66 #[.pointer none] w fun e w' => e = .returned (.int .i64 0) ∧ w = w' := by
  go_enter Try.func66, Try.ntmps66
  go_wp2_with (fail)
  go_ret
  exact ⟨rfl, rfl⟩

set_option maxRecDepth 100000 in
theorem pused_nil (w : World) : Calls Try.prog 67 #[.pointer none] w fun e w' => e = .returned (.slice none 0 0) ∧ w = w' := by
  go_enter Try.func67, Try.ntmps67
  go_wp2_with (fail)
  go_ret
  exact ⟨rfl, rfl⟩

set_option maxRecDepth 100000 in
theorem pcached_nil (w : World) : Calls Try.prog 68 #[.pointer none] w fun e w' => e = .returned (.int .i64 0) ∧ w = w' := by
  go_enter Try.func68, Try.ntmps68
  go_wp2_with (fail)
  go_ret
  exact ⟨rfl, rfl⟩

set_option maxRecDepth 100000 in
theorem pfresh_nil (n : Int) (w : World) : Calls Try.prog 69 #[.pointer none, .int .i64 n] w fun e w' => e = .returned (.bool false) ∧ w = w' := by
  go_enter Try.func69, Try.ntmps69
  go_wp2_with (fail)
  go_ret
  exact ⟨rfl, rfl⟩

end Go.Proofs.Ytkpoladbabhdmaa
