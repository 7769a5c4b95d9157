/- DiskNil: no disk has no sectors, is down, and answers ErrLost. Conditions: as each says. -/
import Derived.Test.YtkpoladbabhdmaaActs
import Derived.Test.YtkpoladbabhdmaaArgs
import Derived.Laws.StructEq
namespace Go.Proofs.Ytkpoladbabhdmaa
open Go.RowKit

set_option maxRecDepth 100000 in
set_option maxHeartbeats 1000000 in
theorem nil_walk (w : World) {n : Int} (_hn : int64 n) : Calls Try.prog 7 #[.int .i64 n] w (Returns (.bool true) (Below w.heap.size w)) := by
  have hnot : ∀ (x : Bool) (w : World), (Op.unary .not (.bool x)).run Try.prog w = .ok (.bool (!x)) w := fun _ _ => rfl
  have heq : ∀ w, (binOp .eql 51 (.agg #[.int .i64 0, .int .i64 0, .int .i64 0]) (.agg #[.int .i64 0, .int .i64 0, .int .i64 0])).run Try.prog w = .ok (.bool true) w := fun w => by kernel_rfl
  go_enter Try.func7, Try.ntmps7
  go_wp2_with (fail)
  refine (own_returns (Owns.none w) (awake6_any w)).mono ?_
  rintro e w1 ⟨rfl, hO1, -⟩
  go_wp2_with (fail)
  refine (setFuse_nil n w1).mono ?_
  rintro e w' ⟨rfl, rfl⟩
  go_wp2_with (fail)
  refine (read_nil n w1).mono ?_
  rintro e w' ⟨rfl, rfl⟩
  go_wp2_with (fail)
  refine (cut_nil _ w1).mono ?_
  rintro e w2 ⟨b, F, rfl, hD2, hU2, hF2⟩
  have hO2 : Owns w [disk b (Dk.new 0)] w2 := hO1.add ⟨F, hD2, hU2, hF2⟩
  have hs : (Dk.new 0).size = 0 := by decide
  clear hD2 hU2 hF2 hO1
  go_wp2_with (fail)
  refine (size_nil w2).mono ?_
  rintro e w' ⟨rfl, rfl⟩
  go_wp2_with (fail)
  refine (down_nil w2).mono ?_
  rintro e w' ⟨rfl, rfl⟩
  go_wp2_with (fail)
  refine (own_bytes hO2 (sector6_any _ _)).mono ?_
  rintro e w3 ⟨v3, rfl, hb3, hO3, -, -⟩
  obtain ⟨a3, c3, rfl, _, _⟩ := hb3.view.shape
  clear hO2 hb3
  go_wp2_with (fail)
  refine (write_nil n _ w3).mono ?_
  rintro e w' ⟨rfl, rfl⟩
  go_wp2_with (fail)
  refine (sync_nil w3).mono ?_
  rintro e w' ⟨rfl, rfl⟩
  go_wp2_with (fail)
  refine (pending_nil w3).mono ?_
  rintro e w' ⟨rfl, rfl⟩
  go_wp2_with (fail)
  refine (own_size hO3 0 rfl).mono ?_
  rintro e w' ⟨rfl, rfl⟩
  go_wp2_with (fail)
  refine (own_returns hO3 (acts_nil _)).mono ?_
  rintro e w4 ⟨rfl, hO4, -⟩
  go_wp2_with (fail)
  go_ret
  exact ⟨rfl, hO4.below⟩

end Go.Proofs.Ytkpoladbabhdmaa
