/- The journal: New, Room, Records, Sync, Append. Conditions: as each says. -/
import Derived.Test.YtkpoladbabhdmaaJrn3
import Derived.Deep.RegionHeld3
namespace Go.Proofs.Ytkpoladbabhdmaa
open Go.RowKit

/-- what of a journal turns -/
structure JS where
  D : Dk
  next : Nat
  num : Nat
  over : Bool

def jcells (d : Nat) (f c E : Int) (next num : Nat) (over : Bool) : Array Value :=
  #[.pointer (some ⟨d, 0, none⟩), .int .i64 f, .int .i64 c, .int .u64 E, .int .i64 (next : Int), .int .i64 (num : Int), .bool over]

/-- a journal's own block -/
def jrow (q d : Nat) (f c E : Int) (next num : Nat) (over : Bool) : Thing := row q (jcells d f c E next num over) 144 (by decide)

def JNewTo (d : Nat) (f c E : Int) (w0 : World) (l : List Thing) (w : World) (e : Ending) (w' : World) : Prop :=
  ∃ q, e = .returned (.tuple #[.pointer (some ⟨q, 0, none⟩), .int .i64 0]) ∧ Owns w0 (jrow q d f c E 0 0 false :: l) w' ∧ Keeps w w'

section
variable {w0 w : World} {l : List Thing} {d q : Nat} {D : Dk} {f c E : Int}

set_option maxRecDepth 100000 in
set_option maxHeartbeats 1000000 in
theorem own_jnew (h : Owns w0 l w) (i : Nat) (hi : l[i]? = some (disk d D)) (hf : int64 f) (hc : int64 c) (ha : areaB D.size f c = true) :
    Calls Try.prog 49 #[.pointer (some ⟨d, 0, none⟩), .int .i64 f, .int .i64 c, .int .u64 E] w (JNewTo d f c E w0 l w) := by
  have hR := own_row_new h (jcells d f c E 0 0 false) 144 (by decide)
  have hF : JNewTo d f c E w0 l w (.returned (.tuple #[.pointer (some ⟨w.heap.size, 0, none⟩), .int .i64 0])) (w.alloc (.cells (jcells d f c E 0 0 false) 144)) :=
    ⟨_, rfl, hR, ((Upd.refl [] w).alloc _).keeps⟩
  have HF := Lib.hid hF
  have H := Lib.hid h
  have HA := Lib.hid ha
  clear hR hF h ha
  go_enter Try.func49, Try.ntmps49
  go_wp2_with (fail)
  refine (own_area H.out i hi hf hc).mono ?_
  rw [HA.out]
  rintro e w' ⟨rfl, rfl⟩
  go_wp2_with (fail)
  go_ret2
  exact HF.out

set_option maxRecDepth 100000 in
set_option maxHeartbeats 1000000 in
theorem own_jnew_no (h : Owns w0 l w) (i : Nat) (hi : l[i]? = some (disk d D)) (hf : int64 f) (hc : int64 c) (ha : areaB D.size f c = false) :
    Calls Try.prog 49 #[.pointer (some ⟨d, 0, none⟩), .int .i64 f, .int .i64 c, .int .u64 E] w fun e w' => e = .returned (.tuple #[.pointer none, .int .i64 1]) ∧ w = w' := by
  have H := Lib.hid h
  have HA := Lib.hid ha
  clear h ha
  go_enter Try.func49, Try.ntmps49
  go_wp2_with (fail)
  refine (own_area H.out i hi hf hc).mono ?_
  rw [HA.out]
  rintro e w' ⟨rfl, rfl⟩
  go_wp2_with (fail)
  go_ret2
  exact ⟨rfl, rfl⟩

/-- the cells of a journal -/
theorem own_jcells {next num : Nat} {over : Bool} (h : Owns w0 l w) (i : Nat) (hi : l[i]? = some (jrow q d f c E next num over)) :
    w.cell? ⟨q, 0, none⟩ = some (.pointer (some ⟨d, 0, none⟩)) ∧ w.cell? ⟨q, 1, none⟩ = some (.int .i64 f) ∧ w.cell? ⟨q, 2, none⟩ = some (.int .i64 c) ∧ w.cell? ⟨q, 3, none⟩ = some (.int .u64 E) ∧
    w.cell? ⟨q, 4, none⟩ = some (.int .i64 (next : Int)) ∧ w.cell? ⟨q, 5, none⟩ = some (.int .i64 (num : Int)) ∧ w.cell? ⟨q, 6, none⟩ = some (.bool over) ∧ q < w.heap.size := by
  have hr := own_row h i hi
  exact ⟨cell_of_heap hr rfl, cell_of_heap hr rfl, cell_of_heap hr rfl, cell_of_heap hr rfl, cell_of_heap hr rfl, cell_of_heap hr rfl, cell_of_heap hr rfl, lt_of_heap hr⟩
theorem own_jfree {next num : Nat} {over : Bool} (h : Owns w0 l w) (i : Nat) (hi : l[i]? = some (jrow q d f c E next num over)) (o : Nat) : w.frozen? ⟨q, o, none⟩ = false :=
  free_of_heap (own_row h i hi)

set_option maxRecDepth 100000 in
theorem room_nil (w : World) : Calls Try.prog 52 #[.pointer none] w fun e w' => e = .returned (.int .i64 0) ∧ w = w' := by
  go_enter Try.func52, Try.ntmps52
  go_wp2_with (fail)
  go_ret
  exact ⟨rfl, rfl⟩
set_option maxRecDepth 100000 in
theorem records_nil (w : World) : Calls Try.prog 53 #[.pointer none] w fun e w' => e = .returned (.int .i64 0) ∧ w = w' := by
  go_enter Try.func53, Try.ntmps53
  go_wp2_with (fail)
  go_ret
  exact ⟨rfl, rfl⟩
set_option maxRecDepth 100000 in
theorem jsync_nil (w : World) : Calls Try.prog 51 #[.pointer none] w fun e w' => e = .returned (.int .i64 7) ∧ w = w' := by
  go_enter Try.func51, Try.ntmps51
  go_wp2_with (fail)
  go_ret
  exact ⟨rfl, rfl⟩
set_option maxRecDepth 100000 in
theorem japp_nil (v : Value) (w : World) : Calls Try.prog 50 #[.pointer none, v] w fun e w' => e = .returned (.int .i64 7) ∧ w = w' := by
  go_enter Try.func50, Try.ntmps50
  go_wp2_with (fail)
  go_ret
  exact ⟨rfl, rfl⟩

set_option maxRecDepth 100000 in
set_option maxHeartbeats 1000000 in
theorem own_records {next num : Nat} {over : Bool} (h : Owns w0 l w) (i : Nat) (hi : l[i]? = some (jrow q d f c E next num over)) :
    Calls Try.prog 53 #[.pointer (some ⟨q, 0, none⟩)] w fun e w' => e = .returned (.int .i64 (num : Int)) ∧ w = w' := by
  obtain ⟨-, -, -, -, -, c5, -, hl⟩ := own_jcells h i hi
  clear h
  go_enter Try.func53, Try.ntmps53
  go_wp2_with (fail)
  go_ret
  exact ⟨rfl, rfl⟩

set_option maxRecDepth 100000 in
set_option maxHeartbeats 1000000 in
theorem own_room {next num : Nat} {over : Bool} (h : Owns w0 l w) (i : Nat) (hi : l[i]? = some (jrow q d f c E next num over)) (c0 : 0 ≤ c) (c1 : c ≤ 65536) (hn : next ≤ 65536) :
    Calls Try.prog 52 #[.pointer (some ⟨q, 0, none⟩)] w fun e w' => e = .returned (.int .i64 (c - (next : Int))) ∧ ∃ n, w' = w.drewN n := by
  obtain ⟨-, -, k2, -, k4, -, -, hl⟩ := own_jcells h i hi
  have hw : IntKind.i64.wrap (c - (next : Int)) = c - (next : Int) := by rw [IntKind.wrap_i64]; omega
  clear h
  go_enter Try.func52, Try.ntmps52
  go_wp2_with (fail)
  go_quiet (fail)
  go_wp2_with (fail)
  go_ret
  exact ⟨by first | rfl | (rw [hw]; rfl), _, rfl⟩

theorem own_drewN (h : Owns w0 l w) (n : Nat) : Owns w0 l (w.drewN n) := h.upd ⟨rfl, rfl, rfl, Nat.le_refl _, fun _ _ _ => rfl, fun _ _ _ _ => rfl⟩
theorem keeps_drewN (w : World) (n : Nat) : Keeps w (w.drewN n) := fun _ _ _ _ => rfl

/-- Sync of a journal -/
def JS.sync (S : JS) : JS := if S.over then S else { S with D := S.D.sync, over := decide (S.D.syncE ≠ 0) }
def JS.syncE (S : JS) : Int := if S.over then 7 else if S.D.syncE ≠ 0 then 7 else 0

def jthings (q d : Nat) (f c E : Int) (S : JS) (l : List Thing) : List Thing := jrow q d f c E S.next S.num S.over :: disk d S.D :: l

set_option maxRecDepth 100000 in
set_option maxHeartbeats 1000000 in
theorem own_jsync {S : JS} (h : Owns w0 (jthings q d f c E S l) w) (hlen : S.D.all.length < Big) :
    Calls Try.prog 51 #[.pointer (some ⟨q, 0, none⟩)] w (Gives (.int .i64 S.syncE) w0 (jthings q d f c E S.sync l) w) := by
  obtain ⟨k0, -, -, -, -, -, k6, hl⟩ := own_jcells h 0 rfl
  have H := Lib.hid h
  obtain ⟨D, next, num, over⟩ := S
  dsimp only at k6 hlen
  cases over with
  | true =>
    have hF : Gives (.int .i64 (JS.mk D next num true).syncE) w0 (jthings q d f c E (JS.mk D next num true).sync l) w (.returned (.int .i64 7)) w := ⟨rfl, h, Keeps.refl w⟩
    have HF := Lib.hid hF
    clear hF h
    go_enter Try.func51, Try.ntmps51
    go_wp2_with (fail)
    go_ret
    exact HF.out
  | false =>
    clear h
    by_cases he : D.syncE = 0
    · have HE := Lib.hid he
      clear he
      go_enter Try.func51, Try.ntmps51
      go_wp2_with (fail)
      refine (own_sync H.out 1 rfl hlen).mono ?_
      rw [show (JS.mk D next num false).D.syncE = 0 from HE.out]
      rintro e w2 ⟨rfl, hO2, hk2⟩
      have hF : Gives (.int .i64 (JS.mk D next num false).syncE) w0 (jthings q d f c E (JS.mk D next num false).sync l) w (.returned (.int .i64 0)) w2 := by
        refine ⟨by simp [JS.syncE, HE.out], ?_, hk2⟩
        have e1 : (JS.mk D next num false).sync = JS.mk D.sync next num false := by simp [JS.sync, HE.out]
        rw [e1]; exact hO2
      have HF := Lib.hid hF
      clear hF hO2 hk2
      go_wp2_with (fail)
      go_ret
      exact HF.out
    · have he7 : D.syncE = 7 := by rcases D.syncE_or with h | h; exact absurd h he; exact h
      have HE := Lib.hid he7
      clear he he7
      go_enter Try.func51, Try.ntmps51
      go_wp2_with (fail)
      refine (own_sync H.out 1 rfl hlen).mono ?_
      rw [show (JS.mk D next num false).D.syncE = 7 from HE.out]
      rintro e w2 ⟨rfl, hO2, hk2⟩
      obtain ⟨j0, -, -, -, -, -, j6, hl2⟩ := own_jcells hO2 0 rfl
      have z6 := own_jfree hO2 0 rfl 6
      have hO3 := own_row_set hO2 0 rfl 6 (.bool true)
      have hF : Gives (.int .i64 (JS.mk D next num false).syncE) w0 (jthings q d f c E (JS.mk D next num false).sync l) w (.returned (.int .i64 7)) (w2.setCell ⟨q, 6, none⟩ (.bool true)) := by
        refine ⟨by simp [JS.syncE, HE.out], ?_, hk2.trans ?_⟩
        · have e1 : (JS.mk D next num false).sync = JS.mk D.sync next num true := by simp [JS.sync, HE.out]
          rw [e1]; exact hO3
        · have hr := own_row hO2 0 rfl
          exact Upd.keeps (S := [q]) ((Upd.refl [q] w2).setCell _ (.inl (by simp)) (.inr (by intro c fz; rw [hr]; simp)))
      have HF := Lib.hid hF
      clear hF hO2 hk2 hO3
      go_wp2_with (fail)
      go_ret
      exact HF.out

end
end Go.Proofs.Ytkpoladbabhdmaa
