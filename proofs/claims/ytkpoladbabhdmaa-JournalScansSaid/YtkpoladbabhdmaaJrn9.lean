/- awake of layer 7; appends onto a disk that does not burn. Conditions: as each says. -/
import Derived.Test.YtkpoladbabhdmaaJrn5
import Derived.Test.YtkpoladbabhdmaaJrn8
import Derived.Test.YtkpoladbabhdmaaMeta10
import Derived.Lib.SlBytesConst
namespace Go.Proofs.Ytkpoladbabhdmaa
open Go.RowKit

/-- where nothing burns and there is room all parts are written -/
theorem jw_calm {f E : Int} {b : Bytes} (hf : 0 ≤ f) : ∀ (r p : Nat) (S : JS), Calm S.D → f + (S.next : Int) + (r : Int) ≤ S.D.size →
    (jw f E b r p S).2 = 0 ∧ (jw f E b r p S).1.next = S.next + r ∧ (jw f E b r p S).1.num = S.num + 1 ∧ (jw f E b r p S).1.over = S.over ∧ Calm (jw f E b r p S).1.D ∧ (jw f E b r p S).1.D.size = S.D.size
  | 0, p, S, h, _ => ⟨rfl, rfl, rfl, rfl, h, rfl⟩
  | r + 1, p, S, h, hs => by
    obtain ⟨w1, w2, w3, _, _⟩ := h.write (n := f + (S.next : Int)) (l := jsec E S.next S.num p b) (by omega) (by omega) (jsec_len _ _ _ _ _)
    simp only [jw]
    rw [if_pos w1]
    obtain ⟨q1, q2, q3, q4, q5, q6⟩ := jw_calm hf r (p + 1) { S with D := S.D.write (f + (S.next : Int)) (jsec E S.next S.num p b), next := S.next + 1 } w2 (by show f + ((S.next + 1 : Nat) : Int) + (r : Int) ≤ (S.D.write _ _).size; rw [w3]; omega)
    exact ⟨q1, by rw [q2]; show S.next + 1 + r = _; omega, q3, q4, q5, by rw [q6]; exact w3⟩

theorem app_calm {f c E : Int} {b : Bytes} {S : JS} (hf : 0 ≤ f) (ho : S.over = false) (hb : 0 < b.length) (hl : b.length ≤ 8000) (hr : (S.next : Int) + (jparts b.length : Int) ≤ c) (h : Calm S.D) (hs : f + c ≤ S.D.size) :
    (S.app f c E b).2 = 0 ∧ (S.app f c E b).1.next = S.next + jparts b.length ∧ (S.app f c E b).1.num = S.num + 1 ∧ (S.app f c E b).1.over = false := by
  have hb0 : b ≠ [] := by rintro rfl; simp at hb
  have e : S.app f c E b = jw f E b (jparts b.length) 0 S := by
    unfold JS.app
    rw [if_neg (by simp [ho]), if_neg hb0, if_neg (by omega), if_neg (by omega)]
  obtain ⟨q1, q2, q3, q4, _, _⟩ := jw_calm hf (E := E) (b := b) (jparts b.length) 0 S h (by omega)
  rw [e]
  exact ⟨q1, q2, q3, by rw [q4, ho]⟩

set_option maxRecDepth 100000 in
set_option maxHeartbeats 1000000 in
theorem awake7_any (w : World) : Calls Try.prog 45 #[] w (Returns (.bool true) (Upd [] w)) := by
  have hs4 : (Dk.new 4).size = 4 := by decide
  have ha : areaB (Dk.new 4).size 1 3 = true := by decide
  obtain ⟨a1, a2, a3, a4⟩ := app_calm (f := 1) (c := 3) (E := 7) (b := [97]) (S := ⟨Dk.new 4, 0, 0, false⟩) (by omega) rfl (by simp) (by simp) (by decide) (Calm.new 4) (by rw [hs4]; omega)
  have HA := Lib.hid ha
  have A1 := Lib.hid a1
  have A2 := Lib.hid a2
  have kc := fun (w : World) (C : Array Value) (n c : Nat) => Lib.run_convert_bytes_const (P := Try.prog) w 33 5 C n c Try.underlying33 Try.underlying5
  have hj : jparts 235 = 2 := by decide
  have HJ := Lib.hid hj
  clear ha a1 a2 a3 a4 hs4 hj
  go_enter Try.func45, Try.ntmps45
  go_wp2_with (fail)
  refine (own_new (Owns.none w) 4).mono ?_
  rintro e w1 ⟨d, rfl, hO1, -⟩
  have HO1 := Lib.hid hO1
  clear hO1
  go_wp2_with (fail)
  refine (own_jnew HO1.out 0 rfl (by unfold int64; omega) (by unfold int64; omega) HA.out).mono ?_
  rintro e w2 ⟨q, rfl, hO2, -⟩
  have HO2 := Lib.hid hO2
  clear hO2
  go_wp2_with (fail)
  have hOA := HO2.out.upd ((Upd.refl [] w2).alloc (.cells #[.int .u8 97] 5 (1, 2)))
  have hrow := heap_alloc_new' w2 (.cells #[.int .u8 97] 5 (1, 2))
  generalize w2.alloc (.cells #[.int .u8 97] 5 (1, 2)) = w3 at hOA hrow ⊢
  have hbv : BytesV w3 (.slice (some ⟨w2.heap.size, 0, none⟩) 1 1) [97] := .inr ⟨w2.heap.size, 0, 1, rfl, Nat.le_refl _, by unfold maxLen; omega, fun i x hi => by
    cases i with
    | zero => simp at hi; subst hi; exact cell_of_heap hrow rfl
    | succ i => simp at hi⟩
  have hib : InBytes w3 (.slice (some ⟨w2.heap.size, 0, none⟩) 1 1) := by intro g hg; cases hg; exact ⟨_, _, hrow⟩
  have hla : Lasting w w3 (.slice (some ⟨w2.heap.size, 0, none⟩) 1 1) [97] := fun w' l' _ hk => hbv.keep hib hk
  refine (own_japp (S := ⟨Dk.new 4, 0, 0, false⟩) hOA hla (by omega) (by omega) (by omega) (by omega) (by simp) (by simp) (by unfold Big; simp [Dk.new])).mono ?_
  obtain ⟨R, hR⟩ : ∃ R, R = JS.app 1 3 7 [97] ⟨Dk.new 4, 0, 0, false⟩ := ⟨_, rfl⟩
  have a1 := A1.out
  have a2 := A2.out
  rw [← hR] at a1 a2 ⊢
  rintro e w4 ⟨rfl, hO4, -⟩
  rw [a1]
  have HO4 := Lib.hid hO4
  have HA2 : Hid (R.1.next = 1) := Lib.hid a2
  clear hO4 a1 a2 hR hla hbv hOA hib hrow
  go_wp2_with (fail)
  refine (own_room HO4.out 0 rfl (by omega) (by omega) (by rw [HA2.out]; omega)).mono ?_
  rw [HA2.out]
  rintro e w' ⟨rfl, nq, rfl⟩
  have HO5 := Lib.hid (own_drewN HO4.out nq)
  go_wp2_with (fail)
  generalize w4.drewN nq = w5 at HO5 ⊢
  refine (parts_any 235 (by omega) _).mono ?_
  rw [HJ.out]
  rintro e w' ⟨rfl, rfl⟩
  go_wp2_with (fail)
  go_ret
  exact ⟨rfl, HO5.out.mine⟩

end Go.Proofs.Ytkpoladbabhdmaa
