/- awake of layer 8. Conditions: none. -/
import Derived.Test.YtkpoladbabhdmaaMeta7
import Derived.Lib.SlBytesConst
namespace Go.Proofs.Ytkpoladbabhdmaa
open Go.RowKit

/-- two sectors and more, nothing that burns: a Save is answered OK -/
theorem Dk.new_ok {n : Int} {G : Int} {p : Bytes} : (Dk.new n).syncE = 0 ∧ (2 ≤ (Dk.new n).size → p.length ≤ 200 → (Dk.new n).sync.writeE (G % 2) (headSec G p) = 0) := by
  have hf : (Dk.new n).sync.fuse = -1 := by rfl
  have hd : (Dk.new n).sync.down = false := by rfl
  have hs : (Dk.new n).sync.size = (Dk.new n).size := by rfl
  refine ⟨rfl, fun h2 hl => ?_⟩
  have ho : (Dk.new n).sync.okArg (G % 2) (headSec G p) = true := by
    simp only [Dk.okArg, hs, headSec_len G p hl]
    simp; omega
  have hb : (Dk.new n).sync.burns = true := by simp [Dk.burns, hf]
  simp [Dk.writeE, hd, ho, hb]

theorem saved_one : (Dk.new 2).saveE 1 [97] = 0 ∧ ((Dk.new 2).saved 1 [97]).openE = 0 ∧ ((Dk.new 2).saved 1 [97]).openH = (1, [97]) := by
  refine ⟨by decide +kernel, by decide +kernel, by decide +kernel⟩

set_option maxRecDepth 100000 in
set_option maxHeartbeats 1000000 in
theorem awake8_any (w : World) : Calls Try.prog 36 #[] w (Returns (.bool true) (Upd [] w)) := by
  have kc := fun (w : World) (C : Array Value) (n c : Nat) => Lib.run_convert_bytes_const (P := Try.prog) w 33 5 C n c Try.underlying33 Try.underlying5
  obtain ⟨q1, q2, q3⟩ := saved_one
  have Q1 := Lib.hid q1
  have Q2 := Lib.hid q2
  have Q3 := Lib.hid q3
  clear q1 q2 q3
  go_enter Try.func36, Try.ntmps36
  go_wp2_with (fail)
  refine (own_new (Owns.none w) 2).mono ?_
  rintro e w1 ⟨b, rfl, hO1, -⟩
  have HO1 := Lib.hid hO1
  clear hO1
  go_wp2_with (fail)
  have hOA := HO1.out.upd ((Upd.refl [] w1).alloc (.cells #[.int .u8 97] 5 (1, 2)))
  have hrow := heap_alloc_new' w1 (.cells #[.int .u8 97] 5 (1, 2))
  generalize w1.alloc (.cells #[.int .u8 97] 5 (1, 2)) = w2 at hOA hrow ⊢
  have hbv : BytesV w2 (.slice (some ⟨w1.heap.size, 0, none⟩) 1 1) [97] := .inr ⟨w1.heap.size, 0, 1, rfl, Nat.le_refl _, by unfold maxLen; omega, fun i x hi => by
    cases i with
    | zero => simp at hi; subst hi; exact cell_of_heap hrow rfl
    | succ i => simp at hi⟩
  have hib : InBytes w2 (.slice (some ⟨w1.heap.size, 0, none⟩) 1 1) := by intro g hg; cases hg; exact ⟨_, _, hrow⟩
  have hla : Lasting w w2 (.slice (some ⟨w1.heap.size, 0, none⟩) 1 1) [97] := fun w' l' _ hk => hbv.keep hib hk
  refine (own_save_up hOA 0 rfl hla (G := 1) (by omega) (by omega) (by unfold Big; simp [Dk.new]) Dk.new_ok).mono ?_
  rw [Q1.out]
  rintro e w3 ⟨rfl, hO3, -⟩
  have HO3 : Hid (Owns w [disk b ((Dk.new 2).saved 1 [97])] w3) := Lib.hid hO3
  clear hO3 hla hib hbv hrow hOA
  go_wp2_with (fail)
  refine (own_open HO3.out 0 rfl).mono ?_
  rw [Q2.out, Q3.out]
  rintro e w4 ⟨v4, rfl, ⟨x4, rfl, hb4, hi4⟩, hO4, -⟩
  obtain ⟨a4, c4, rfl, _, _⟩ := hb4.shape
  have hb4 : BytesV w4 (.slice a4 1 c4) [97] := hb4
  have hi4 : InBytes w4 (.slice a4 1 c4) := hi4
  have hba := hb4.keep hi4 (((Upd.refl [] w4).alloc (.cells #[.int .u64 1, .slice a4 1 c4] 60)).keeps)
  have hcv := conv_bytes hba
  have hU := hO4.mine.alloc (.cells #[.int .u64 1, .slice a4 1 c4] 60)
  have HU := Lib.hid hU
  clear hO4 hU hba hb4 hi4
  go_wp2_with (fail)
  go_ret
  exact ⟨rfl, HU.out⟩

end Go.Proofs.Ytkpoladbabhdmaa
