/- Heads and sectors, plain: what is laid is what is read. Conditions: as each says. -/
import Derived.Test.YtkpoladbabhdmaaMeta6
namespace Go.Proofs.Ytkpoladbabhdmaa
open Go.RowKit

theorem beNum_beUp (x : Int) (h0 : 0 ≤ x) (h1 : x < 18446744073709551616) : ∀ (k : Nat), k ≤ 8 → (beNum (beUp x k) : Int) = x / 2 ^ (64 - 8 * k)
  | 0, _ => by
    have : x / 2 ^ (64 - 8 * 0) = 0 := Int.ediv_eq_zero_of_lt h0 (by simpa using h1)
    rw [this]; simp [beUp, beNum]
  | k + 1, hk => by
    have ih := beNum_beUp x h0 h1 k (by omega)
    rw [beUp_succ, beNum_snoc, Int.natCast_add, Int.natCast_mul, ih, u8_toNat]
    have e1 : 64 - 8 * k = (56 - 8 * k) + 8 := by omega
    have e2 : 64 - 8 * (k + 1) = 56 - 8 * k := by omega
    rw [e1, e2, Int.pow_add, ← Int.ediv_ediv_of_nonneg (Int.pow_nonneg (by omega))]
    generalize x / 2 ^ (56 - 8 * k) = y
    omega

theorem beNum_be64 (x : Int) (h0 : 0 ≤ x) (h1 : x < 18446744073709551616) : (beNum (be64 x) : Int) = x := by
  have := beNum_beUp x h0 h1 8 (by omega)
  simpa [be64] using this

theorem headOf_zeros : headOf zeros = (0, []) := by
  have h : beNum (zeros.take 8) = 0 := by decide +kernel
  have h8 : (zeros.getD 8 0).toNat = 0 := by decide +kernel
  have e : ¬ (zeros = headSec ((0 : Nat) : Int) ((zeros.drop 9).take 0) ∧ (0 : Nat) ≠ 0) := fun h => h.2 rfl
  simp only [headOf, h, h8]
  rw [if_neg (by omega), if_neg e]

/-- what a Save lays is what Open reads -/
theorem headOf_headSec (G : Int) (p : Bytes) (h0 : 0 < G) (h1 : G < 18446744073709551616) (hl : p.length ≤ 200) : headOf (headSec G p) = (G, p) := by
  have t8 : (headSec G p).take 8 = be64 G := by
    unfold headSec
    rw [List.append_assoc, List.append_assoc, List.take_left' (be64_len G)]
  have g8 : (headSec G p).getD 8 0 = u8 (p.length : Int) := by
    unfold headSec
    rw [List.append_assoc, List.append_assoc, List.getD_eq_getElem?_getD, List.getElem?_append_right (by rw [be64_len]; omega), be64_len]
    simp
  have hn : (u8 (p.length : Int)).toNat = p.length := by
    have := u8_toNat (p.length : Int)
    omega
  have d9 : ((headSec G p).drop 9).take p.length = p := by
    have e : headSec G p = (be64 G ++ [u8 (p.length : Int)]) ++ (p ++ List.replicate (256 - (9 + p.length)) 0) := by unfold headSec; rw [List.append_assoc]
    rw [e, List.drop_left' (by simp [be64_len]), List.take_left' rfl]
  have hb := beNum_be64 G (by omega) h1
  simp only [headOf, t8, g8, hn, d9]
  rw [if_neg (by omega), if_pos ⟨by rw [hb], by omega⟩, hb]

end Go.Proofs.Ytkpoladbabhdmaa
