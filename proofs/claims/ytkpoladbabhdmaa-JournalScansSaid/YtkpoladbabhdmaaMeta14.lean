/- The reference's Big and Sector. Conditions: as each says. -/
import Derived.Test.YtkpoladbabhdmaaGrow
import Derived.Test.YtkpoladbabhdmaaMeta7
namespace Go.Proofs.Ytkpoladbabhdmaa
open Go.RowKit

theorem make8 (w : World) : (Instr.makeSlice 33 (.int .i64 8) (.int .i64 8)).run Try.prog w = .ok (.slice (some ⟨w.heap.size, 0, none⟩) 8 8) (w.alloc (.cells (bcells (List.replicate 8 0)) 5)) := by kernel_rfl

/-- the last k bytes are written -/
def bigTo (x : Int) (k : Nat) : Bytes := List.replicate (8 - k) 0 ++ (be64 x).drop (8 - k)
theorem bigTo_len (x : Int) (k : Nat) (h : k ≤ 8) : (bigTo x k).length = 8 := by simp only [bigTo, List.length_append, List.length_replicate, List.length_drop, be64_len]; omega
theorem be64_at (x : Int) (i : Nat) (h : i < 8) : (be64 x)[i]? = some (u8 (x / 2 ^ (56 - 8 * i))) := by
  simp [be64, beUp, h]
theorem bigTo_succ (x : Int) (k : Nat) (h : k < 8) : (bigTo x k).set (7 - k) (u8 (x / 256 ^ k)) = bigTo x (k + 1) := by
  have e1 : 8 - k = (7 - k) + 1 := by omega
  have e2 : 8 - (k + 1) = 7 - k := by omega
  have hd : (be64 x).drop (7 - k) = u8 (x / 256 ^ k) :: (be64 x).drop (8 - k) := by
    have hlt : 7 - k < (be64 x).length := by rw [be64_len]; omega
    rw [List.drop_eq_getElem_cons hlt, e1]
    congr 1
    have := be64_at x (7 - k) (by omega)
    rw [List.getElem?_eq_getElem hlt] at this
    rw [Option.some.inj this]
    have e3 : 56 - 8 * (7 - k) = 8 * k := by omega
    rw [e3, Int.pow_mul]
    rfl
  unfold bigTo
  rw [e2, hd, e1, List.replicate_succ', List.append_assoc, List.set_append_right _ _ (by simp)]
  simp

theorem bigTo_all (x : Int) : bigTo x 8 = be64 x := by simp [bigTo]
theorem bigTo_zero (x : Int) : bigTo x 0 = List.replicate 8 0 := by
  have : (be64 x).drop 8 = [] := List.drop_eq_nil_of_le (by rw [be64_len]; omega)
  simp [bigTo, this]

set_option maxRecDepth 100000 in
set_option maxHeartbeats 1000000 in
theorem big_any (w : World) {x : Int} (h0 : 0 ≤ x) (h1 : x ≤ 18446744073709551615) : Calls Try.prog 110 #[.int .u64 x] w (MadeBytes (be64 x) w) := by
  have hmk := make8
  obtain ⟨X, hX⟩ : ∃ X, X = x := ⟨x, rfl⟩
  have HX := Lib.hid hX
  clear hX
  go_enter Try.func110, Try.ntmps110
  go_wp2_with (fail)
  go_loopw [0, 4] (fun y i wr => ∃ (k : Nat) (j z : Int), k ≤ 8 ∧ i = .int .i64 j ∧ j = 7 - (k : Int) ∧ y = .int .u64 z ∧ z = X / 256 ^ k ∧ 0 ≤ z ∧ z ≤ 18446744073709551615 ∧ wr.heap[w.heap.size]? = some (.cells (bcells (bigTo X k)) 5) ∧ Upd [] w wr) (fun _ i _ => (intOf i + 1).toNat)
  case atStart => exact ⟨0, _, _, by omega, rfl, by omega, rfl, by rw [HX.out]; simp, h0, h1, by rw [bigTo_zero]; exact heap_alloc_new' _ _, (Upd.refl [] w).alloc _⟩
  case round =>
    obtain ⟨k, j, z, hk, rfl, hj, rfl, hz, hz0, hzm, hrow, hU⟩ := hrel
    by_cases hlt : k < 8
    · have hj0 : 0 ≤ j := by omega
      have hj1 : j ≤ 7 := by omega
      have hjn : j.toNat = 7 - k := by omega
      obtain ⟨b, _, hb⟩ := bcells_at (l := bigTo X k) (i := 7 - k) (by rw [bigTo_len X k hk]; omega)
      have hc : wr.cell? ⟨w.heap.size, j.toNat, none⟩ = some (byte b) := by rw [hjn]; exact cell_of_heap hrow hb
      have hzf : wr.frozen? ⟨w.heap.size, j.toNat, none⟩ = false := free_of_heap hrow
      have hlt2 := lt_of_heap hrow
      have hrow' : (wr.setCell ⟨w.heap.size, j.toNat, none⟩ (.int .u8 (z % 256))).heap[w.heap.size]? = some (.cells (bcells (bigTo X (k + 1))) 5) := by
        rw [hjn, heap_setCell_eq _ _ _ _ hrow, ← byte_u8, bcells_set, hz, bigTo_succ X k hlt]
      have hU' : Upd [] w (wr.setCell ⟨w.heap.size, j.toNat, none⟩ (.int .u8 (z % 256))) := hU.setCell _ (.inr (Nat.le_refl _)) (.inl (Nat.le_refl _))
      have hz' : z / 256 = X / 256 ^ (k + 1) := by rw [hz, Int.pow_succ, Int.ediv_ediv_of_nonneg (Int.pow_nonneg (by omega))]
      have hz1 : 0 ≤ z / 256 ∧ z / 256 ≤ 18446744073709551615 := by omega
      have HR := Lib.hid hrow'
      have HU := Lib.hid hU'
      have HZ := Lib.hid hz'
      have HJ := Lib.hid hj
      clear hrow' hU' hz' hz hj hb hjn hU hrow
      go_wp2_with (fail)
      go_roundw
      case rel => exact ⟨k + 1, _, _, by omega, rfl, by have := HJ.out; omega, rfl, HZ.out, hz1.1, hz1.2, HR.out, HU.out⟩
      case measure => simp only [intOf]; omega
    · obtain rfl : k = 8 := by omega
      have hj0 : j < 0 := by omega
      have hfin : MadeBytes (be64 x) w (.returned (.slice (some ⟨w.heap.size, 0, none⟩) 8 8)) wr := by
        rw [bigTo_all, HX.out] at hrow
        exact ⟨_, rfl, bytesO_of hrow (be64_len x) (by unfold maxLen; omega), hU, fun g hg => by cases hg; exact Nat.le_refl _⟩
      have HF := Lib.hid hfin
      clear hfin hrow hU hj hz
      go_wp2_with (fail)
      go_ret
      exact HF.out

set_option maxRecDepth 100000 in
set_option maxHeartbeats 1000000 in
theorem rsector_any {w : World} {v : Value} {p : Bytes} {G : Int} (h0 : 0 ≤ G) (h1 : G ≤ 18446744073709551615) (hv : BytesV w v p) (hl : p.length ≤ 200) :
    Calls Try.prog 83 #[.agg #[.int .u64 G, v]] w (MadeBytes (headSec G p) w) := by
  obtain ⟨pa, pc, rfl, _, _⟩ := hv.shape
  have hrow := heap_alloc_new' w (.cells #[.int .u64 G, .slice pa p.length pc] 68)
  have HU := Lib.hid ((Upd.refl [] w).alloc (.cells #[.int .u64 G, .slice pa p.length pc] 68))
  have HV := Lib.hid (hv.upd HU.out (by simp))
  have HR := Lib.hid hrow
  clear hrow hv
  go_enter Try.func83, Try.ntmps83
  go_wp2_with (fail)
  generalize hw1 : w.alloc (.cells #[.int .u64 G, .slice pa p.length pc] 68) = w1 at HR HV HU ⊢
  have hx1 : w.heap.size < w1.heap.size := lt_of_heap HR.out
  refine (big_any w1 h0 h1).mono ?_
  rintro e w2 ⟨v2, rfl, hb2, hU2, hN2⟩
  have hg2 : Grows w1 w2 v2 (be64 G) := ⟨hb2, hU2, hN2⟩
  have hcell : ∀ w' v' l, Grows w1 w' v' l → w'.cell? ⟨w.heap.size, 1, none⟩ = some (.slice pa p.length pc) ∧ w.heap.size < w'.heap.size := by
    intro w' v' l h
    have e := h.2.1.block w.heap.size hx1 (by simp)
    rw [HR.out] at e
    exact ⟨cell_of_heap e rfl, lt_of_heap e⟩
  obtain ⟨k2, l2⟩ := hcell _ _ _ hg2
  have hbyte : byte (u8 (p.length : Int)) = .int .u8 (p.length : Int) := by rw [byte_u8]; congr 1; omega
  obtain ⟨a3, c3, w3, r3, g3⟩ := hg2.append1 (u8 (p.length : Int)) 33 (by rw [be64_len]; omega)
  rw [hbyte] at r3
  obtain ⟨k3, l3⟩ := hcell _ _ _ g3
  have hv3 : BytesV w3 (.slice pa p.length pc) p := HV.out.upd g3.2.1 (by simp)
  obtain ⟨a4, c4, w4, r4, g4⟩ := g3.append hv3 33 (by simp [be64_len]; omega)
  obtain ⟨a2, c2, hv2⟩ := hg2.shape
  have hn4 : ((be64 G ++ [u8 (p.length : Int)]) ++ p).length = 9 + p.length := by simp [be64_len]; omega
  have hg4 : ∃ m : Nat, m ≤ 256 ∧ m = 9 + p.length ∧ Grows w1 w4 (.slice a4 m c4) (((be64 G ++ [u8 (p.length : Int)]) ++ p) ++ List.replicate (m - (9 + p.length)) 0) ∧ ((be64 G ++ [u8 (p.length : Int)]) ++ p).length = m := by
    rw [hn4] at g4
    exact ⟨9 + p.length, by omega, rfl, by simpa using g4, hn4⟩
  obtain ⟨m4, hm4, hm4e, hg4, hm4l⟩ := hg4
  rw [hm4l] at r4
  rw [be64_len] at hv2
  subst hv2
  have hpl : p.length ≤ 9223372036854775807 := by omega
  have hm0 : 9 + p.length ≤ m4 := by omega
  have R3 := Lib.hid r3
  have R4 := Lib.hid r4
  have HG4 := Lib.hid hg4
  clear hcell hb2 hU2 hN2 hg2 r3 g3 hv3 r4 g4 hn4 hg4 hbyte hm4l hm4e
  go_wp2_with (at_builtin; first | refine wpList_append_ran _ rfl _ _ 33 33 rfl rfl rfl R3.out ?_ | refine wpList_append_ran _ rfl _ _ 33 33 rfl rfl rfl R4.out ?_)
  go_loopw [3] (fun s wr => ∃ (m : Nat) (a : Option Addr) (c : Nat), m ≤ 256 ∧ 9 + p.length ≤ m ∧ s = .slice a m c ∧ Grows w1 wr (.slice a m c) (((be64 G ++ [u8 (p.length : Int)]) ++ p) ++ List.replicate (m - (9 + p.length)) 0)) (fun s _ => match s with | .slice _ n _ => 256 - n | _ => 0)
  case atStart => exact ⟨m4, a4, c4, hm4, hm0, rfl, HG4.out⟩
  case round =>
    obtain ⟨m, a, c, hm, hm1, rfl, hg⟩ := hrel
    by_cases hlt : m < 256
    · obtain ⟨a5, c5, w5, r5, g5⟩ := hg.append1 0 33 (by simp [be64_len]; omega)
      have hl5 : ((((be64 G ++ [u8 (p.length : Int)]) ++ p) ++ List.replicate (m - (9 + p.length)) 0) ++ [0]).length = m + 1 := by simp [be64_len]; omega
      have he5 : (((be64 G ++ [u8 (p.length : Int)]) ++ p) ++ List.replicate (m - (9 + p.length)) 0) ++ [0] = ((be64 G ++ [u8 (p.length : Int)]) ++ p) ++ List.replicate (m + 1 - (9 + p.length)) 0 := by
        rw [List.append_assoc, show m + 1 - (9 + p.length) = (m - (9 + p.length)) + 1 by omega, List.replicate_succ']
      rw [hl5] at r5 g5
      rw [he5] at g5
      have R5 : Hid ((Builtin.append_ #[33, 33] 33 #[.slice a m c, .slice (some ⟨wr.heap.size, 0, none⟩) 1 1]).run Try.prog (wr.alloc (.cells #[.int .u8 0] 5)) = .ok (.slice a5 (m + 1) c5) w5) := Lib.hid r5
      have G5 := Lib.hid g5
      clear r5 g5 hl5 he5 hg
      go_wp2_with (at_builtin; refine wpList_append_ran _ rfl _ _ 33 33 rfl rfl rfl R5.out ?_)
      go_roundw
      case rel => exact ⟨m + 1, a5, c5, by omega, by omega, rfl, G5.out⟩
      case measure => simp only []; omega
    · obtain rfl : m = 256 := by omega
      have hfin : MadeBytes (headSec G p) w (.returned (.slice a 256 c)) wr := by
        refine ⟨_, rfl, ?_, HU.out.trans hg.2.1 (by simp), fun g hg' => Nat.le_trans HU.out.size (hg.2.2 g hg')⟩
        exact hg.1
      have HF := Lib.hid hfin
      clear hfin hg
      go_wp2_with (fail)
      go_ret
      exact HF.out

end Go.Proofs.Ytkpoladbabhdmaa
