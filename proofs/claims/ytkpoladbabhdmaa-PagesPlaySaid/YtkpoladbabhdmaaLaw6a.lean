/- The contracts of the small functions of the statements of layer 6. Conditions: as each says. -/
import Derived.Test.YtkpoladbabhdmaaDisk8
namespace Go.Proofs.Ytkpoladbabhdmaa
open Go.RowKit
open Go.ChangeMaps (setBlock)

/-- the cells of bytes -/
def bcells (l : Bytes) : Array Value := (l.map byte).toArray

theorem make256 (w : World) : (Instr.makeSlice 33 (.int .i64 256) (.int .i64 256)).run Try.prog w = .ok (.slice (some ⟨w.heap.size, 0, none⟩) 256 256) (w.alloc (.cells (bcells zeros) 5)) := by kernel_rfl

theorem bytesO_new (w : World) (l : Bytes) (h : l.length ≤ maxLen) : BytesO (w.alloc (.cells (bcells l) 5)) (.slice (some ⟨w.heap.size, 0, none⟩) l.length l.length) l :=
  ⟨by simp, .inr ⟨_, l.length, bcells l, rfl, Nat.zero_le _, heap_alloc_new' _ _, Nat.le_refl _, h, by simp [bcells], by simp only [bcells]; exact List.take_of_length_le (by simp)⟩⟩

theorem zeros_le : zeros.length ≤ maxLen := by rw [zeros_len]; unfold maxLen; omega

theorem Dk.new_down (n : Int) : (Dk.new n).down = false := rfl

set_option maxRecDepth 100000 in
set_option maxHeartbeats 400000 in
theorem awake6_any (w : World) : Calls Try.prog 19 #[] w (Returns (.bool true) (Upd [] w)) := by
  have hmk := make256
  go_enter Try.func19, Try.ntmps19
  go_wp2_with (fail)
  refine (new_any _ _).mono ?_
  rintro e w1 ⟨b, F, rfl, hD1, hU1, hF1⟩
  have hs : (Dk.new 2).size = 2 := by decide
  go_wp2_with (fail)
  refine (size_any hD1).mono ?_
  rintro e w' ⟨rfl, rfl⟩
  go_wp2_with (fail)
  have hD2 : DiskAt (w1.alloc (.cells (bcells zeros) 5)) b (Dk.new 2) F := hD1.upd ((Upd.refl [] _).alloc _) (by simp)
  have hv := (bytesO_new w1 zeros zeros_le).view
  rw [zeros_len] at hv
  have hU2 : Upd [] w (w1.alloc (.cells (bcells zeros) 5)) := hU1.alloc _
  refine (write_any hD2 (n := 1) hv (fun g hg hm => ?_) (by show (0 : Nat) < Big; unfold Big; omega)).mono ?_
  · cases hg; exact Nat.lt_irrefl _ (hD1.lt _ hm)
  have hE : (Dk.new 2).writeE 1 zeros = 0 := by decide
  rw [hE]
  rintro e w3 ⟨rfl, F3, hD3, hU3, hF3⟩
  have hU : Upd [] w w3 := hU2.trans hU3 fun x hx => .inr (hF1 x hx)
  have hp : ((Dk.new 2).write 1 zeros).pend = 1 := by decide
  clear hU2 hU3 hD1 hD2 hv hE
  have HU := Lib.hid hU
  clear hU
  go_wp2_with (fail)
  refine (pending_any hD3).mono ?_
  rintro e w' ⟨rfl, rfl⟩
  go_wp2_with (fail)
  go_ret
  exact ⟨rfl, HU.out⟩

/-- a number's last byte -/
def u8 (m : Int) : UInt8 := UInt8.ofNat (m % 256).toNat
theorem u8_toNat (m : Int) : ((u8 m).toNat : Int) = m % 256 := by
  unfold u8
  rw [UInt8.toNat_ofNat']
  omega
theorem byte_u8 (m : Int) : byte (u8 m) = .int .u8 (m % 256) := by rw [byte, u8_toNat]

/-- a sector whose bytes are all alike -/
def alike (m : Int) : Bytes := List.replicate 256 (u8 m)
theorem alike_len (m : Int) : (alike m).length = 256 := List.length_replicate

/-- the first k bytes are m, the others still 0 -/
def half (m : Int) (n k : Nat) : Bytes := List.replicate k (u8 m) ++ List.replicate (n - k) 0
theorem half_len (m : Int) (n k : Nat) (h : k ≤ n) : (half m n k).length = n := by simp [half]; omega
theorem half_succ (m : Int) (n k : Nat) (h : k < n) : (bcells (half m n k)).setIfInBounds k (byte (u8 m)) = bcells (half m n (k + 1)) := by
  apply Array.ext_getElem?
  intro i
  simp only [bcells, Array.getElem?_setIfInBounds, List.getElem?_toArray, List.getElem?_map, half, List.size_toArray, List.length_map, List.length_append, List.length_replicate]
  have e1 : k + (n - k) = n := by omega
  rw [e1]
  by_cases hik : k = i
  · subst hik
    rw [if_pos rfl, if_pos h, List.getElem?_append_left (by simp), List.getElem?_replicate, if_pos (by omega)]
    rfl
  · rw [if_neg hik]
    by_cases h2 : i < k
    · rw [List.getElem?_append_left (by simpa using h2), List.getElem?_append_left (by simp; omega), List.getElem?_replicate, List.getElem?_replicate, if_pos h2, if_pos (by omega)]
    · rw [List.getElem?_append_right (by simp; omega), List.getElem?_append_right (by simp; omega)]
      simp only [List.length_replicate, List.getElem?_replicate]
      by_cases h3 : i - k < n - k
      · rw [if_pos h3, if_pos (by omega)]
      · rw [if_neg h3, if_neg (by omega)]

theorem half_cell {m : Int} {n k i : Nat} (hi : i < n) (hk : k ≤ n) : ∃ v, (bcells (half m n k))[i]? = some v := by
  have : i < (bcells (half m n k)).size := by simp [bcells, half_len m n k hk, hi]
  exact ⟨_, Array.getElem?_eq_getElem this⟩

set_option maxRecDepth 100000 in
set_option maxHeartbeats 400000 in
theorem sector6_any (m : Int) (w : World) : Calls Try.prog 23 #[.int .i64 m] w (MadeBytes (alike m) w) := by
  have hmk := make256
  go_enter Try.func23, Try.ntmps23
  go_wp2_with (fail)
  go_loopw [4] (fun i wr => ∃ k : Nat, k ≤ 256 ∧ i = .int .i64 k ∧ wr.heap[w.heap.size]? = some (.cells (bcells (half m 256 k)) 5 (0, 0)) ∧ Upd [] w wr) (fun i _ => 256 - (intOf i).toNat)
  case atStart => exact ⟨0, Nat.zero_le _, rfl, heap_alloc_new' _ _, (Upd.refl [] w).alloc _⟩
  case round =>
    obtain ⟨k, hk, rfl, hb, hU⟩ := hrel
    by_cases hlt : k < 256
    · obtain ⟨v, hv⟩ := half_cell (m := m) hlt hk
      have hc : wr.cell? ⟨w.heap.size, k, none⟩ = some v := cell_of_heap hb hv
      have hz : wr.frozen? ⟨w.heap.size, k, none⟩ = false := free_of_heap hb
      have hb' : (wr.setCell ⟨w.heap.size, k, none⟩ (.int .u8 (m % 256))).heap[w.heap.size]? = some (.cells (bcells (half m 256 (k + 1))) 5 (0, 0)) := by
        rw [heap_setCell_eq _ _ _ _ hb, ← byte_u8, half_succ m 256 k hlt]
      have hU' : Upd [] w (wr.setCell ⟨w.heap.size, k, none⟩ (.int .u8 (m % 256))) := hU.setCell _ (.inr (Nat.le_refl _)) (.inl (Nat.le_refl _))
      have HB := Lib.hid hb'
      have HU := Lib.hid hU'
      clear hb' hU' hb hv hU
      go_wp2_with (fail)
      go_roundw
      case rel => exact ⟨k + 1, by omega, by go_num, HB.out, HU.out⟩
      case measure => simp [intOf]; omega
    · obtain rfl : k = 256 := by omega
      have hfin : MadeBytes (alike m) w (.returned (.slice (some ⟨w.heap.size, 0, none⟩) 256 256)) wr := by
        have e1 : half m 256 256 = alike m := by simp [half, alike]
        rw [e1] at hb
        refine ⟨_, rfl, ⟨by simp [alike], .inr ⟨_, 256, _, by rw [alike_len], Nat.zero_le _, hb, by rw [alike_len]; exact Nat.le_refl _, by unfold maxLen; omega, by simp [bcells, alike_len], ?_⟩⟩, hU, fun g hg => by cases hg; exact Nat.le_refl _⟩
        simp only [bcells]; exact List.take_of_length_le (by simp)
      have HF := Lib.hid hfin
      clear hfin hb hU
      go_wp2_with (fail)
      go_ret
      exact HF.out

/-- the address of a view that has an element -/
theorem BytesV.at_ {w : World} {v : Value} {l : Bytes} (h : BytesV w v l) {k : Nat} {x : UInt8} (hx : l[k]? = some x) : ∃ g off cap, v = .slice (some ⟨g, off, none⟩) l.length cap ∧ w.cell? ⟨g, off + k, none⟩ = some (.int .u8 (x.toNat : Int)) := by
  rcases h with ⟨_, rfl⟩ | ⟨g, off, cap, rfl, h1, h2, h3⟩
  · simp at hx
  · exact ⟨g, off, cap, rfl, h3 k x hx⟩

set_option maxRecDepth 100000 in
set_option maxHeartbeats 400000 in
theorem same_any {w : World} {v1 v2 : Value} {l1 l2 : Bytes} (h1 : BytesV w v1 l1) (h2 : BytesV w v2 l2) : Calls Try.prog 27 #[v1, v2] w (Returns (.bool (decide (l1 = l2))) (Upd [] w)) := by
  obtain ⟨a1, c1, hv1, hc1, hm1⟩ := h1.shape
  obtain ⟨a2, c2, hv2, hc2, hm2⟩ := h2.shape
  have hb1 : l1.length ≤ 9223372036854775807 := by unfold maxLen at hm1; omega
  clear hm1 hm2 hc1 hc2
  by_cases hlen : l1.length = l2.length
  · have hne : (((l1.length : Nat) : Int) != ((l2.length : Nat) : Int)) = false := by rw [hlen]; simp
    have HLN := Lib.hid hlen
    clear hlen
    have H1 := Lib.hid h1
    have H2 := Lib.hid h2
    have HV1 := Lib.hid hv1
    have HV2 := Lib.hid hv2
    rw [hv1, hv2]
    clear h1 h2 hv1 hv2
    go_enter Try.func27, Try.ntmps27
    go_wp2_with (fail)
    go_loopw [5] (fun i wr => ∃ k : Nat, k ≤ l1.length ∧ i = .int .i64 k ∧ l1.take k = l2.take k ∧ Upd [] w wr) (fun i _ => l1.length - (intOf i).toNat)
    case atStart => exact ⟨0, Nat.zero_le _, rfl, rfl, Upd.refl [] w⟩
    case round =>
      obtain ⟨k, hk, rfl, heq, hU⟩ := hrel
      by_cases hlt : k < l1.length
      · have hlt2 : k < l2.length := by rw [← HLN.out]; exact hlt
        obtain ⟨x, hx⟩ : ∃ x, l1[k]? = some x := ⟨l1[k], List.getElem?_eq_getElem hlt⟩
        obtain ⟨y, hy⟩ : ∃ y, l2[k]? = some y := ⟨l2[k], List.getElem?_eq_getElem hlt2⟩
        obtain ⟨g1, o1, d1, e1, q1⟩ := (H1.out.upd hU (by simp)).at_ hx
        obtain ⟨g2, o2, d2, e2, q2⟩ := (H2.out.upd hU (by simp)).at_ hy
        have ea1 : a1 = some ⟨g1, o1, none⟩ := by have := HV1.out; rw [e1] at this; cases this; rfl
        have ea2 : a2 = some ⟨g2, o2, none⟩ := by have := HV2.out; rw [e2] at this; cases this; rfl
        subst ea1
        subst ea2
        by_cases hxy : x = y
        · have ht : (((x.toNat : Nat) : Int) != ((y.toNat : Nat) : Int)) = false := by rw [hxy]; simp
          have hn : l1.take (k + 1) = l2.take (k + 1) := by rw [List.take_add_one, List.take_add_one, heq, hx, hy, hxy]
          have HN := Lib.hid hn
          have HU := Lib.hid hU.drew
          clear hn hU heq hx hy e1 e2 hxy HV1 HV2
          go_wp2_with (fail)
          go_region
          go_wp2_with (fail)
          go_roundw
          case rel => exact ⟨k + 1, by omega, by go_num, HN.out, HU.out⟩
          case measure => simp [intOf]; omega
        · have ht : (((x.toNat : Nat) : Int) != ((y.toNat : Nat) : Int)) = true := by
            rw [bne_iff_ne]; intro h; exact hxy (UInt8.toNat_inj.1 (by omega))
          have hn : decide (l1 = l2) = false := by
            rw [decide_eq_false_iff_not]; rintro rfl; rw [hx] at hy; cases hy; exact hxy rfl
          have HN := Lib.hid hn
          have HU := Lib.hid hU.drew
          clear hn hU heq hx hy e1 e2 hxy HV1 HV2
          go_wp2_with (fail)
          go_region
          go_wp2_with (fail)
          go_ret
          exact ⟨by rw [HN.out]; rfl, HU.out⟩
      · obtain rfl : k = l1.length := by omega
        have hn : decide (l1 = l2) = true := by
          rw [decide_eq_true_iff]
          rw [List.take_length] at heq
          rw [heq, HLN.out, List.take_length]
        have HN := Lib.hid hn
        have HU := Lib.hid hU
        clear hn hU heq
        go_wp2_with (fail)
        go_ret
        exact ⟨by rw [HN.out]; rfl, HU.out⟩
  · have hne : (((l1.length : Nat) : Int) != ((l2.length : Nat) : Int)) = true := by rw [bne_iff_ne]; omega
    have hn : decide (l1 = l2) = false := by
      rw [decide_eq_false_iff_not]; rintro rfl; exact hlen rfl
    have HN := Lib.hid hn
    rw [hv1, hv2]
    clear hn hlen h1 h2 hv1 hv2
    go_enter Try.func27, Try.ntmps27
    go_wp2_with (fail)
    go_ret
    exact ⟨by rw [HN.out]; rfl, Upd.refl [] w⟩

end Go.Proofs.Ytkpoladbabhdmaa
