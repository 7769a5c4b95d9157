/- The contract of the disk's Acts. Conditions: as each says. -/
import Derived.Test.YtkpoladbabhdmaaDiskO
namespace Go.Proofs.Ytkpoladbabhdmaa
open Go.RowKit

set_option maxRecDepth 100000 in
set_option maxHeartbeats 400000 in
theorem acts_nil (w : World) : Calls Try.prog 35 #[.pointer none] w (Returns (.agg #[.int .i64 0, .int .i64 0, .int .i64 0]) (Upd [] w)) := by
  have hU : Upd [] w ((w.alloc (.cells #[.int .i64 0, .int .i64 0, .int .i64 0] 51)).alloc (.cells #[.int .i64 0, .int .i64 0, .int .i64 0] 51)) := ((Upd.refl [] w).alloc _).alloc _
  have HU := Lib.hid hU
  clear hU
  go_enter Try.func35, Try.ntmps35
  go_wp2_with (fail)
  exact bodyPost_ret (v := .agg #[.int .i64 0, .int .i64 0, .int .i64 0]) (by simp [results, Try.results35, go_sem]) rfl ⟨rfl, HU.out⟩

/-- the first k of the counts -/
def actsC (D : Dk) (k : Nat) : Array Value := #[.int .i64 (if 0 < k then D.a0 else 0), .int .i64 (if 1 < k then D.a1 else 0), .int .i64 (if 2 < k then D.a2 else 0)]

set_option maxRecDepth 100000 in
set_option maxHeartbeats 800000 in
theorem acts_any {b : Nat} {w : World} {D : Dk} {F : List Nat} (h : DiskAt w b D F) : Calls Try.prog 35 #[.pointer (some ⟨b, 0, none⟩)] w (Returns (.agg #[.int .i64 D.a0, .int .i64 D.a1, .int .i64 D.a2]) (Upd [] w)) := by
  go_enter Try.func35, Try.ntmps35
  go_wp2_with (fail)
  go_loopw [7] (fun i wr => ∃ k : Nat, k ≤ 3 ∧ i = .int .i64 k ∧ Upd [] w wr ∧ wr.heap[w.heap.size + 1]? = some (.cells (actsC D k) 51 (0, 0)) ∧ ∃ c, wr.heap[w.heap.size]? = some (.cells c 51 (0, 0)) ∧ c.size = 3) (fun i _ => 3 - (intOf i).toNat)
  case atStart =>
    refine ⟨0, Nat.zero_le _, rfl, ((Upd.refl [] w).alloc _).alloc _, ?_, #[.int .i64 0, .int .i64 0, .int .i64 0], ?_, rfl⟩
    · rw [← size_alloc w (.cells #[.int .i64 0, .int .i64 0, .int .i64 0] 51), heap_alloc_new']; rfl
    · rw [heap_alloc_lt _ _ (by rw [size_alloc]; omega), heap_alloc_new']
  case round =>
    obtain ⟨k, hk, rfl, hU, hb, c, hc, hcs⟩ := hrel
    have hD : DiskAt wr b D F := h.upd hU (by simp)
    obtain ⟨-, -, -, -, -, -, -, -, -, -, h6, h7, h8⟩ := hD.fields
    have hz : ∀ o, wr.frozen? ⟨w.heap.size + 1, o, none⟩ = false := fun o => free_of_heap hb
    have hz0 := hz 0
    have hz1 := hz 1
    have hz2 := hz 2
    have hU' : ∀ o v, Upd [] w (wr.setCell ⟨w.heap.size + 1, o, none⟩ v) := fun o v => hU.setCell _ (.inr (by omega)) (.inl (by omega))
    have hB' : ∀ o v, (wr.setCell ⟨w.heap.size + 1, o, none⟩ v).heap[w.heap.size + 1]? = some (.cells ((actsC D k).setIfInBounds o v) 51 (0, 0)) := fun o v => heap_setCell_eq _ _ _ _ hb
    have hC' : ∀ o v, (wr.setCell ⟨w.heap.size + 1, o, none⟩ v).heap[w.heap.size]? = some (.cells c 51 (0, 0)) := fun o v => by rw [heap_setCell_ne _ _ _ (by simp)]; exact hc
    have HU := Lib.hid hU'
    have HB := Lib.hid hB'
    have HC := Lib.hid hC'
    have c0 : wr.cell? ⟨w.heap.size + 1, 0, none⟩ = some (.int .i64 (if 0 < k then D.a0 else 0)) := cell_of_heap hb rfl
    have c1 : wr.cell? ⟨w.heap.size + 1, 1, none⟩ = some (.int .i64 (if 1 < k then D.a1 else 0)) := cell_of_heap hb rfl
    have c2 : wr.cell? ⟨w.heap.size + 1, 2, none⟩ = some (.int .i64 (if 2 < k then D.a2 else 0)) := cell_of_heap hb rfl
    have d0 : wr.cell? ⟨w.heap.size, 0, none⟩ = some (c[0]'(by omega)) := cell_of_heap hc (Array.getElem?_eq_getElem (by omega))
    have d1 : wr.cell? ⟨w.heap.size, 1, none⟩ = some (c[1]'(by omega)) := cell_of_heap hc (Array.getElem?_eq_getElem (by omega))
    have d2 : wr.cell? ⟨w.heap.size, 2, none⟩ = some (c[2]'(by omega)) := cell_of_heap hc (Array.getElem?_eq_getElem (by omega))
    have e0 : wr.frozen? ⟨w.heap.size, 0, none⟩ = false := free_of_heap hc
    have e1 : wr.frozen? ⟨w.heap.size, 1, none⟩ = false := free_of_heap hc
    have e2 : wr.frozen? ⟨w.heap.size, 2, none⟩ = false := free_of_heap hc
    generalize c[0]'(by omega) = x0 at d0
    generalize c[1]'(by omega) = x1 at d1
    generalize c[2]'(by omega) = x2 at d2
    clear hU' hB' hC' hz hb hc hD h
    have hcase : k = 0 ∨ k = 1 ∨ k = 2 ∨ k = 3 := by omega
    rcases hcase with rfl | rfl | rfl | rfl
    · go_wp2_with (go_at_call 80; refine (load_any b 6 _ h6).mono ?_; rintro e w' ⟨rfl, rfl⟩)
      go_roundw
      case rel => exact ⟨1, by omega, rfl, HU.out _ _, HB.out _ _, c, HC.out _ _, hcs⟩
      case measure => simp [intOf]
    · go_wp2_with (go_at_call 80; refine (load_any b 7 _ h7).mono ?_; rintro e w' ⟨rfl, rfl⟩)
      go_roundw
      case rel => exact ⟨2, by omega, rfl, HU.out _ _, HB.out _ _, c, HC.out _ _, hcs⟩
      case measure => simp [intOf]
    · go_wp2_with (go_at_call 80; refine (load_any b 8 _ h8).mono ?_; rintro e w' ⟨rfl, rfl⟩)
      go_roundw
      case rel => exact ⟨3, by omega, rfl, HU.out _ _, HB.out _ _, c, HC.out _ _, hcs⟩
      case measure => simp [intOf]
    · go_wp2_with (fail)
      refine bodyPost_ret (v := .agg #[.int .i64 D.a0, .int .i64 D.a1, .int .i64 D.a2]) (by simp [results, Try.results35, go_sem, d0, d1, d2]) rfl ⟨rfl, ?_⟩
      exact ((hU.setCell _ (.inr (Nat.le_refl _)) (.inl (Nat.le_refl _))).setCell _ (.inr (Nat.le_refl _)) (.inl (Nat.le_refl _))).setCell _ (.inr (Nat.le_refl _)) (.inl (Nat.le_refl _))

end Go.Proofs.Ytkpoladbabhdmaa
