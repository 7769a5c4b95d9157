/- A page of one byte. Conditions: none. -/
import Derived.Test.YtkpoladbabhdmaaPg6
namespace Go.Proofs.Ytkpoladbabhdmaa
open Go.RowKit

/-- 1024 bytes alike -/
def pageOf (m : Int) : Bytes := List.replicate 1024 (u8 m)
theorem pageOf_len (m : Int) : (pageOf m).length = 1024 := List.length_replicate

def pageTo (m : Int) (k : Nat) : Bytes := List.replicate k (u8 m) ++ List.replicate (1024 - k) 0
theorem pageTo_len (m : Int) {k : Nat} (h : k ≤ 1024) : (pageTo m k).length = 1024 := by rw [pageTo, List.length_append, List.length_replicate, List.length_replicate]; omega
theorem pageTo_set (m : Int) {k : Nat} (h : k < 1024) : (pageTo m k).set k (u8 m) = pageTo m (k + 1) := by
  unfold pageTo
  rw [List.set_append_right _ _ (by rw [List.length_replicate]; omega), List.length_replicate, Nat.sub_self]
  obtain ⟨r, hr⟩ : ∃ r, 1024 - k = r + 1 := ⟨1023 - k, by omega⟩
  rw [hr, show 1024 - (k + 1) = r by omega, List.replicate_succ, List.set_cons_zero, List.replicate_succ', List.append_assoc]
  rfl

set_option maxRecDepth 100000 in
set_option maxHeartbeats 1000000 in
theorem page_any (w : World) (m : Int) : Calls Try.prog 61 #[.int .i64 m] w (MadeBytes (pageOf m) w) := by
  have hmk := make1k
  have hp0 : pageTo m 0 = z1k := rfl
  have HP0 := Lib.hid hp0
  clear hp0
  go_enter Try.func61, Try.ntmps61
  go_wp2_with (fail)
  go_loopw [4] (fun i wr => ∃ k : Nat, k ≤ 1024 ∧ i = .int .i64 (k : Int) ∧ wr.heap[w.heap.size]? = some (.cells (bcells (pageTo m k)) 5) ∧ Upd [] w wr) (fun i _ => 1024 - (intOf i).toNat)
  case atStart => exact ⟨0, Nat.zero_le _, rfl, by rw [HP0.out]; exact heap_alloc_new' _ _, (Upd.refl [] w).alloc _⟩
  case round =>
    obtain ⟨k, hk, rfl, hrow, hU⟩ := hrel
    by_cases hlt : k < 1024
    · obtain ⟨b, _, hb⟩ := bcells_at (l := pageTo m k) (i := k) (by rw [pageTo_len m hk]; exact hlt)
      have hc : wr.cell? ⟨w.heap.size, k, none⟩ = some (byte b) := cell_of_heap hrow hb
      have hzf : wr.frozen? ⟨w.heap.size, k, none⟩ = false := free_of_heap hrow
      have hlt2 := lt_of_heap hrow
      have hrow' : (wr.setCell ⟨w.heap.size, k, none⟩ (.int .u8 (m % 256))).heap[w.heap.size]? = some (.cells (bcells (pageTo m (k + 1))) 5) := by
        rw [heap_setCell_eq _ _ _ _ hrow, ← byte_u8, bcells_set, pageTo_set m hlt]
      have hU' : Upd [] w (wr.setCell ⟨w.heap.size, k, none⟩ (.int .u8 (m % 256))) := hU.setCell _ (.inr (Nat.le_refl _)) (.inl (Nat.le_refl _))
      have HR := Lib.hid hrow'
      have HU := Lib.hid hU'
      clear hrow' hU' hb hU hrow
      go_wp2_with (fail)
      go_roundw
      case rel => exact ⟨k + 1, by omega, by go_num, HR.out, HU.out⟩
      case measure => simp only [intOf]; omega
    · obtain rfl : k = 1024 := by omega
      have hfin : MadeBytes (pageOf m) w (.returned (.slice (some ⟨w.heap.size, 0, none⟩) 1024 1024)) wr := by
        have e : pageTo m 1024 = pageOf m := by unfold pageTo pageOf; rw [Nat.sub_self, List.replicate_zero, List.append_nil]
        rw [e] at hrow
        exact ⟨_, rfl, bytesO_of hrow (pageOf_len m) (by unfold maxLen; omega), hU, fun g hg => by cases hg; exact Nat.le_refl _⟩
      have HF := Lib.hid hfin
      clear hfin hrow hU
      go_wp2_with (fail)
      go_ret
      exact HF.out

end Go.Proofs.Ytkpoladbabhdmaa
