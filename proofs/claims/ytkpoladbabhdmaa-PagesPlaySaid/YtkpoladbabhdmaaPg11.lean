/- The pages' Open: the walk. Conditions: as it says. -/
import Derived.Test.YtkpoladbabhdmaaPg10
namespace Go.Proofs.Ytkpoladbabhdmaa
open Go.RowKit

set_option maxRecDepth 100000 in
set_option maxHeartbeats 4000000 in
theorem own_popen {w0 w : World} {l : List Thing} {d : Nat} {D : Dk} (h : Owns w0 (disk d D :: l) w) {from_ count pool : Nat} (hfit : (from_ : Int) + 4 * (count : Int) ≤ D.size) (hs : D.size ≤ 65536) (hp : 1 ≤ pool) {kv : Value} {L : List Nat}
    (hk : KeepV w kv L) (hl : L.length ≤ 1000) (hnd : L.Nodup) (hr : ∀ (j n : Nat), L[j]? = some n → n < count) :
    Calls Try.prog 58 #[.pointer (some ⟨d, 0, none⟩), .int .i64 (from_ : Int), .int .i64 (count : Int), .int .i64 (pool : Int), kv] w (OpenedTo D d from_ count pool L w0 l w) := by
  have hmk := fun w => make149 w count (by omega)
  have hmm := @run_makeMap Try.prog
  obtain ⟨ka, kc, hkv⟩ : ∃ a c, kv = .slice a L.length c := by
    rcases hk with ⟨rfl, rfl⟩ | ⟨g, cap, rfl, _⟩
    · exact ⟨_, _, rfl⟩
    · exact ⟨_, _, rfl⟩
  subst hkv
  have hq1 : IntKind.i64.wrap (D.size - (from_ : Int)) = D.size - (from_ : Int) := by simp [IntKind.wrap, IntKind.signed, IntKind.bits]; omega
  have hq2 : (D.size - (from_ : Int)).tdiv 4 = (D.size - (from_ : Int)) / 4 := Int.tdiv_eq_ediv_of_nonneg (by omega)
  have hq3 : ¬ ((D.size - (from_ : Int)) / 4 < (count : Int)) := by omega
  have hq4 : ¬ (D.size < (from_ : Int)) := by omega
  have hsz := own_size h 0 rfl
  have hnew := own_pnew h from_ count pool
  have HSZ := Lib.hid hsz
  have HNEW := Lib.hid hnew
  have HK := Lib.hid hk
  have HND := Lib.hid hnd
  have HR := Lib.hid hr
  have HFIT := Lib.hid hfit
  clear h hsz hnew hk hnd hr hfit
  go_enter Try.func58, Try.ntmps58
  go_wp2_with (go_at_call 33; refine HSZ.out.mono ?_; rintro e w' ⟨rfl, rfl⟩)
  go_loopw [50] (fun x wr => ∃ k : Nat, k ≤ L.length ∧ x = .int .i64 (k : Int) ∧ Owns w0 (pth ⟨w.heap.size + 1 + 1, d, w.heap.size, w.heap.size + 1, from_, pool⟩ ⟨D, keepIs count L k, [], false⟩ (.slice none 0 0) l) wr ∧ Keeps w wr ∧ ∀ g, g < w.heap.size → wr.heap[g]? = w.heap[g]?) (fun x _ => L.length - (intOf x).toNat)
  case atStart =>
    refine ⟨0, Nat.zero_le _, rfl, HNEW.out, ((((Upd.refl [] w).alloc _).alloc _).alloc _).keeps, fun g hg => ?_⟩
    exact ((((Upd.refl [] w).alloc _).alloc _).alloc _).block g hg (by simp)
  case round =>
    obtain ⟨k, hkl, rfl, hO, hkp, hbl⟩ := hrel
    by_cases hlt : k < L.length
    · obtain ⟨n, hn⟩ : ∃ n, L[k]? = some n := ⟨L[k], List.getElem?_eq_getElem hlt⟩
      obtain ⟨g, rfl, hcw⟩ : ∃ g, ka = some ⟨g, 0, none⟩ ∧ w.cell? ⟨g, k, none⟩ = some (.int .i64 (n : Int)) := by
        rcases HK.out with ⟨_, h0⟩ | ⟨g, cap, he, hc⟩
        · rw [h0] at hlt; simp at hlt
        · cases he; exact ⟨g, rfl, hc k n hn⟩
      have hcr : wr.cell? ⟨g, k, none⟩ = some (.int .i64 (n : Int)) := by
        rw [World.cell?_of_block (w := w) (a := ⟨g, k, none⟩) (hbl g (World.block_lt_of_cell? w _ hcw))]; exact hcw
      have hnc := HR.out k n hn
      obtain ⟨-, -, -, p3, -, -, -, plt⟩ := own_pg hO
      have p3' : wr.cell? ⟨w.heap.size + 1 + 1, 3, none⟩ = some (.slice (some ⟨w.heap.size, 0, none⟩) count count) := by rw [p3]; simp only [keepIs_len]
      have hz := own_is hO (keepIs_at HND.out hn hnc)
      have hz' : wr.cell? ⟨w.heap.size, n, none⟩ = some (.int .i64 0) := hz
      have r1 := own_row hO 1 rfl
      have hfz : wr.frozen? ⟨w.heap.size, n, none⟩ = false := free_of_heap r1
      have hil := lt_of_heap r1
      obtain ⟨q1, q2⟩ := pth_is_set hO (k := n) 1
      have hREL : Hid (Owns w0 (pth ⟨w.heap.size + 1 + 1, d, w.heap.size, w.heap.size + 1, from_, pool⟩ ⟨D, keepIs count L (k + 1), [], false⟩ (.slice none 0 0) l) (wr.setCell ⟨w.heap.size, n, none⟩ (.int .i64 1)) ∧ Keeps w (wr.setCell ⟨w.heap.size, n, none⟩ (.int .i64 1)) ∧ ∀ g, g < w.heap.size → (wr.setCell ⟨w.heap.size, n, none⟩ (.int .i64 1)).heap[g]? = w.heap[g]?) :=
        Lib.hid ⟨by rw [keepIs_succ hn]; exact q1, hkp.trans q2, fun g hg => by rw [heap_setCell_ne _ _ _ (by show g ≠ w.heap.size; omega)]; exact hbl g hg⟩
      clear q1 q2 hO hkp hbl p3 hz r1 hn hcw
      go_wp2_with (fail)
      go_roundw
      case rel => exact ⟨k + 1, by omega, by go_num, hREL.out⟩
      case measure => simp only [intOf]; omega
    · obtain rfl : k = L.length := by omega
      have HF := Lib.hid (show OpenedTo D d from_ count pool L w0 l w (.returned (.tuple #[.pointer (some ⟨w.heap.size + 1 + 1, 0, none⟩), .int .i64 0])) wr from ⟨_, _, rfl, rfl, rfl, rfl, hO, hkp⟩)
      clear hO hkp hbl
      go_wp2_with (fail)
      go_ret2
      exact HF.out

end Go.Proofs.Ytkpoladbabhdmaa
