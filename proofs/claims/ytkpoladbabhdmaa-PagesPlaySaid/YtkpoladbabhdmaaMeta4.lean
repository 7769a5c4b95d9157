/- What a sector tells. Conditions: as each says. -/
import Derived.Test.YtkpoladbabhdmaaMeta3
import Derived.Deep.RegionHeld3
namespace Go.Proofs.Ytkpoladbabhdmaa
open Go.RowKit

/-- the head that a sector tells -/
def headOf (l : Bytes) : Int × Bytes :=
  let n := (l.getD 8 0).toNat
  if 200 < n then (0, []) else
    if l = headSec (beNum (l.take 8)) ((l.drop 9).take n) ∧ beNum (l.take 8) ≠ 0 then ((beNum (l.take 8) : Int), (l.drop 9).take n) else (0, [])

/-- v lies in a block of bytes, if anywhere -/
def InBytes (w : World) (v : Value) : Prop := ∀ g, v.ownBlock = some g → ∃ c fz, w.heap[g]? = some (.cells c 5 fz)

/-- a head, in memory that never turns -/
def HeadV (w : World) (v : Value) (h : Int × Bytes) : Prop := ∃ x, v = .agg #[.int .u64 h.1, x] ∧ BytesV w x h.2 ∧ InBytes w x

def ReadsHead (h : Int × Bytes) (w : World) (e : Ending) (w' : World) : Prop := ∃ v, e = .returned v ∧ HeadV w' v h ∧ Upd [] w w'

set_option maxRecDepth 100000 in
set_option maxHeartbeats 1000000 in
theorem read8_any {w : World} {v : Value} {l : Bytes} (hv : BytesO w v l) (hl : l.length = 256) : Calls Try.prog 82 #[v] w (ReadsHead (headOf l) w) := by
  obtain ⟨g, cap, rfl⟩ := hv.head (by omega)
  have hcap : l.length ≤ cap ∧ cap ≤ maxLen := by
    obtain ⟨a, c, he, h1, h2⟩ := hv.view.shape
    cases he; exact ⟨h1, h2⟩
  obtain ⟨b, hb8⟩ : ∃ b, l[8]? = some b := ⟨l[8]'(by omega), List.getElem?_eq_getElem _⟩
  have hc8 := hv.cell hb8
  have hb := b.toNat_lt
  have hltg : g < w.heap.size := World.block_lt_of_cell? w _ hc8
  have hgd : l.getD 8 0 = b := by simp [List.getD, hb8]
  rw [hl] at hcap ⊢
  rw [hl] at hv
  obtain ⟨hcap1, hcap2⟩ := hcap
  have hnone : ∀ w', Upd [] w w' → ReadsHead (0, []) w (.returned (.agg #[.int .u64 0, .slice none 0 0])) w' := fun w' h => ⟨_, rfl, ⟨_, rfl, .inl ⟨.nil, rfl⟩, by intro g hg; cases hg⟩, h⟩
  have hU1 : Upd [] w (w.alloc (.cells #[.int .u64 0, .slice none 0 0] 60)) := (Upd.refl [] w).alloc _
  have hr1 := heap_alloc_new' w (.cells #[.int .u64 0, .slice none 0 0] 60)
  by_cases h200 : 200 < b.toNat
  · have hh : headOf l = (0, []) := by simp only [headOf, hgd, h200, if_true]
    rw [hh]
    have HF := Lib.hid (hnone _ hU1)
    clear hv hb8 hgd hh hnone hU1 hr1
    go_enter Try.func82, Try.ntmps82
    go_wp2_with (fail)
    refine bodyPost_ret (v := .agg #[.int .u64 0, .slice none 0 0]) (by simp [results, Try.results82, go_sem]) rfl HF.out
  · have hle : b.toNat ≤ 200 := by omega
    have HV := Lib.hid hv
    have HB8 := Lib.hid hb8
    have HGD := Lib.hid hgd
    have HNO := Lib.hid hnone
    have HU1 := Lib.hid hU1
    have HR1 := Lib.hid hr1
    clear hv hb8 hgd hnone hU1 hr1
    go_enter Try.func82, Try.ntmps82
    go_wp2_with (fail)
    generalize w.alloc (.cells #[.int .u64 0, .slice none 0 0] 60) = w1 at HU1 HR1 ⊢
    have hv1 := HV.out.upd (HU1.out.drew)
    have hc9 : (9 : Int) + (b.toNat : Int) ≤ (cap : Int) := by omega
    have hc0 : (0 : Int) ≤ (b.toNat : Int) := by omega
    have hcs : (9 : Int) ≤ (9 : Int) + (b.toNat : Int) := by omega
    have hwr : IntKind.i64.wrap (9 + (b.toNat : Int)) = 9 + (b.toNat : Int) := by rw [IntKind.wrap_i64]; omega
    set_option maxHeartbeats 200000 in
    go_region_held3 (fun _ => True) (exact trivial) (first | (go_at_call 108; refine (get64_any (w := _) hv1.view (by omega)).mono ?_; rintro e w' ⟨rfl, rfl⟩) | (go_at_call 108; refine (get64_any (w := _) (hv1.upd ((Upd.refl [] _).alloc _)).view (by omega)).mono ?_; rintro e w' ⟨rfl, rfl⟩))
    all_goals
      have hnn : (9 + (b.toNat : Int)).toNat - 9 = b.toNat := by omega
      rw [hnn]
      generalize hG : beNum (List.take 8 l) = G
      obtain ⟨p, hp⟩ : ∃ p, p = (l.drop 9).take b.toNat := ⟨_, rfl⟩
      have hpl : p.length = b.toNat := by rw [hp, List.length_take, List.length_drop]; omega
      have hU2 : Upd [] w ((w1.alloc (.cells #[.int .u64 (G : Int), .slice (some ⟨g, 9, none⟩) b.toNat (cap - 9)] 60)).drew) := (HU1.out.alloc _).drew
      have hr2 : ((w1.alloc (.cells #[.int .u64 (G : Int), .slice (some ⟨g, 9, none⟩) b.toNat (cap - 9)] 60)).drew).heap[w1.heap.size]? = some (.cells #[.int .u64 (G : Int), .slice (some ⟨g, 9, none⟩) b.toNat (cap - 9)] 60) := heap_alloc_new' _ _
      have hx2 : ((w1.alloc (.cells #[.int .u64 (G : Int), .slice (some ⟨g, 9, none⟩) b.toNat (cap - 9)] 60)).drew).heap[w.heap.size]? = some (.cells #[.int .u64 0, .slice none 0 0] 60) := by
        rw [← HR1.out]; exact heap_alloc_lt _ _ (lt_of_heap HR1.out)
      generalize ((w1.alloc (.cells #[.int .u64 (G : Int), .slice (some ⟨g, 9, none⟩) b.toNat (cap - 9)] 60)).drew) = w2 at hU2 hr2 hx2 ⊢
      have hv2 : BytesO w2 (.slice (some ⟨g, 0, none⟩) 256 cap) l := HV.out.upd hU2
      have hview : ∀ w', Upd [] w w' → BytesV w' (.slice (some ⟨g, 9, none⟩) b.toNat (cap - 9)) p ∧ InBytes w' (.slice (some ⟨g, 9, none⟩) b.toNat (cap - 9)) := by
        intro w' hu
        have hv' : BytesO w' (.slice (some ⟨g, 0, none⟩) 256 cap) l := HV.out.upd hu
        refine ⟨.inr ⟨g, 9, cap - 9, by rw [hpl], by omega, by unfold maxLen at *; omega, fun i y hi => ?_⟩, fun g' hg' => ?_⟩
        · rw [hp, List.getElem?_take] at hi
          split at hi
          · rw [List.getElem?_drop] at hi
            exact hv'.cell hi
          · cases hi
        · cases hg'
          rcases hv'.2 with ⟨h0, _⟩ | ⟨g'', _, cur, he, _, hg, _⟩
          · cases h0
          · rw [hl] at he; cases he; exact ⟨cur, _, hg⟩
      have hv3 := (hview _ hU2).1
      have HW := Lib.hid hview
      have HH : Hid (headOf l = if l = headSec (G : Int) p ∧ G ≠ 0 then ((G : Int), p) else (0, [])) := Lib.hid (by
        have hgd := HGD.out
        simp only [headOf, hgd, if_neg h200, hG, ← hp])
      have hy : w1.heap.size < w2.heap.size := lt_of_heap hr2
      have hx : w.heap.size < w2.heap.size := lt_of_heap hx2
      have e0 : w2.cell? ⟨w1.heap.size, 0, none⟩ = some (.int .u64 (G : Int)) := cell_of_heap hr2 rfl
      have e1 : w2.cell? ⟨w1.heap.size, 1, none⟩ = some (.slice (some ⟨g, 9, none⟩) b.toNat (cap - 9)) := cell_of_heap hr2 rfl
      have HU2 := Lib.hid hU2
      have HV2 := Lib.hid hv2
      have HR2 := Lib.hid hr2
      have HX2 := Lib.hid hx2
      clear hview hU2 hv2 hr2 hx2 hp hG hnn hv1
      go_wp2_with (fail)
      refine (sector8_any (G := (G : Int)) hv3 (by omega)).mono ?_
      rintro e w5 ⟨v5, rfl, hb5, hU5, -⟩
      obtain ⟨a5, c5, hv5, _, _⟩ := hb5.view.shape
      have hlv := (HV2.out.upd hU5).view
      have hy5 := hU5.kept HR2.out (by simp)
      have hx5 := hU5.kept HX2.out (by simp)
      have d0 : w5.cell? ⟨w1.heap.size, 0, none⟩ = some (.int .u64 (G : Int)) := cell_of_heap hy5 rfl
      have d1 : w5.cell? ⟨w1.heap.size, 1, none⟩ = some (.slice (some ⟨g, 9, none⟩) b.toNat (cap - 9)) := cell_of_heap hy5 rfl
      have x0 : w5.cell? ⟨w.heap.size, 0, none⟩ = some (.int .u64 0) := cell_of_heap hx5 rfl
      have x1 : w5.cell? ⟨w.heap.size, 1, none⟩ = some (.slice none 0 0) := cell_of_heap hx5 rfl
      have z0 : w5.frozen? ⟨w.heap.size, 0, none⟩ = false := free_of_heap hx5
      have z1 : w5.frozen? ⟨w.heap.size, 1, none⟩ = false := free_of_heap hx5
      have hU5w : Upd [] w w5 := HU2.out.trans hU5 (by simp)
      have heq := equal_any hlv hb5.view
      generalize (headSec (G : Int) p).length = n5 at hv5
      subst hv5
      have HU5 := Lib.hid hU5w
      have HEQ := Lib.hid heq
      clear heq hlv hb5 hU5 hy5 hx5 hU5w hv3
      go_wp2_with (fail)
      refine HEQ.out.mono ?_
      rintro e w' ⟨rfl, rfl⟩
      have hset : ∀ u v, Upd [] w ((w5.setCell ⟨w.heap.size, 0, none⟩ u).setCell ⟨w.heap.size, 1, none⟩ v) := fun u v =>
        (HU5.out.setCell _ (.inr (Nat.le_refl _)) (.inl (Nat.le_refl _))).setCell _ (.inr (Nat.le_refl _)) (.inl (Nat.le_refl _))
      have HSET := Lib.hid hset
      clear hset
      by_cases hc : l = headSec (G : Int) p
      · have hdc : decide (l = headSec (G : Int) p) = true := by simpa using hc
        rw [hdc]
        by_cases hg0 : G = 0
        · have hg1 : (((G : Nat) : Int) == 0) = true := by simp [hg0]
          have hh : headOf l = (0, []) := by rw [HH.out, if_neg (by simp [hg0])]
          have HD := Lib.hid hh
          clear hdc hc hh hg0
          go_wp2_with (fail)
          refine bodyPost_ret (v := .agg #[.int .u64 0, .slice none 0 0]) (by simp [results, Try.results82, go_sem, x0, x1]) rfl (by rw [HD.out]; exact HNO.out _ (HSET.out _ _))
        · have hg1 : (((G : Nat) : Int) == 0) = false := by rw [beq_eq_false_iff_ne]; omega
          have hh : headOf l = ((G : Int), p) := by rw [HH.out, if_pos ⟨hc, hg0⟩]
          have HD := Lib.hid hh
          have hfin : ReadsHead ((G : Int), p) w (.returned (.agg #[.int .u64 (G : Int), .slice (some ⟨g, 9, none⟩) b.toNat (cap - 9)])) ((w5.setCell ⟨w.heap.size, 0, none⟩ (.int .u64 (G : Int))).setCell ⟨w.heap.size, 1, none⟩ (.slice (some ⟨g, 9, none⟩) b.toNat (cap - 9))) :=
            ⟨_, rfl, ⟨_, rfl, (HW.out _ (HSET.out _ _)).1, (HW.out _ (HSET.out _ _)).2⟩, HSET.out _ _⟩
          have HF := Lib.hid hfin
          clear hfin hdc hc hh hg0
          go_wp2_with (fail)
          refine bodyPost_ret (v := .agg #[.int .u64 (G : Int), .slice (some ⟨g, 9, none⟩) b.toNat (cap - 9)]) (by simp [results, Try.results82, go_sem, x0, x1]) rfl (by rw [HD.out]; exact HF.out)
      · have hdc : decide (l = headSec (G : Int) p) = false := by simpa using hc
        rw [hdc]
        have hh : headOf l = (0, []) := by rw [HH.out, if_neg (by simp [hc])]
        have HD := Lib.hid hh
        clear hdc hc hh
        go_wp2_with (fail)
        refine bodyPost_ret (v := .agg #[.int .u64 0, .slice none 0 0]) (by simp [results, Try.results82, go_sem, x0, x1]) rfl (by rw [HD.out]; exact HNO.out _ (HSET.out _ _))

end Go.Proofs.Ytkpoladbabhdmaa
