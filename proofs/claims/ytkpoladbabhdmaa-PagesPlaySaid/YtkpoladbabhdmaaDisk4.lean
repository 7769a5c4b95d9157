/- The contract of the disk's Write where it writes. Conditions: as each says. -/
import Derived.Test.YtkpoladbabhdmaaDisk3
namespace Go.Proofs.Ytkpoladbabhdmaa
open Go.RowKit
open Go.ChangeMaps (setBlock)

theorem Dk.wrote_wf {D : Dk} (h : D.Wf) {n : Int} {l : Bytes} (ho : D.okArg n l = true) : (D.wrote n l).Wf := by
  have hb := D.burnt_size
  obtain ⟨h0, h1, h2⟩ := Dk.okArg_iff ho
  refine ⟨by simp [Dk.wrote, hb]; exact h.s0, by simp [Dk.wrote, hb]; exact h.s1, ?_, ?_, ?_, ?_⟩
  · have := h.f0; unfold Dk.wrote Dk.burnt; split <;> (try split) <;> simp <;> omega
  · have := h.f1; unfold Dk.wrote Dk.burnt; split <;> (try split) <;> simp <;> omega
  · have := h.la; simp [Dk.wrote, D.burnt_lasts]; omega
  · intro p hp
    simp only [Dk.wrote, List.mem_append, List.mem_singleton] at hp
    simp only [Dk.wrote, hb]
    rcases hp with hp | rfl
    · exact h.wr p hp
    · exact ⟨h2, h0, h1⟩

theorem Dk.burnt_wf {D : Dk} (h : D.Wf) : D.burnt.Wf := by
  refine ⟨by rw [D.burnt_size]; exact h.s0, by rw [D.burnt_size]; exact h.s1, ?_, ?_, by rw [D.burnt_lasts, D.burnt_all]; exact h.la, by rw [D.burnt_all, D.burnt_size]; exact h.wr⟩
  · have := h.f0; unfold Dk.burnt; split <;> (try split) <;> simp <;> omega
  · have := h.f1; unfold Dk.burnt; split <;> (try split) <;> simp <;> omega

def Dk.act1 (D : Dk) : Dk := { D.burnt with a1 := wrap64 (D.a1 + 1) }

set_option maxRecDepth 100000 in
set_option maxHeartbeats 1000000 in
theorem write_ok {b : Nat} {w : World} {D : Dk} {F : List Nat} (h : DiskAt w b D F) (hd : D.down = false) {n : Int} {v : Value} {l : Bytes} (hv : BytesV w v l) (hsep : ∀ g, v.ownBlock = some g → g ∉ F) (ho : D.okArg n l = true) (hf : D.burns = true)
    (hlen : D.all.length < Big) :
    Calls Try.prog 22 #[.pointer (some ⟨b, 0, none⟩), .int .i64 n, v] w (Returns (.int .i64 0) (TurnsTo w b (D.wrote n l) F)) := by
  have hwf := Dk.wrote_wf h.1 ho
  have hbwf := Dk.burnt_wf h.1
  obtain ⟨a, cap, rfl, _, hm⟩ := hv.shape
  obtain ⟨h0, h1, h2⟩ := Dk.okArg_iff ho
  have h2' : (((l.length : Nat) : Int) != 256) = false := by simp [h2]
  obtain ⟨bn, bl, pa, pc, hc, -⟩ := h.fields
  have H2 := Lib.hid h2
  have HL := Lib.hid hlen
  clear h2 ho hlen
  have hnot : ∀ (x : Bool) (w : World), (Op.unary .not (.bool x)).run Try.prog w = .ok (.bool (!x)) w := fun _ _ => rfl
  go_enter Try.func22, Try.ntmps22
  go_wp2_with (go_at_call 30; refine (down_any h).mono ?_; rintro e w' ⟨rfl, rfl⟩)
  refine (burn_any h).mono ?_
  rintro e w1 ⟨rfl, F1, hD1, hU1, hF1⟩
  clear hc hd bn bl pa pc
  go_wp2_with (fail)
  obtain ⟨-, -, -, -, -, -, -, -, -, -, -, hc7, -⟩ := hD1.fields
  refine (add_any b 7 _ 1 hc7 (hD1.free 7)).mono ?_
  rintro e w2 ⟨rfl, hw2⟩
  have hT2 : DiskAt w2 b D.act1 F1 ∧ Upd F1 w1 w2 := by
    rw [← hw2]
    refine hD1.field 7 _ ⟨hbwf.s0, hbwf.s1, hbwf.f0, hbwf.f1, hbwf.la, hbwf.wr⟩ rfl rfl fun _ _ _ => ?_
    simp [dcells, Dk.act1, D.burnt_a1]
  clear hc7 hw2
  obtain ⟨hD2, hU2⟩ := hT2
  have hU12 : Upd F w w2 := hU1.trans hU2 hF1
  have hv2 : BytesV w2 (.slice a l.length cap) l := hv.upd hU12 fun g hg _ => hsep g hg
  go_wp2_with (fail)
  refine (clone_any w2 _ l hv2 (by have := H2.out; rintro rfl; simp at this) (by have := H2.out; omega)).mono ?_
  rintro e w3 ⟨v3, rfl, hb3, hU3, hnew3⟩
  have hone3 := hb3.oneCell
  have hsh3 := hb3.view.shape
  obtain ⟨a3, cap3, hv3, _, _⟩ := hsh3
  have hD3 : DiskAt w3 b D.act1 F1 := hD2.upd hU3 (by simp)
  have hU13 : Upd F w w3 := hU12.trans hU3 (by simp)
  clear hv2 hv hD1 hU1 hU2 hU12 hD2 hU3
  obtain ⟨_, bn, bl, pv, es1, c1, es2, c2, ps, g1, g2, g3, g4, g5, g6, g7, g8, g9, hF⟩ := hD3
  obtain ⟨es', c', hrun, hok⟩ := run_store (P := Try.prog) Try.underlying116 Try.underlying3 g2 g3 n hb3
  have hbn : bn ≠ b := by rintro rfl; rw [g1] at g2; cases g2
  have hl : ps.length = D.all.length - D.lasts := by
    have := congrArg List.length g8
    simpa [Dk.act1, D.burnt_all, D.burnt_lasts] using this
  generalize hw4 : setBlock w3 bn (.map es' c') = w4 at hrun
  have hown4 : (w4.alloc (.cells #[.int .i64 n, v3] 129)).ownsRow 0 129 2 pv ps.length (pcells ps) := by
    refine (ownsRow_same (w' := w4) g6 fun k hk => ?_).alloc _
    rw [← hw4]
    refine heap_setBlock_ne _ _ _ ?_
    rintro rfl
    rcases g6.2 with ⟨rfl, _⟩ | ⟨g, cap, cur, rfl, _, hgg, _⟩
    · cases hk
    · cases hk; rw [g2] at hgg; simp at hgg
  have hend : ∀ v' w5, w5.ownsRow 0 129 2 v' (ps.length + 1) (pcells ps ++ [.int .i64 n, v3]) → (w4.alloc (.cells #[.int .i64 n, v3] 129)).grownBy w5 pv.ownBlock → Moved (w4.alloc (.cells #[.int .i64 n, v3] 129)) pv v' →
      TurnsTo w b (D.wrote n l) F (w5.setCell ⟨b, 3, none⟩ v') ∧ w5.cell? ⟨b, 3, none⟩ = some pv ∧ w5.frozen? ⟨b, 3, none⟩ = false := by
    intro v' w5 ho hg hmv
    rw [← hw4] at hg hmv
    refine ⟨.trans hU13 hF1 (DiskAt.wrote_end (D2 := D.act1) hwf (by simp [Dk.wrote, Dk.act1, D.burnt_all]) (by simp [Dk.wrote, Dk.act1]) (by have := h.1.la; simp [Dk.act1, D.burnt_all, D.burnt_lasts]; omega) (fun _ _ _ => rfl) hb3 g1 g2 hok g4 g5 g6 g7 g8 g9 hF ho hg hmv), ?_⟩
    have hb5 : w5.heap[b]? = some (.cells (dcells D.act1 bn bl pv) 125 (0, 0)) := by
      rw [hg.block b (by rw [size_alloc, size_setBlock]; have := lt_of_heap g1; omega) ?_, heap_alloc_lt _ _ (by rw [size_setBlock]; exact lt_of_heap g1), heap_setBlock_ne _ _ _ (Ne.symm hbn)]
      · exact g1
      · intro hk
        rcases g6.2 with ⟨rfl, _⟩ | ⟨g, cap, cur, rfl, _, hgg, _⟩
        · cases hk
        · cases hk; rw [g1] at hgg; simp at hgg
    exact ⟨cell_of_heap hb5 rfl, free_of_heap hb5⟩
  have hc1 : w3.cell? ⟨b, 1, none⟩ = some (.map (some bn)) := cell_of_heap g1 rfl
  have hc3 : w4.cell? ⟨b, 3, none⟩ = some pv := by
    rw [← hw4, World.cell?_of_block (w := w3) (heap_setBlock_ne _ _ _ (Ne.symm hbn))]; exact cell_of_heap g1 rfl
  have hnews : ∀ (j : Nat) (u : Value), [Value.int .i64 n, v3][j]? = some u → (w4.alloc (.cells #[.int .i64 n, v3] 129)).cell? ((⟨w4.heap.size, 0, none⟩ : Addr).add j) = some u := by
    intro j u hu
    rw [Addr.add_lit, World.cell?_alloc_new]
    simpa using hu
  have hlt : b < w4.heap.size := by rw [← hw4, size_setBlock]; exact lt_of_heap g1
  clear g1 g2 g3 g4 g5 g6 g7 g8 g9 hF hok hU13 hF1 hnew3 hb3 hwf hbwf
  have HE := Lib.hid hend
  have HN := Lib.hid hnews
  have hone : ∀ u ∈ [Value.int .i64 n, v3], u.oneCell' = true := by
    intro u hu
    simp only [List.mem_cons, List.not_mem_nil, or_false] at hu
    rcases hu with rfl | rfl
    · rfl
    · exact hone3
  have hbd : ps.length + 1 ≤ maxLen ∧ (ps.length + 1) * 32 ≤ 140737488355328 := by
    have := HL.out; unfold Big at this; unfold maxLen; omega
  have HO := Lib.hid hone
  have HB := Lib.hid hbd
  have HW := Lib.hid hw4
  have HPL := Lib.hid hl
  clear hend hnews hone3 hone hbd hw4 hl
  subst hv3
  go_wp2_with (at_builtin; refine wpList_append_here _ rfl _ _ 117 rfl 129 Try.underlying117 Try.info129 rfl (by decide) _ _ _ rfl hown4 ⟨w4.heap.size, 0, none⟩ 1 1 [.int .i64 n, .slice a3 l.length cap3] rfl rfl HN.out HO.out HB.out.1 HB.out.2 ?_)
  intro v' w5 ho5 hg5 hm5
  obtain ⟨hT, hc5, hz5⟩ := HE.out v' w5 ho5 hg5 hm5
  obtain ⟨a', cap', hv', _, _⟩ := ownsRow_shape ho5
  subst hv'
  have HT := Lib.hid hT
  clear hT ho5 hg5 hm5
  go_wp2_with (fail)
  go_ret
  exact ⟨rfl, HT.out⟩

end Go.Proofs.Ytkpoladbabhdmaa
