/- The contracts of the reference's Write, Sync. Conditions: as each says. -/
import Derived.Test.YtkpoladbabhdmaaRef
import Derived.Deep.DeepMust
namespace Go.Proofs.Ytkpoladbabhdmaa
open Go.RowKit

theorem Turned.stay {w : World} {T : Thing} {F : List Nat} (h : T.is w F) : Turned w T F w := ⟨F, h, Upd.refl F w, fun _ hk => .inl hk⟩
theorem Turned.trans {w w1 w2 : World} {T : Thing} {F F1 : List Nat} (h1 : Upd F w w1) (hF : ∀ k ∈ F1, k ∈ F ∨ w.heap.size ≤ k) (h2 : Turned w1 T F1 w2) : Turned w T F w2 := by
  obtain ⟨F2, hd, hu, hf⟩ := h2
  refine ⟨F2, hd, h1.trans hu hF, fun k hk => ?_⟩
  rcases hf k hk with h | h
  · exact hF k h
  · exact .inr (Nat.le_trans h1.size h)
theorem Turned.keeps {w w' : World} {T : Thing} {F : List Nat} (h : Turned w T F w') : Keeps w w' := let ⟨_, _, hu, _⟩ := h; hu.keeps

theorem Try.info136 : (Try.prog.info? 136).map (fun i => (i.zero, i.size, i.bytes)) = some (some (.agg #[.int .i64 0, .slice none 0 0]), 2, 32) := by kernel_rfl

/-- one more write, and the field that holds them -/
theorem RefAt.wrote_end {w3 w5 : World} {b : Nat} {D2 D' : Dk} {F : List Nat} {n : Int} {l : Bytes} {v3 v' pv : Value} {ps : List (Int × Value × Bytes)} {o : Obj}
    (hw : D'.Wf) (hall : D'.all = D2.all ++ [(n, l)]) (hcells : ∀ pv, rcells D' pv = rcells D2 pv) (hb3 : BytesO w3 v3 l)
    (h1 : w3.heap[b]? = some (.cells (rcells D2 pv) 53 (0, 0))) (h6 : w3.ownsRow 0 136 2 pv ps.length (pcells ps)) (h7 : ∀ p ∈ ps, BytesO w3 p.2.1 p.2.2) (h8 : ps.map (fun p => (p.1, p.2.2)) = D2.all) (hF : F = b :: pv.ownBlock.toList)
    (ho : w5.ownsRow 0 136 2 v' (ps.length + 1) (pcells ps ++ [.int .i64 n, v3])) (hg : (w3.alloc o).grownBy w5 pv.ownBlock) (hm : Moved (w3.alloc o) pv v') :
    Turned w3 (rdisk b D') F (w5.setCell ⟨b, 1, none⟩ v') ∧ w5.cell? ⟨b, 1, none⟩ = some pv ∧ w5.frozen? ⟨b, 1, none⟩ = false := by
  subst hF
  have hpv : ∀ k, pv.ownBlock = some k → k < w3.heap.size ∧ k ≠ b ∧ ∀ (c : Array Value) (fz : Nat × Nat), w3.heap[k]? ≠ some (.cells c 5 fz) := by
    intro k hk
    rcases h6.2 with ⟨rfl, _⟩ | ⟨g, cap, cur, rfl, _, hgg, _⟩
    · cases hk
    · cases hk
      refine ⟨lt_of_heap hgg, ?_, fun c fz => by rw [hgg]; simp⟩
      rintro rfl; rw [h1] at hgg; simp at hgg
  have hu2 : Upd (b :: pv.ownBlock.toList) w3 w5 := ((Upd.refl _ w3).alloc o).grown hg (fun k hk => .inl (by simp [hk])) (fun k hk => .inr (hpv k hk).2.2)
  have hu3 : Upd (b :: pv.ownBlock.toList) w3 (w5.setCell ⟨b, 1, none⟩ v') := hu2.setCell _ (.inl (by simp)) (.inr (by intro c fz; rw [h1]; simp))
  have hb5 : w5.heap[b]? = some (.cells (rcells D2 pv) 53 (0, 0)) := by
    rw [hg.block b (by rw [size_alloc]; have := lt_of_heap h1; omega) (fun hk => (hpv b hk.symm).2.1 rfl), heap_alloc_lt _ _ (lt_of_heap h1)]; exact h1
  have hv'b : ∀ k, v'.ownBlock = some k → k ≠ b ∧ (k ∈ b :: pv.ownBlock.toList ∨ w3.heap.size ≤ k) := by
    intro k hk
    rcases hm with hm | ⟨g, hm, hgs⟩
    · rw [hm] at hk; exact ⟨(hpv k hk).2.1, .inl (by simp [hk])⟩
    · rw [hm] at hk; cases hk; rw [size_alloc] at hgs; have := lt_of_heap h1; exact ⟨by omega, .inr (by omega)⟩
  refine ⟨⟨b :: v'.ownBlock.toList, ⟨hw, v', ps ++ [(n, v3, l)], ?_, ?_, ?_, ?_, rfl⟩, hu3, ?_⟩, cell_of_heap hb5 rfl, free_of_heap hb5⟩
  · rw [heap_setCell_eq _ _ _ _ hb5]
    have e1 : (rcells D2 pv).setIfInBounds 1 v' = rcells D2 v' := rfl
    rw [e1, hcells]
  · have e2 : pcells (ps ++ [(n, v3, l)]) = pcells ps ++ [.int .i64 n, v3] := by simp [pcells]
    rw [e2, List.length_append]
    exact ownsRow_same ho fun k hk => heap_setCell_ne _ _ _ (hv'b k hk).1
  · intro p hp
    rcases List.mem_append.1 hp with hp | hp
    · exact (h7 p hp).upd hu3
    · simp only [List.mem_singleton] at hp; subst hp; exact hb3.upd hu3
  · rw [hall, List.map_append, h8]; rfl
  · intro k hk
    simp only [List.mem_cons, Option.mem_toList] at hk
    rcases hk with rfl | hk
    · exact .inl (by simp)
    · exact (hv'b k hk).2

set_option maxHeartbeats 400000 in
theorem rwrite_down {b : Nat} {w : World} {D : Dk} {F : List Nat} (h : RefAt w b D F) (hd : D.down = true) (n : Int) (v : Value) :
    Calls Try.prog 43 #[.pointer (some ⟨b, 0, none⟩), .int .i64 n, v] w fun e w' => e = .returned (.int .i64 7) ∧ w = w' := by
  obtain ⟨pa, pc, -, -, -, -, hc, -⟩ := h.fields
  go_enter Try.func43, Try.ntmps43
  go_wp2_with (fail)
  go_ret
  exact ⟨rfl, rfl⟩

set_option maxHeartbeats 400000 in
theorem rwrite_bad {b : Nat} {w : World} {D : Dk} {F : List Nat} (h : RefAt w b D F) (hd : D.down = false) {n : Int} {v : Value} {l : Bytes} (hv : BytesV w v l) (hb : D.okArg n l = false) :
    Calls Try.prog 43 #[.pointer (some ⟨b, 0, none⟩), .int .i64 n, v] w fun e w' => e = .returned (.int .i64 1) ∧ w = w' := by
  obtain ⟨a, cap, rfl, _, hm⟩ := hv.shape
  have hb' : ¬ (0 ≤ n ∧ n < D.size ∧ l.length = 256) := by simpa [Dk.okArg] using hb
  clear hb
  obtain ⟨pa, pc, hc0, -, -, -, hc, -⟩ := h.fields
  by_cases h0 : n < 0
  · go_enter Try.func43, Try.ntmps43
    go_wp2_with (fail)
    go_ret
    exact ⟨rfl, rfl⟩
  · by_cases h1 : D.size ≤ n
    · go_enter Try.func43, Try.ntmps43
      go_wp2_with (fail)
      go_ret
      exact ⟨rfl, rfl⟩
    · have h2 : (((l.length : Nat) : Int) != 256) = true := by
        rw [bne_iff_ne]; intro h2; exact hb' ⟨by omega, by omega, by omega⟩
      have h1' : n < D.size := by omega
      clear hb'
      go_enter Try.func43, Try.ntmps43
      go_wp2_with (fail)
      go_ret
      exact ⟨rfl, rfl⟩

set_option maxHeartbeats 400000 in
theorem rwrite_burnt {b : Nat} {w : World} {D : Dk} {F : List Nat} (h : RefAt w b D F) (hd : D.down = false) {n : Int} {v : Value} {l : Bytes} (hv : BytesV w v l) (ho : D.okArg n l = true) (hf : D.burns = false) :
    Calls Try.prog 43 #[.pointer (some ⟨b, 0, none⟩), .int .i64 n, v] w (Returns (.int .i64 7) (Turned w (rdisk b D.burnt) F)) := by
  obtain ⟨a, cap, rfl, _, hm⟩ := hv.shape
  obtain ⟨h0, h1, h2⟩ := Dk.okArg_iff ho
  have h2' : (((l.length : Nat) : Int) != 256) = false := by simp [h2]
  obtain ⟨pa, pc, hc0, -, -, -, hc, -⟩ := h.fields
  clear h2 ho
  have hnot : ∀ (x : Bool) (w : World), (Op.unary .not (.bool x)).run Try.prog w = .ok (.bool (!x)) w := fun _ _ => rfl
  go_enter Try.func43, Try.ntmps43
  go_wp2_with (fail)
  refine (rburn_any h).mono ?_
  rintro e w1 ⟨rfl, hT⟩
  have HT := Lib.hid hT
  clear hT
  go_wp2_with (fail)
  go_ret
  exact ⟨rfl, HT.out⟩

set_option maxRecDepth 100000 in
set_option maxHeartbeats 1000000 in
theorem rwrite_ok {b : Nat} {w : World} {D : Dk} {F : List Nat} (h : RefAt w b D F) (hd : D.down = false) {n : Int} {v : Value} {l : Bytes} (hv : BytesV w v l) (hsep : ∀ g, v.ownBlock = some g → g ∉ F) (ho : D.okArg n l = true) (hf : D.burns = true)
    (hlen : D.all.length < Big) :
    Calls Try.prog 43 #[.pointer (some ⟨b, 0, none⟩), .int .i64 n, v] w (Returns (.int .i64 0) (Turned w (rdisk b (D.wrote n l)) F)) := by
  have hwf := Dk.wrote_wf h.1 ho
  have hbwf := Dk.burnt_wf h.1
  obtain ⟨h0, h1, h2⟩ := Dk.okArg_iff ho
  have hne : l ≠ [] := by rintro rfl; simp at h2
  rcases hv with ⟨_, h00⟩ | ⟨g, off, cap, rfl, hlc, hcm, hcell⟩
  · exact absurd h00 hne
  have hv : BytesV w (.slice (some ⟨g, off, none⟩) l.length cap) l := .inr ⟨g, off, cap, rfl, hlc, hcm, hcell⟩
  have h2' : (((l.length : Nat) : Int) != 256) = false := by simp [h2]
  obtain ⟨pa, pc, hc0, -, -, -, hc, -⟩ := h.fields
  have H2 := Lib.hid h2
  have HL := Lib.hid hlen
  clear h2 ho hlen hcell
  have hnot : ∀ (x : Bool) (w : World), (Op.unary .not (.bool x)).run Try.prog w = .ok (.bool (!x)) w := fun _ _ => rfl
  go_enter Try.func43, Try.ntmps43
  go_wp2_with (fail)
  refine (rburn_any h).mono ?_
  rintro e w1 ⟨rfl, F1, hD1, hU1, hF1⟩
  have hD1 : RefAt w1 b D.burnt F1 := hD1
  clear hc0 hc hd
  obtain ⟨-, -, -, -, -, -, -, -, hc6, -⟩ := hD1.fields
  have hz6 := hD1.free 6
  have hT2 : Turned w1 (rdisk b D.act1) F1 ((w1.setCell ⟨b, 6, none⟩ (.int .i64 (wrap64 (D.burnt.a1 + 1)))).drew) := by
    obtain ⟨F', g1, g2, g3⟩ := hD1.field 6 (.int .i64 (wrap64 (D.burnt.a1 + 1))) (D' := D.act1) ⟨hbwf.s0, hbwf.s1, hbwf.f0, hbwf.f1, hbwf.la, hbwf.wr⟩ rfl (fun _ => by simp [rcells, Dk.act1, D.burnt_a1])
    exact ⟨F', (rdisk b D.act1).upd _ _ _ [] g1 (Upd.refl [] _).drew (by simp), g2.drew, g3⟩
  generalize hw2 : (w1.setCell ⟨b, 6, none⟩ (.int .i64 (wrap64 (D.burnt.a1 + 1)))).drew = w2 at hT2
  obtain ⟨F2, hD2, hU2, hF2⟩ := hT2
  have hU12 : Upd F w w2 := hU1.trans hU2 hF1
  have hF12 : ∀ k ∈ F2, k ∈ F ∨ w.heap.size ≤ k := by
    intro k hk
    rcases hF2 k hk with h | h
    · exact hF1 k h
    · exact .inr (Nat.le_trans hU1.size h)
  have hv2 : BytesV w2 (.slice (some ⟨g, off, none⟩) l.length cap) l := hv.upd hU12 fun g hg _ => hsep g hg
  have hnews : ∀ (j : Nat) (u : Value), (l.map byte)[j]? = some u → w2.cell? ((⟨g, off, none⟩ : Addr).add j) = some u := by
    intro j u hu
    simp only [List.getElem?_map, Option.map_eq_some_iff] at hu
    obtain ⟨x, hx, rfl⟩ := hu
    rw [Addr.add_lit]
    rcases hv2 with ⟨_, h00⟩ | ⟨g', off', cap', he, _, _, hc'⟩
    · exact absurd h00 hne
    · cases he; exact hc' j x hx
  have hbl : l.length ≤ maxLen ∧ l.length * 1 ≤ 140737488355328 := by rw [H2.out]; unfold maxLen; omega
  have hb256 : 0 + l.length ≤ maxLen ∧ (0 + l.length) * 1 ≤ 140737488355328 := by rw [H2.out]; unfold maxLen; omega
  have HN := Lib.hid hnews
  have HB := Lib.hid hb256
  have HW2 := Lib.hid hw2
  have HNE := Lib.hid hne
  clear hnews hb256 hbl hw2 hne hv hv2 hU2 hF2 hD1
  go_wp2_with (fail)
  go_region
  rw [HW2.out]
  clear hc6 hz6
  go_wp2_with (at_builtin; go_must (refine wpList_append_here _ rfl _ _ 33 rfl 5 Try.underlying33 Try.info5 rfl (by decide) _ _ _ rfl (World.ownsRow_nil _ _ _ _) ⟨g, off, none⟩ l.length cap (l.map byte) rfl (by simp) HN.out (oneCell_byte l) HB.out.1 HB.out.2 ?_))
  intro v3 w3 ho3 hg3 hm3
  have hb3 : BytesO w3 v3 l := by
    have := ho3
    (try simp only [Nat.zero_add, List.nil_append] at this)
    exact this
  have hU23 : Upd [] w2 w3 := (Upd.refl [] w2).grown hg3 (by intro k hk; cases hk) (by intro k hk; cases hk)
  have hone3 := hb3.oneCell
  obtain ⟨a3, cap3, hv3, _, _⟩ := hb3.view.shape
  have hD3 : RefAt w3 b D.act1 F2 := (rdisk b D.act1).upd w2 w3 F2 [] hD2 hU23 (by simp)
  have hU13 : Upd F w w3 := hU12.trans hU23 (by simp)
  clear hU23 hU12 hD2 ho3 hg3 hm3
  obtain ⟨_, pv, ps, g1, g6, g7, g8, hF⟩ := hD3
  have hown4 : (w3.alloc (.cells #[.int .i64 n, v3] 136)).ownsRow 0 136 2 pv ps.length (pcells ps) := g6.alloc _
  have hl : ps.length = D.all.length := by
    have := congrArg List.length g8
    simpa [Dk.act1, D.burnt_all] using this
  have hend : ∀ v' w5, w5.ownsRow 0 136 2 v' (ps.length + 1) (pcells ps ++ [.int .i64 n, v3]) → (w3.alloc (.cells #[.int .i64 n, v3] 136)).grownBy w5 pv.ownBlock → Moved (w3.alloc (.cells #[.int .i64 n, v3] 136)) pv v' →
      Turned w (rdisk b (D.wrote n l)) F (w5.setCell ⟨b, 1, none⟩ v') ∧ w5.cell? ⟨b, 1, none⟩ = some pv ∧ w5.frozen? ⟨b, 1, none⟩ = false := by
    intro v' w5 ho hg hmv
    obtain ⟨q1, q2⟩ := RefAt.wrote_end (D2 := D.act1) (D' := D.wrote n l) hwf (by simp [Dk.wrote, Dk.act1, D.burnt_all]) (fun _ => rfl) hb3 g1 g6 g7 g8 hF ho hg hmv
    exact ⟨.trans hU13 hF12 q1, q2⟩
  have hc1 : w3.cell? ⟨b, 1, none⟩ = some pv := cell_of_heap g1 rfl
  have hnews4 : ∀ (j : Nat) (u : Value), [Value.int .i64 n, v3][j]? = some u → (w3.alloc (.cells #[.int .i64 n, v3] 136)).cell? ((⟨w3.heap.size, 0, none⟩ : Addr).add j) = some u := by
    intro j u hu
    rw [Addr.add_lit, World.cell?_alloc_new]
    simpa using hu
  have hlt : b < w3.heap.size := lt_of_heap g1
  have hpvs := ownsRow_shape g6
  clear g1 g6 g7 g8 hF hU13 hF12 hb3 hwf hbwf
  have HE := Lib.hid hend
  have HN4 := Lib.hid hnews4
  have hone : ∀ u ∈ [Value.int .i64 n, v3], u.oneCell' = true := by
    intro u hu
    simp only [List.mem_cons, List.not_mem_nil, or_false] at hu
    rcases hu with rfl | rfl
    · rfl
    · exact hone3
  have hbd : ps.length + 1 ≤ maxLen ∧ (ps.length + 1) * 32 ≤ 140737488355328 := by
    have := HL.out; unfold Big at this; unfold maxLen; omega
  have HO := Lib.hid hone
  have HB4 := Lib.hid hbd
  have HPL := Lib.hid hl
  clear hend hnews4 hone3 hone hbd hl
  subst hv3
  obtain ⟨pa3, pc3, hpv3, _, _⟩ := hpvs
  subst hpv3
  clear hF1 hU1 HW2 HN HB
  go_wp2_with (at_builtin; go_must (refine wpList_append_here _ rfl _ _ 50 rfl 136 Try.underlying50 Try.info136 rfl (by decide) _ _ _ rfl hown4 ⟨w3.heap.size, 0, none⟩ 1 1 [.int .i64 n, .slice a3 l.length cap3] rfl rfl HN4.out HO.out HB4.out.1 HB4.out.2 ?_))
  intro v' w5 ho5 hg5 hm5
  obtain ⟨hT, hc5, hz5⟩ := HE.out v' w5 ho5 hg5 hm5
  obtain ⟨a', cap', hv', _, _⟩ := ownsRow_shape ho5
  subst hv'
  have HT := Lib.hid hT
  clear hT ho5 hg5 hm5
  go_wp2_with (fail)
  go_ret
  exact ⟨rfl, HT.out⟩

end Go.Proofs.Ytkpoladbabhdmaa
