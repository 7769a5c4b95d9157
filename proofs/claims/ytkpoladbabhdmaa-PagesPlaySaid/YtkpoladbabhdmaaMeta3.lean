/- A head's sector. Conditions: as each says. -/
import Derived.Test.YtkpoladbabhdmaaMeta2
namespace Go.Proofs.Ytkpoladbabhdmaa
open Go.RowKit

/-- append of whatever bytes onto a row of our own -/
theorem run_append_bytes (w : World) {v x : Value} {l m : Bytes} (hb : BytesO w v l) (hne : l ≠ []) (hx : BytesV w x m) (ty : TypeId) (hn : l.length + m.length ≤ 1000) :
    ∃ v' w', (Builtin.append_ #[33, 33] ty #[v, x]).run Try.prog w = .ok v' w' ∧ BytesO w' v' (l ++ m) ∧ w.grownBy w' v.ownBlock ∧ Moved w v v' := by
  have hb' : w.ownsRow 0 5 1 v l.length (l.map byte) := hb
  rcases hx with ⟨⟨a, cap, rfl, hc⟩, rfl⟩ | ⟨g, off, cap, rfl, _, _, hc⟩
  · rcases hb.2 with ⟨_, h00⟩ | ⟨g, gc, cur, rfl, hbg, hg, hnc, hcm, hcs, htake⟩
    · exact absurd (List.eq_nil_of_length_eq_zero h00) hne
    refine ⟨.slice (some ⟨g, 0, none⟩) l.length gc, w, ?_, by simpa using hb, ⟨rfl, rfl, rfl, Nat.le_refl _, fun _ _ _ => rfl⟩, .inl rfl⟩
    obtain ⟨i, hi, hz, hsize, hby⟩ := info_parts Try.info5
    cases a with
    | none => simp [Builtin.append_, run_underlying Try.underlying33, sizeOf, typeInfo, hi, Builtin.lenOf, Builtin.firstCells, hnc, storeCells]
    | some a => simp [Builtin.append_, run_underlying Try.underlying33, sizeOf, typeInfo, hi, Builtin.lenOf, Builtin.firstCells, loadCells, loadCellsFrom, hnc, storeCells]
  · obtain ⟨v', w', hr, h2, h3, h4⟩ := run_append_here (P := Try.prog) w 33 ty 5 Try.underlying33 Try.info5 rfl (by decide) v l.length (l.map byte) hb' ⟨g, off, none⟩ m.length cap (m.map byte) (by simp)
      (fun j u hu => by
        simp only [List.getElem?_map, Option.map_eq_some_iff] at hu
        obtain ⟨y, hy, rfl⟩ := hu
        rw [Addr.add_lit]; exact hc j y hy) (oneCell_byte m) (by unfold maxLen; omega) (by omega)
    refine ⟨v', w', hr, ?_, h3, h4⟩
    show w'.ownsRow 0 5 1 v' (l ++ m).length ((l ++ m).map byte)
    rw [List.length_append, List.map_append]
    exact h2

/-- what a run of append leaves, as a step of the walk -/
theorem wpList_append_ran {P : Program} (w : World) {ops : Array Oper} {rest : List Oper} {o : Oper} {a : Act} {Q : Exit → Act → World → Prop} (hgd : o.guard = none) (s x : Operand) (t t' : TypeId)
    (ho : o.op = .call { callee := .builtin .append, args := #[s, x], argTypes := #[t, t'] }) {v vx : Value} (hs : a.eval s = v) (hx : a.eval x = vx) {v' : Value} {w' : World}
    (hr : (Builtin.append_ #[t, t'] o.type #[v, vx]).run P w = .ok v' w') (h : wpList P ops Q rest (a.put o.dst v') w') : wpList P ops Q (o :: rest) a w := by
  refine wpList_plain hgd fun K hK => ?_
  unfold Oper.wp execOp
  simp only [ho, resolve, invoke, builtin, Sem.run_bind, Sem.run_pure, Result.andThen_ok, List.map_toArray, List.map_cons, List.map_nil, hs, hx, hr]
  exact hK _ _ h

/-- a local slice of bytes that grows: our own, newer than w0 -/
def Grows (w0 w : World) (v : Value) (l : Bytes) : Prop := BytesO w v l ∧ Upd [] w0 w ∧ ∀ g, v.ownBlock = some g → w0.heap.size ≤ g

theorem Grows.ran {w0 w w' : World} {v v' : Value} {l m : Bytes} (h : Grows w0 w v l) (hb : BytesO w' v' m) (hg : w.grownBy w' v.ownBlock) (hm : Moved w v v') : Grows w0 w' v' m := by
  obtain ⟨_, hU, hN⟩ := h
  refine ⟨hb, hU.grown hg (fun q hq => .inr (hN q hq)) (fun q hq => .inl (hN q hq)), fun q hq => ?_⟩
  rcases hm with hm | ⟨r, hm, hr⟩
  · rw [hm] at hq; exact hN q hq
  · rw [hm] at hq; cases hq; have := hU.size; omega

theorem Grows.alloc {w0 w : World} {v : Value} {l : Bytes} (h : Grows w0 w v l) (o : Obj) : Grows w0 (w.alloc o) v l := ⟨h.1.upd ((Upd.refl [] w).alloc o), h.2.1.alloc o, h.2.2⟩

/-- one byte that is laid into a block of its own -/
theorem byte_new (w : World) (x : UInt8) : BytesV (w.alloc (.cells #[byte x] 5)) (.slice (some ⟨w.heap.size, 0, none⟩) 1 1) [x] :=
  .inr ⟨w.heap.size, 0, 1, rfl, Nat.le_refl _, by unfold maxLen; omega, fun i b hi => by
    cases i with
    | zero => simp at hi; subst hi; exact cell_of_heap (heap_alloc_new' _ _) rfl
    | succ i => simp at hi⟩

/-- the sector of a head -/
def headSec (G : Int) (p : Bytes) : Bytes := be64 G ++ [u8 p.length] ++ p ++ List.replicate (256 - (9 + p.length)) 0
theorem be64_len (G : Int) : (be64 G).length = 8 := beUp_len G 8
theorem headSec_len (G : Int) (p : Bytes) (h : p.length ≤ 200) : (headSec G p).length = 256 := by
  simp [headSec, be64_len]; omega

set_option maxRecDepth 100000 in
set_option maxHeartbeats 1000000 in
theorem sector8_any {w : World} {v : Value} {p : Bytes} {G : Int} (hv : BytesV w v p) (hl : p.length ≤ 200) :
    Calls Try.prog 81 #[.agg #[.int .u64 G, v]] w (MadeBytes (headSec G p) w) := by
  obtain ⟨pa, pc, rfl, _, _⟩ := hv.shape
  have hrow := heap_alloc_new' w (.cells #[.int .u64 G, .slice pa p.length pc] 60)
  have hv1 := hv.upd ((Upd.refl [] w).alloc (.cells #[.int .u64 G, .slice pa p.length pc] 60)) (by simp)
  have hU1 : Upd [] w (w.alloc (.cells #[.int .u64 G, .slice pa p.length pc] 60)) := (Upd.refl [] w).alloc _
  have HR := Lib.hid hrow
  have HV := Lib.hid hv1
  have HU := Lib.hid hU1
  have hbl := hl
  clear hrow hv1 hv hU1
  go_enter Try.func81, Try.ntmps81
  go_wp2_with (fail)
  generalize hw1 : w.alloc (.cells #[.int .u64 G, .slice pa p.length pc] 60) = w1 at HR HV HU ⊢
  have hx1 : w.heap.size < w1.heap.size := lt_of_heap HR.out
  refine (append64_any (w0 := w1) (l := []) (x := G) (Upd.refl [] w1) (.nil _) (by intro g hg; cases hg) (by simp)).mono ?_
  rintro e w2 ⟨v2, rfl, hb2, hU2, hN2⟩
  rw [List.nil_append] at hb2
  have hg2 : Grows w1 w2 v2 (be64 G) := ⟨hb2, hU2, hN2⟩
  have hcell : ∀ w' v' l, Grows w1 w' v' l → w'.cell? ⟨w.heap.size, 1, none⟩ = some (.slice pa p.length pc) ∧ w.heap.size < w'.heap.size := by
    intro w' v' l h
    have e := h.2.1.block w.heap.size hx1 (by simp)
    rw [HR.out] at e
    exact ⟨cell_of_heap e rfl, lt_of_heap e⟩
  have HC := Lib.hid hcell
  obtain ⟨a2, c2, hv2, _, _⟩ := hb2.view.shape
  rw [be64_len] at hv2
  subst hv2
  obtain ⟨k2, l2⟩ := hcell _ _ _ hg2
  -- the length
  have hbyte : byte (u8 (p.length : Int)) = .int .u8 (p.length : Int) := by rw [byte_u8]; congr 1; omega
  have hgA := hg2.alloc (.cells #[byte (u8 (p.length : Int))] 5)
  obtain ⟨v3, w3, r3, b3, g3, m3⟩ := run_append_bytes (w2.alloc (.cells #[byte (u8 (p.length : Int))] 5)) hgA.1 (by intro h; have := congrArg List.length h; rw [be64_len] at this; simp at this) (byte_new w2 (u8 (p.length : Int))) 33 (by rw [be64_len]; simp)
  have hg3 := hgA.ran b3 g3 m3
  rw [hbyte] at r3
  obtain ⟨k3, l3⟩ := HC.out _ _ _ hg3
  -- the payload
  have hv3 : BytesV w3 (.slice pa p.length pc) p := HV.out.upd hg3.2.1 (by simp)
  obtain ⟨v4, w4, r4, b4, g4, m4⟩ := run_append_bytes w3 hg3.1 (by simp) hv3 33 (by simp [be64_len]; omega)
  have hg4 := hg3.ran b4 g4 m4
  -- zeros
  obtain ⟨z, hz⟩ : ∃ z : Nat, z = 256 - (9 + p.length) := ⟨_, rfl⟩
  obtain ⟨v5, w5, r5, b5, g5, m5⟩ := run_append_zeros w4 hg4.1 (by simp) 33 z (by omega) (by simp [be64_len]; omega)
  have hg5 := hg4.ran b5 g5 m5
  have hfin : MadeBytes (headSec G p) w (.returned v5) w5 := by
    refine ⟨v5, rfl, ?_, HU.out.trans hg5.2.1 (by simp), fun g hg => Nat.le_trans HU.out.size (hg5.2.2 g hg)⟩
    have := hg5.1
    rw [hz] at this
    exact this
  obtain ⟨a3, c3, e3, _, _⟩ := hg3.1.view.shape
  obtain ⟨a4, c4, e4, _, _⟩ := hg4.1.view.shape
  obtain ⟨a5, c5, e5, _, _⟩ := hg5.1.view.shape
  have hn4 : ((be64 G ++ [u8 (p.length : Int)]) ++ p).length = 9 + p.length := by simp [be64_len]; omega
  generalize ((be64 G ++ [u8 (p.length : Int)]) ++ p).length = n4 at e4 hn4
  generalize (be64 G ++ [u8 (p.length : Int)]).length = n3 at e3
  generalize ((be64 G ++ [u8 (p.length : Int)]) ++ p ++ List.replicate z 0).length = n5 at e5
  subst e3
  subst e4
  subst e5
  have hz4 : 256 - (n4 : Int) = (z : Int) := by omega
  have hn4b : n4 ≤ 209 := by omega
  have R3 := Lib.hid r3
  have R4 := Lib.hid r4
  have R5 := Lib.hid r5
  have HF := Lib.hid hfin
  clear hcell hb2 hU2 hN2 hg2 hgA b3 g3 m3 hg3 b4 g4 m4 hg4 b5 g5 m5 hg5 hfin r3 r4 r5 hv3 hn4 hbyte hz
  go_wp2_with (at_builtin; first | refine wpList_append_ran _ rfl _ _ 33 33 rfl rfl rfl R3.out ?_ | refine wpList_append_ran _ rfl _ _ 33 33 rfl rfl rfl R4.out ?_ | refine wpList_append_ran _ rfl _ _ 33 3 rfl rfl rfl R5.out ?_)
  go_ret
  exact HF.out

end Go.Proofs.Ytkpoladbabhdmaa
