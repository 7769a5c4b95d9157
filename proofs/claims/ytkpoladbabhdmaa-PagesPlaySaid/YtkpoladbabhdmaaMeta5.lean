/- Open of the program's meta. Conditions: as each says. -/
import Derived.Test.YtkpoladbabhdmaaMeta4
import Derived.Test.YtkpoladbabhdmaaDiskLasts
namespace Go.Proofs.Ytkpoladbabhdmaa
open Go.RowKit

/-- the head that a disk bears, and the answer -/
def Dk.openE (D : Dk) : Int := if D.size < 2 then 1 else if D.down then 7 else 0
def Dk.openH (D : Dk) : Int × Bytes :=
  if D.size < 2 then (0, []) else if D.down then (0, []) else
    if (headOf (D.sec 0)).1 < (headOf (D.sec 1)).1 then headOf (D.sec 1) else headOf (D.sec 0)
def Dk.opened (D : Dk) : Dk := if D.size < 2 then D else (D.read 0).read 1

def OpensTo (h : Int × Bytes) (en : Int) (w0 : World) (l : List Thing) (w : World) (e : Ending) (w' : World) : Prop :=
  ∃ v, e = .returned (.tuple #[v, .int .i64 en]) ∧ HeadV w' v h ∧ Owns w0 l w' ∧ Keeps w w'

theorem HeadV.zero (w : World) : HeadV w (.agg #[.int .u64 0, .slice none 0 0]) (0, []) := ⟨_, rfl, .inl ⟨.nil, rfl⟩, by intro g hg; cases hg⟩

theorem InBytes.keep {w w' : World} {v : Value} (h : InBytes w v) (hk : Keeps w w') : InBytes w' v := fun g hg => by
  obtain ⟨c, fz, hc⟩ := h g hg
  exact ⟨c, fz, (hk g c fz hc).trans hc⟩
theorem BytesV.keep {w w' : World} {v : Value} {l : Bytes} (h : BytesV w v l) (hi : InBytes w v) (hk : Keeps w w') : BytesV w' v l :=
  h.same fun g hg _ => by obtain ⟨c, fz, hc⟩ := hi g hg; exact hk g c fz hc
theorem HeadV.keep {w w' : World} {v : Value} {h : Int × Bytes} (hv : HeadV w v h) (hk : Keeps w w') : HeadV w' v h := by
  obtain ⟨x, rfl, h1, h2⟩ := hv
  exact ⟨x, rfl, h1.keep h2 hk, h2.keep hk⟩

theorem Dk.read_down (D : Dk) (n : Int) : (D.read n).down = D.down := by unfold Dk.read; split; rfl; split <;> rfl
theorem Dk.read_size (D : Dk) (n : Int) : (D.read n).size = D.size := by unfold Dk.read; split; rfl; split <;> rfl
theorem Dk.read_all (D : Dk) (n : Int) : (D.read n).all = D.all := by unfold Dk.read; split; rfl; split <;> rfl

theorem own_row_fill {w0 wz : World} {l : List Thing} {x : Nat} {c : Array Value} (h : Owns w0 (row x c 60 (by decide) :: l) wz) (u v : Value) :
    Owns w0 l ((wz.setCell ⟨x, 0, none⟩ u).setCell ⟨x, 1, none⟩ v) ∧ Keeps wz ((wz.setCell ⟨x, 0, none⟩ u).setCell ⟨x, 1, none⟩ v) := by
  have hr := own_row h 0 rfl
  have h1 := own_row_set h 0 rfl 0 u
  have h2 := own_row_set h1 0 rfl 1 v
  have h2 : Owns w0 (row x ((c.setIfInBounds 0 u).setIfInBounds 1 v) 60 (by decide) :: l) ((wz.setCell ⟨x, 0, none⟩ u).setCell ⟨x, 1, none⟩ v) := h2
  refine ⟨h2.pick (fun i => i + 1) (by intro i T h; simpa using h) (by intro i j _ _ h; omega), ?_⟩
  refine Upd.keeps (S := [x]) (((Upd.refl [x] wz).setCell _ (.inl (by simp)) (.inr ?_)).setCell _ (.inl (by simp)) (.inr ?_)) <;> (intro c fz; rw [hr]; simp)

theorem Dk.read_sec (D : Dk) (n m : Int) : (D.read n).sec m = D.sec m := by unfold Dk.sec; rw [Dk.read_all]

set_option maxRecDepth 100000 in
set_option maxHeartbeats 4000000 in
theorem own_open {w0 w : World} {l : List Thing} {b : Nat} {D : Dk} (h : Owns w0 l w) (i : Nat) (hi : l[i]? = some (disk b D)) :
    Calls Try.prog 38 #[.pointer (some ⟨b, 0, none⟩)] w (OpensTo D.openH D.openE w0 (l.set i (disk b D.opened)) w) := by
  have hwf := own_wf h i hi
  have hR := own_row_new h #[.int .u64 0, .slice none 0 0] 60 (by decide)
  have hk1 : Keeps w (w.alloc (.cells #[.int .u64 0, .slice none 0 0] 60)) := ((Upd.refl [] w).alloc _).keeps
  have hi1 : (row w.heap.size #[.int .u64 0, .slice none 0 0] 60 (by decide) :: l)[i + 1]? = some (disk b D) := by simpa using hi
  have hil : i < l.length := (List.getElem?_eq_some_iff.1 hi).1
  by_cases hs : D.size < 2
  · have hfin : OpensTo D.openH D.openE w0 (l.set i (disk b D.opened)) w (.returned (.tuple #[.agg #[.int .u64 0, .slice none 0 0], .int .i64 1])) (w.alloc (.cells #[.int .u64 0, .slice none 0 0] 60)) := by
      refine ⟨.agg #[.int .u64 0, .slice none 0 0], by simp [Dk.openE, hs], by simp only [Dk.openH, hs, if_true]; exact HeadV.zero _, ?_, hk1⟩
      have e : l.set i (disk b D.opened) = l := by
        simp only [Dk.opened, hs, if_true]
        exact List.ext_getElem? fun j => by
          rw [List.getElem?_set]; split
          · rename_i hij; subst hij; exact hi.symm
          · rfl
      rw [e]; exact hR.pick (fun i => i + 1) (by intro i T h; simpa using h) (by intro i j _ _ h; omega)
    have HF := Lib.hid hfin
    have HR := Lib.hid hR
    clear hfin hR h hwf
    go_enter Try.func38, Try.ntmps38
    go_wp2_with (fail)
    refine (own_size HR.out (i + 1) hi1).mono ?_
    rintro e w' ⟨rfl, rfl⟩
    go_wp2_with (fail)
    refine bodyPost_ret (v := .tuple #[.agg #[.int .u64 0, .slice none 0 0], .int .i64 1]) (by simp [results, Try.results38, go_sem]) rfl HF.out
  · have HR := Lib.hid hR
    have HI1 := Lib.hid hi1
    have HK1 := Lib.hid hk1
    have HWF := Lib.hid hwf
    have hrow1 := heap_alloc_new' w (.cells #[.int .u64 0, .slice none 0 0] 60)
    have HRW := Lib.hid hrow1
    clear hR hi1 hk1 hwf h hrow1
    go_enter Try.func38, Try.ntmps38
    go_wp2_with (fail)
    generalize w.alloc (.cells #[.int .u64 0, .slice none 0 0] 60) = w1 at HR HK1 HRW ⊢
    have hlt1 := lt_of_heap HRW.out
    refine (own_size HR.out (i + 1) HI1.out).mono ?_
    rintro e w' ⟨rfl, rfl⟩
    go_wp2_with (fail)
    refine (own_read HR.out (i + 1) HI1.out 0).mono ?_
    rintro e w2 ⟨v2, rfl, hb2, hO2, hk2, -⟩
    have hi2 : ((row w.heap.size #[.int .u64 0, .slice none 0 0] 60 (by decide) :: l).set (i + 1) (disk b (D.read 0)))[i + 1]? = some (disk b (D.read 0)) := by
      rw [List.getElem?_set, if_pos rfl, if_pos (by simpa using hil)]
    obtain ⟨a2, c2, hv2, _, _⟩ := hb2.view.shape
    have HO2 := Lib.hid hO2
    have HI2 := Lib.hid hi2
    have HB2 := Lib.hid hb2
    have HK2 := Lib.hid hk2
    subst hv2
    clear hO2 hi2 hb2 hk2
    go_wp2_with (fail)
    refine (own_read HO2.out (i + 1) HI2.out 1).mono ?_
    rintro e w3 ⟨v3, rfl, hb3, hO3, hk3, -⟩
    rw [List.set_set] at hO3
    have hO3 : Owns w0 (row w.heap.size #[.int .u64 0, .slice none 0 0] 60 (by decide) :: l.set i (disk b ((D.read 0).read 1))) w3 := hO3
    obtain ⟨a3, c3, hv3, _, _⟩ := hb3.view.shape
    have hx3 := own_row hO3 0 rfl
    have hlt3 := lt_of_heap hx3
    have hb23 := HB2.out.keep hk3
    have hk13 := HK1.out.trans (HK2.out.trans hk3)
    have hs' : ¬ D.size < 2 := by omega
    have hop : D.opened = (D.read 0).read 1 := by simp only [Dk.opened, if_neg hs']
    subst hv3
    by_cases hd : D.down = true
    · have e2 : D.readE 0 = 7 := by simp [Dk.readE, hd]
      have e3 : (D.read 0).readE 1 = 7 := by simp [Dk.readE, Dk.read_down, hd]
      have z0 : w3.frozen? ⟨w.heap.size, 0, none⟩ = false := free_of_heap hx3
      have z1 : w3.frozen? ⟨w.heap.size, 1, none⟩ = false := free_of_heap hx3
      have x0 : w3.cell? ⟨w.heap.size, 0, none⟩ = some (.int .u64 0) := cell_of_heap hx3 rfl
      have x1 : w3.cell? ⟨w.heap.size, 1, none⟩ = some (.slice none 0 0) := cell_of_heap hx3 rfl
      obtain ⟨f1, f2⟩ := own_row_fill hO3 (.int .u64 0) (.slice none 0 0)
      have hfin : OpensTo D.openH D.openE w0 (l.set i (disk b D.opened)) w (.returned (.tuple #[.agg #[.int .u64 0, .slice none 0 0], .int .i64 7])) ((w3.setCell ⟨w.heap.size, 0, none⟩ (.int .u64 0)).setCell ⟨w.heap.size, 1, none⟩ (.slice none 0 0)) := by
        refine ⟨.agg #[.int .u64 0, .slice none 0 0], by simp only [Dk.openE, if_neg hs', hd, if_true], by simp only [Dk.openH, if_neg hs', hd, if_true]; exact HeadV.zero _, by rw [hop]; exact f1, hk13.trans f2⟩
      have HF := Lib.hid hfin
      rw [e3]
      clear hfin f1 f2 hop hk13 hb23 hb3 hk3 hO3 hx3 e3
      go_wp2_with (fail)
      refine bodyPost_ret (v := .tuple #[.agg #[.int .u64 0, .slice none 0 0], .int .i64 7]) (by simp [results, Try.results38, go_sem, x0, x1]) rfl HF.out
    · have hd' : D.down = false := by simpa using hd
      have e2 : D.readE 0 = 0 := by simp [Dk.readE, hd']; omega
      have e3 : (D.read 0).readE 1 = 0 := by simp [Dk.readE, Dk.read_down, Dk.read_size, hd']; omega
      have r2 : D.readB 0 = D.sec 0 := by simp [Dk.readB, hd']; omega
      have r3 : (D.read 0).readB 1 = D.sec 1 := by simp [Dk.readB, Dk.read_down, Dk.read_size, Dk.read_sec, hd']; omega
      rw [r2] at hb23
      rw [r3] at hb3
      have n2 := Dk.sec_len HWF.out 0
      have n3 := Dk.sec_len HWF.out 1
      have HB23 := Lib.hid hb23
      have HB3 := Lib.hid hb3
      have HO3 := Lib.hid hO3
      have HK13 := Lib.hid hk13
      have HOP := Lib.hid hop
      have HSN := Lib.hid hs'
      have HN2 := Lib.hid n2
      have HN3 := Lib.hid n3
      rw [e3, r2, r3, n2, n3]
      clear hb23 hb3 hO3 hk13 hop hs' n2 n3 r2 r3 e3 hk3 hx3
      go_wp2_with (fail)
      rcases hh0 : headOf (D.sec 0) with ⟨G0, p0⟩
      rcases hh1 : headOf (D.sec 1) with ⟨G1, p1⟩
      have HH0 := Lib.hid hh0
      have HH1 := Lib.hid hh1
      have hrd2 := read8_any HB23.out HN2.out
      rw [HN2.out, hh0] at hrd2
      clear hh0 hh1
      refine hrd2.mono ?_
      rintro e w4 ⟨y4, rfl, ⟨x4, rfl, hv4, hi4⟩, hU4⟩
      obtain ⟨a4, c4, e4, _, _⟩ := hv4.shape
      subst e4
      have hb34 := HB3.out.upd hU4
      have hrd3 := read8_any hb34 HN3.out
      rw [HN3.out, HH1.out] at hrd3
      have HR3 := Lib.hid hrd3
      have HU4 := Lib.hid hU4
      have HV4 := Lib.hid hv4
      have HI4 := Lib.hid hi4
      clear hrd2 hrd3 hb34 hU4 hv4 hi4
      go_wp2_with (fail)
      refine HR3.out.mono ?_
      rintro e w5 ⟨y5, rfl, ⟨x5, rfl, hv5, hi5⟩, hU5⟩
      obtain ⟨a5, c5, e5, _, _⟩ := hv5.shape
      subst e5
      have hO5 := (HO3.out.upd HU4.out).upd hU5
      have hk35 := (HU4.out.trans hU5 (by simp)).keeps
      have hq4 : HeadV w5 (.agg #[.int .u64 G0, .slice a4 p0.length c4]) (G0, p0) := HeadV.keep ⟨_, rfl, HV4.out, HI4.out⟩ hU5.keeps
      have hq5 : HeadV w5 (.agg #[.int .u64 G1, .slice a5 p1.length c5]) (G1, p1) := ⟨_, rfl, hv5, hi5⟩
      have hx5 := own_row hO5 0 rfl
      have hlt5 := lt_of_heap hx5
      have z0 : w5.frozen? ⟨w.heap.size, 0, none⟩ = false := free_of_heap hx5
      have z1 : w5.frozen? ⟨w.heap.size, 1, none⟩ = false := free_of_heap hx5
      have x0 : w5.cell? ⟨w.heap.size, 0, none⟩ = some (.int .u64 0) := cell_of_heap hx5 rfl
      have x1 : w5.cell? ⟨w.heap.size, 1, none⟩ = some (.slice none 0 0) := cell_of_heap hx5 rfl
      have hfin : ∀ u v h, D.openH = h → HeadV w5 (.agg #[u, v]) h → OpensTo D.openH D.openE w0 (l.set i (disk b D.opened)) w (.returned (.tuple #[.agg #[u, v], .int .i64 0]))
          ((((w5.setCell ⟨w.heap.size, 0, none⟩ u).setCell ⟨w.heap.size, 1, none⟩ v).alloc (.cells #[.int .u64 G0, .slice a4 p0.length c4] 60)).alloc (.cells #[.int .u64 G1, .slice a5 p1.length c5] 60)) := by
        intro u v h he hh
        obtain ⟨f1, f2⟩ := own_row_fill hO5 u v
        have hu := ((Upd.refl [] ((w5.setCell ⟨w.heap.size, 0, none⟩ u).setCell ⟨w.heap.size, 1, none⟩ v)).alloc (.cells #[.int .u64 G0, .slice a4 p0.length c4] 60)).alloc (.cells #[.int .u64 G1, .slice a5 p1.length c5] 60)
        refine ⟨.agg #[u, v], by simp only [Dk.openE, if_neg (by have := HSN.out; omega : ¬ D.size < 2), hd', Bool.false_eq_true, if_false], ?_, by rw [HOP.out]; exact f1.upd hu, HK13.out.trans (hk35.trans (f2.trans hu.keeps))⟩
        rw [he]; exact hh.keep (f2.trans hu.keeps)
      have hcell : ∀ u v, ((((w5.setCell ⟨w.heap.size, 0, none⟩ u).setCell ⟨w.heap.size, 1, none⟩ v).alloc (.cells #[.int .u64 G0, .slice a4 p0.length c4] 60)).alloc (.cells #[.int .u64 G1, .slice a5 p1.length c5] 60)).cell? ⟨w.heap.size, 0, none⟩ = some u ∧
          ((((w5.setCell ⟨w.heap.size, 0, none⟩ u).setCell ⟨w.heap.size, 1, none⟩ v).alloc (.cells #[.int .u64 G0, .slice a4 p0.length c4] 60)).alloc (.cells #[.int .u64 G1, .slice a5 p1.length c5] 60)).cell? ⟨w.heap.size, 1, none⟩ = some v := by
        intro u v
        have e1 := heap_setCell_eq _ _ 1 v (heap_setCell_eq w5 w.heap.size 0 u hx5)
        have e2 : ((((w5.setCell ⟨w.heap.size, 0, none⟩ u).setCell ⟨w.heap.size, 1, none⟩ v).alloc (.cells #[.int .u64 G0, .slice a4 p0.length c4] 60)).alloc (.cells #[.int .u64 G1, .slice a5 p1.length c5] 60)).heap[w.heap.size]? = _ :=
          (heap_alloc_lt _ _ (by rw [size_alloc]; have := lt_of_heap e1; omega)).trans ((heap_alloc_lt _ _ (lt_of_heap e1)).trans e1)
        exact ⟨cell_of_heap e2 rfl, cell_of_heap e2 rfl⟩
      have HCL := Lib.hid hcell
      have HF := Lib.hid hfin
      have HQ4 := Lib.hid hq4
      have HQ5 := Lib.hid hq5
      clear hfin hcell hq4 hq5 hO5 hk35 hv5 hi5 hU5 hx5
      by_cases hlt : G0 < G1
      · have hh : D.openH = (G1, p1) := by
          simp only [Dk.openH, if_neg (by have := HSN.out; omega : ¬ D.size < 2), hd', Bool.false_eq_true, if_false, HH0.out, HH1.out, if_pos hlt]
        have HH := Lib.hid hh
        clear hh
        go_wp2_with (fail)
        refine bodyPost_ret (v := .tuple #[.agg #[.int .u64 G1, .slice a5 p1.length c5], .int .i64 0]) (by simp [results, Try.results38, go_sem, (HCL.out _ _).1, (HCL.out _ _).2]) rfl (HF.out _ _ _ HH.out HQ5.out)
      · have hh : D.openH = (G0, p0) := by
          simp only [Dk.openH, if_neg (by have := HSN.out; omega : ¬ D.size < 2), hd', Bool.false_eq_true, if_false, HH0.out, HH1.out, if_neg hlt]
        have HH := Lib.hid hh
        clear hh
        go_wp2_with (fail)
        refine bodyPost_ret (v := .tuple #[.agg #[.int .u64 G0, .slice a4 p0.length c4], .int .i64 0]) (by simp [results, Try.results38, go_sem, (HCL.out _ _).1, (HCL.out _ _).2]) rfl (HF.out _ _ _ HH.out HQ4.out)

end Go.Proofs.Ytkpoladbabhdmaa
