/- The pages' put. Conditions: as it says. -/
import Derived.Test.YtkpoladbabhdmaaPg4
import Derived.Deep.QuietTactic
import Derived.BigQuiet
import Derived.Deep.RegionLaw
namespace Go.Proofs.Ytkpoladbabhdmaa
open Go.RowKit
open Go.ChangeMaps (setBlock)

section
variable {w0 w : World} {l : List Thing} {C : PC} {S : PS} {us : Value}

theorem own_maplen (h : Owns w0 (pth C S us l) w) (hn : FNodup S.fs) (ty : TypeId) : (Builtin.len_ #[150] ty #[.map (some C.mb)]).run Try.prog w = .ok (.int .i64 (S.fs.length : Int)) w := by
  obtain ⟨es, c, h1, h2⟩ := own_map h 2 rfl
  rw [← h2.fsize hn]
  simp [Builtin.len_, run_underlying Try.underlying150, getObj, Sem.run, h1, Result.andThen, goInt]

/-- the new frame is in the map, not yet in front -/
def pmid (C : PC) (S : PS) (us : Value) (f : Fr) (l : List Thing) : List Thing :=
  row C.p (pgcells C S us) 152 (by decide) :: row C.isb (S.is.map gint).toArray 153 (by decide) :: mapT C.mb (f :: S.fs) :: intsT us (usedOf S.fs) :: disk C.d S.D :: (S.fs.map frameT ++ (frameT f :: l))

theorem pth_new (C : PC) (S : PS) (us : Value) (l : List Thing) (f : Fr) : (pth C S us (frameT f :: l))[5 + S.fs.length]? = some (frameT f) := by
  unfold pth
  rw [show 5 + S.fs.length = S.fs.length + 1 + 1 + 1 + 1 + 1 by omega]
  simp only [List.getElem?_cons_succ]
  rw [List.getElem?_append_right (by simp)]
  simp

/-- frames[f.n] = f -/
theorem put_map {f : Fr} (h : Owns w0 (pth C S us (frameT f :: l)) w) : w.cell? ⟨C.p, 4, none⟩ = some (.map (some C.mb)) ∧ w.cell? ⟨f.blk, 0, none⟩ = some (.int .i64 (f.n : Int)) ∧ w.frozen? ⟨C.p, 5, none⟩ = false ∧ f.blk < w.heap.size ∧
    ∃ es c, (Instr.mapUpdate 150 (.map (some C.mb)) (.int .i64 (f.n : Int)) (.pointer (some ⟨f.blk, 0, none⟩))).run Try.prog w.drew = .ok () (setBlock w.drew C.mb (.map es c)) ∧ Owns w0 (pmid C S us f l) (setBlock w.drew C.mb (.map es c)) ∧ Keeps w (setBlock w.drew C.mb (.map es c)) := by
  obtain ⟨-, -, -, -, h4, -, -, -⟩ := own_pg h
  obtain ⟨g1, -, -⟩ := own_frame h _ (pth_new C S us l f)
  have hd := h.upd (Upd.refl [] w).drew
  obtain ⟨es, c, k1, k2⟩ := own_map hd 2 rfl
  obtain ⟨es', c', hrun, hok⟩ := run_store (P := Try.prog) Try.underlying150 Try.underlying3 k1 k2 (f.n : Int) (v := .pointer (some ⟨f.blk, 0, none⟩)) (l := f.blk) rfl
  rw [← fmap_cons] at hok
  obtain ⟨q1, q2⟩ := own_map_set hd 2 rfl hok
  exact ⟨h4, cell_of_heap g1 rfl, own_pgfree h 5, lt_of_heap g1, es', c', hrun, q1, ((Upd.refl [] w).drew).keeps.trans q2⟩

/-- .. and in front -/
theorem put_front {f : Fr} (h : Owns w0 (pmid C S us f l) w) (hl : S.fs.length ≤ 1000) : w.cell? ⟨C.p, 5, none⟩ = some us ∧ w.cell? ⟨f.blk, 0, none⟩ = some (.int .i64 (f.n : Int)) ∧ C.p < w.heap.size ∧ f.blk < w.heap.size ∧
    Calls Try.prog 116 #[us, .int .i64 0, .slice (some ⟨w.heap.size, 0, none⟩) 1 1] (w.drew.alloc (.cells #[.int .i64 (f.n : Int)] 3)) fun e w' =>
      ∃ a c, e = .returned (.slice a (S.fs.length + 1) c) ∧ Keeps w w' ∧ w'.frozen? ⟨C.p, 5, none⟩ = false ∧ C.p < w'.heap.size ∧ (w'.cell? ⟨C.p, 5, none⟩ = some us ∧ w'.cell? ⟨f.blk, 0, none⟩ = some (.int .i64 (f.n : Int))) ∧
        Owns w0 (pth C { S with fs := f :: S.fs } (.slice a (S.fs.length + 1) c) l) (w'.setCell ⟨C.p, 5, none⟩ (.slice a (S.fs.length + 1) c)) ∧ Keeps w (w'.setCell ⟨C.p, 5, none⟩ (.slice a (S.fs.length + 1) c)) := by
  have e0 := own_row h 0 rfl
  have hfi : (pmid C S us f l)[5 + S.fs.length]? = some (frameT f) := by
    unfold pmid
    rw [show 5 + S.fs.length = S.fs.length + 1 + 1 + 1 + 1 + 1 by omega]
    simp only [List.getElem?_cons_succ]
    rw [List.getElem?_append_right (by simp)]
    simp
  obtain ⟨g1, -, -⟩ := own_frame h _ hfi
  refine ⟨cell_of_heap e0 rfl, cell_of_heap g1 rfl, lt_of_heap e0, lt_of_heap g1, ?_⟩
  have hu : Upd [] w (w.drew.alloc (.cells #[.int .i64 (f.n : Int)] 3)) := ((Upd.refl [] w).drew).alloc _
  have ha := h.upd hu
  have hxs : us.ownBlock ≠ some w.heap.size := by
    intro he
    have := (World.ownsRow.lt (own_ints h 3 rfl) w.heap.size he).2
    omega
  have hins := own_insert0 (x := (f.n : Int)) (xb := w.heap.size) ha 3 rfl (by rw [usedOf_len]; exact hl) (heap_alloc_new' w.drew (.cells #[.int .i64 (f.n : Int)] 3)) hxs
  refine hins.mono ?_
  rintro e w' ⟨a, c, rfl, ho, hk⟩
  rw [usedOf_len] at ho ⊢
  have ho : Owns w0 (row C.p (pgcells C S us) 152 (by decide) :: row C.isb (S.is.map gint).toArray 153 (by decide) :: mapT C.mb (f :: S.fs) :: intsT (.slice a (S.fs.length + 1) c) ((f.n : Int) :: usedOf S.fs) :: disk C.d S.D :: (S.fs.map frameT ++ (frameT f :: l))) w' := ho
  have r0 := own_row ho 0 rfl
  have hfi' : (row C.p (pgcells C S us) 152 (by decide) :: row C.isb (S.is.map gint).toArray 153 (by decide) :: mapT C.mb (f :: S.fs) :: intsT (.slice a (S.fs.length + 1) c) ((f.n : Int) :: usedOf S.fs) :: disk C.d S.D :: (S.fs.map frameT ++ (frameT f :: l)))[5 + S.fs.length]? = some (frameT f) := by
    rw [show 5 + S.fs.length = S.fs.length + 1 + 1 + 1 + 1 + 1 by omega]
    simp only [List.getElem?_cons_succ]
    rw [List.getElem?_append_right (by simp)]
    simp
  have h2 := own_row_set ho 0 rfl 5 (.slice a (S.fs.length + 1) c)
  have hks : Keeps w' (w'.setCell ⟨C.p, 5, none⟩ (.slice a (S.fs.length + 1) c)) := ((Upd.refl [C.p] w').setCell (o := 5) _ (.inl (by simp)) (.inr (by intro c fz; rw [r0]; simp))).keeps
  have h3 : Owns w0 ([row C.p (pgcells C S (.slice a (S.fs.length + 1) c)) 152 (by decide), row C.isb (S.is.map gint).toArray 153 (by decide), mapT C.mb (f :: S.fs), intsT (.slice a (S.fs.length + 1) c) ((f.n : Int) :: usedOf S.fs), disk C.d S.D] ++ (S.fs.map frameT ++ (frameT f :: l))) (w'.setCell ⟨C.p, 5, none⟩ (.slice a (S.fs.length + 1) c)) := h2
  have h4 := h3.perm (List.perm_middle (a := frameT f) (l₁ := S.fs.map frameT) (l₂ := l))
  exact ⟨a, c, rfl, hu.keeps.trans hk, free_of_heap r0, lt_of_heap r0, ⟨cell_of_heap r0 rfl, cell_of_heap (own_frame ho _ hfi').1 rfl⟩, h4, hu.keeps.trans (hk.trans hks)⟩

/-- what a put leaves -/
def PutTo (C : PC) (S : PS) (f : Fr) (w0 : World) (l : List Thing) (w : World) (e : Ending) (w' : World) : Prop :=
  e = .returned (.bool (S.put C f).2) ∧ (∃ us', Owns w0 (pth C (S.put C f).1 us' l) w') ∧ Keeps w w'
end

theorem fmap_congr : ∀ {fs fs' : List Fr}, fs.map (fun f => (f.n, f.blk)) = fs'.map (fun f => (f.n, f.blk)) → fmap fs = fmap fs'
  | [], [], _ => rfl
  | [], _ :: _, h => by simp at h
  | _ :: _, [], h => by simp at h
  | f :: fs, g :: gs, h => by
    simp only [List.map_cons, List.cons.injEq, Prod.mk.injEq] at h
    rw [fmap_cons, fmap_cons, fmap_congr h.2, h.1.1, h.1.2]
theorem mapT_congr {b : Nat} {fs fs' : List Fr} (h : fmap fs = fmap fs') : mapT b fs = mapT b fs' := by unfold mapT; congr 1; rw [h]

theorem fset_same {fs : List Fr} {i : Nat} {g g' : Fr} (hi : fs[i]? = some g) (hn : g'.n = g.n) (hb : g'.blk = g.blk) : (fs.set i g').map (fun f => (f.n, f.blk)) = fs.map (fun f => (f.n, f.blk)) := by
  apply List.ext_getElem?
  intro j
  rw [List.getElem?_map, List.getElem?_map, List.getElem?_set]
  split
  · rename_i hij
    subst hij
    rw [hi]
    have := (List.getElem?_eq_some_iff.1 hi).1
    rw [if_pos this]
    simp [hn, hb]
  · rfl
theorem fset_n {fs : List Fr} {i : Nat} {g g' : Fr} (hi : fs[i]? = some g) (hn : g'.n = g.n) : (fs.set i g').map (·.n) = fs.map (·.n) := by
  apply List.ext_getElem?
  intro j
  rw [List.getElem?_map, List.getElem?_map, List.getElem?_set]
  split
  · rename_i hij
    subst hij
    rw [hi]
    have := (List.getElem?_eq_some_iff.1 hi).1
    rw [if_pos this]
    simp [hn]
  · rfl

/-- a frame that was turned, among the others -/
theorem pth_set {w0 w : World} {l : List Thing} {C : PC} {S : PS} {us : Value} {i : Nat} {g g' : Fr} (hi : S.fs[i]? = some g) (hn : g'.n = g.n) (hb : g'.blk = g.blk) (h : Owns w0 (ph C S us ((S.fs.map frameT ++ l).set i (frameT g'))) w) :
    Owns w0 (pth C { S with fs := S.fs.set i g' } us l) w := by
  have hl := (List.getElem?_eq_some_iff.1 hi).1
  have e1 : (S.fs.map frameT ++ l).set i (frameT g') = (S.fs.set i g').map frameT ++ l := by
    rw [List.set_append_left _ _ (by simpa using hl), List.map_set]
  have e2 : mapT C.mb (S.fs.set i g') = mapT C.mb S.fs := mapT_congr (fmap_congr (fset_same hi hn hb))
  have e3 : usedOf (S.fs.set i g') = usedOf S.fs := by
    have := fset_n hi hn
    have h4 : ∀ fs : List Fr, usedOf fs = (fs.map (·.n)).map fun n : Nat => (n : Int) := fun fs => by simp [usedOf]
    rw [h4, h4, this]
  rw [e1] at h
  unfold pth
  show Owns w0 (row C.p (pgcells C S us) 152 (by decide) :: row C.isb (S.is.map gint).toArray 153 (by decide) :: mapT C.mb (S.fs.set i g') :: intsT us (usedOf (S.fs.set i g')) :: disk C.d S.D :: ((S.fs.set i g').map frameT ++ l)) w
  rw [e2, e3]
  exact h

theorem erase_last : ∀ (fs : List Fr), fs.eraseIdx (fs.length - 1) = fs.dropLast
  | [] => rfl
  | [x] => rfl
  | x :: y :: fs => by
    have := erase_last (y :: fs)
    simp only [List.length_cons, Nat.add_sub_cancel] at this ⊢
    rw [List.eraseIdx_cons_succ, this]
    rfl
theorem erase_set (fs : List Fr) (i : Nat) (g : Fr) : (fs.set i g).eraseIdx i = fs.eraseIdx i := by
  induction fs generalizing i with
  | nil => rfl
  | cons x fs ih => cases i with
    | zero => rfl
    | succ i => simp [ih]

theorem fdrop_last {fs : List Fr} (hn : FNodup fs) (h : 0 < fs.length) : fdrop fs ((flast fs).n : Int) = fs.dropLast := by
  rw [(fdrop_at hn (flast_at h) rfl).1, erase_last]
theorem fdrop_last_set {fs : List Fr} (hn : FNodup fs) (h : 0 < fs.length) {g : Fr} (hg : g.n = (flast fs).n) : fdrop (fs.set (fs.length - 1) g) ((flast fs).n : Int) = fs.dropLast ∧ FNodup (fs.set (fs.length - 1) g) := by
  have hn' : FNodup (fs.set (fs.length - 1) g) := by unfold FNodup; rw [fset_n (flast_at h) hg]; exact hn
  refine ⟨?_, hn'⟩
  rw [(fdrop_at hn' (j := fs.length - 1) (f := g) (by rw [List.getElem?_set, if_pos rfl, if_pos (by omega)]) (by rw [hg])).1, erase_set, erase_last]

theorem fmap_at : ∀ {fs : List Fr} (_ : FNodup fs) {j : Nat} {g : Fr}, fs[j]? = some g → fmap fs (g.n : Int) = some g.blk
  | [], _, j, g, h => by simp at h
  | x :: fs, hn, j, g, h => by
    rw [fmap_cons]
    unfold put
    unfold FNodup at hn
    rw [List.map_cons, List.nodup_cons] at hn
    cases j with
    | zero => simp at h; subst h; rw [if_pos rfl]
    | succ j =>
      simp only [List.getElem?_cons_succ] at h
      rw [if_neg]
      · exact fmap_at hn.2 h
      · intro he
        exact hn.1 (List.mem_map.2 ⟨g, List.mem_of_getElem? h, by omega⟩)

theorem keeps_drewNq (w : World) (n : Nat) : Keeps w (w.drewN n) := fun _ _ _ _ => rfl

set_option maxRecDepth 100000 in
set_option maxHeartbeats 8000000 in
theorem own_pput {w0 w : World} {l : List Thing} {C : PC} {S : PS} {us : Value} {f : Fr} (h : Owns w0 (pth C S us (frameT f :: l)) w) (hw : PW C S) (hov : S.over = false) (hlen : S.D.all.length + 4 < Big) :
    Calls Try.prog 96 #[.pointer (some ⟨C.p, 0, none⟩), .pointer (some ⟨f.blk, 0, none⟩)] w (PutTo C S f w0 l w) := by
  obtain ⟨q1, -, -⟩ := own_frame h _ (pth_new C S us l f)
  have f0 : w.cell? ⟨f.blk, 0, none⟩ = some (.int .i64 (f.n : Int)) := cell_of_heap q1 rfl
  have flt := lt_of_heap q1
  have hdrop := own_pdrop h hw.nodup (Nat.le_trans hw.full hw.few) (f.n : Int)
  have hw1 := hw.drop (f.n : Int)
  obtain ⟨S1, hS1⟩ : ∃ S1, S1 = S.drop (f.n : Int) := ⟨_, rfl⟩
  have hres : S.put C f = if C.pool ≤ S1.fs.length then
      (if (flast S1.fs).dirty then
        (if (pwr (C.base (flast S1.fs).n) (flast S1.fs).b 4 0 S1.D).2 then ({ S1 with D := (pwr (C.base (flast S1.fs).n) (flast S1.fs).b 4 0 S1.D).1, fs := f :: S1.fs.dropLast }, true)
        else ({ S1 with D := (pwr (C.base (flast S1.fs).n) (flast S1.fs).b 4 0 S1.D).1, over := true }, false))
      else ({ S1 with fs := f :: S1.fs.dropLast }, true))
    else ({ S1 with fs := f :: S1.fs }, true) := by rw [hS1]; rfl
  have hov1 : S1.over = false := by rw [hS1]; exact hov
  have hlen1 : S1.D.all.length + 4 < Big := by rw [hS1]; exact hlen
  unfold Drops at hdrop
  rw [← hS1] at hdrop hw1
  have HDR := Lib.hid hdrop
  have HW1 := Lib.hid hw1
  have HRES := Lib.hid hres
  have HOV := Lib.hid hov1
  have HLN := Lib.hid hlen1
  have hpb := hw1.few
  have hpb1 := hw1.pool
  have hfl := hw1.full
  clear h hdrop hw1 hres hov1 hlen1 hw hov hlen q1 hS1
  go_enter Try.func96, Try.ntmps96
  go_wp2_with (fail)
  refine HDR.out.mono ?_
  rintro e w1 ⟨rfl, ⟨us1, hO1⟩, hk1⟩
  have hO1 := pth_skip hO1
  have hml : ∀ (n : Nat) (ty : TypeId), (Builtin.len_ #[150] ty #[.map (some C.mb)]).run Try.prog (w1.drewN n) = .ok (.int .i64 (S1.fs.length : Int)) (w1.drewN n) := fun n ty => own_maplen (hO1.upd (⟨rfl, rfl, rfl, Nat.le_refl _, fun _ _ _ => rfl, fun _ _ _ _ => rfl⟩ : Upd [] w1 (w1.drewN n))) HW1.out.nodup ty
  obtain ⟨-, -, c2, -, c4, -, -, plt⟩ := own_pg hO1
  have HO1 := Lib.hid hO1
  have HK1 := Lib.hid hk1
  clear hO1 hk1 HDR f0
  have hb1 : (S1.fs.length : Int) ≤ 1000 := by omega
  go_wp2_with (fail)
  go_quiet (fail)
  have hOq := HO1.out.upd (⟨rfl, rfl, rfl, Nat.le_refl _, fun _ _ _ => rfl, fun _ _ _ _ => rfl⟩ : Upd [] w1 (w1.drewN nq))
  have HOq := Lib.hid hOq
  have HKq := Lib.hid (HK1.out.trans (keeps_drewNq w1 nq))
  clear hOq hml c2 c4 HO1 HK1
  generalize w1.drewN nq = w2 at HOq HKq ⊢
  by_cases hfull : C.pool ≤ S1.fs.length
  · have hpos : 0 < S1.fs.length := by omega
    have hga := flast_at hpos
    have hdl := fdrop_last HW1.out.nodup hpos
    have hdls := fun (g' : Fr) (hg' : g'.n = (flast S1.fs).n) => fdrop_last_set HW1.out.nodup hpos hg'
    have hrs := HRES.out
    rw [if_pos hfull] at hrs
    generalize flast S1.fs = g at hga hdl hdls hrs
    have hgi : (pth C S1 us1 (frameT f :: l))[5 + (S1.fs.length - 1)]? = some (frameT g) := pth_frame hga
    have hgb := HW1.out.blen g (List.mem_of_getElem? hga)
    have hgn := HW1.out.inis g (List.mem_of_getElem? hga)
    have hfits := HW1.out.fits
    have hsz := HW1.out.size
    have hgl : (usedOf S1.fs)[S1.fs.length - 1]? = some (g.n : Int) := by unfold usedOf; rw [List.getElem?_map, hga]; rfl
    obtain ⟨-, -, -, -, p4, p5, -, plt2⟩ := own_pg HOq.out
    obtain ⟨es, c, k1, k2⟩ := own_map HOq.out 2 rfl
    have hfm := fmap_at HW1.out.nodup hga
    have hz : ∀ w, (zeroValue 156).run Try.prog w = .ok (.pointer none) w := fun w => by kernel_rfl
    have hlook : ∀ n : Nat, (Instr.lookup 150 (.map (some C.mb)) (.int .i64 (g.n : Int)) false).run Try.prog (w2.drewN n) = .ok (.pointer (some ⟨g.blk, 0, none⟩)) (w2.drewN n) := by
      intro n
      rcases run_look (P := Try.prog) (w := w2.drewN n) Try.underlying150 Try.underlying3 (hz _) k1 k2 (g.n : Int) false with ⟨h1, _⟩ | ⟨v, b, h1, h2, h3⟩
      · rw [hfm] at h1; cases h1
      · rw [hfm] at h1; cases h1
        unfold PtrV at h2
        subst h2
        simpa using h3
    rcases (own_ints HOq.out 3 rfl).block with ⟨_, h0⟩ | ⟨ug, uc, cur, hus, _, _, hum, _, _⟩
    · rw [h0] at hgl; simp at hgl
    rw [usedOf_len] at hus
    subst hus
    have hcu : w2.cell? ⟨ug, S1.fs.length - 1, none⟩ = some (.int .i64 (g.n : Int)) := (own_ints HOq.out 3 rfl).cell hgl
    have hi0 : (0 : Int) ≤ (S1.fs.length : Int) - 1 := by omega
    have hi1 : (S1.fs.length : Int) - 1 < (S1.fs.length : Int) := by omega
    have hi2 : ((S1.fs.length : Int) - 1).toNat = S1.fs.length - 1 := by omega
    have hi3 : IntKind.i64.wrap ((S1.fs.length : Int) - 1) = (S1.fs.length : Int) - 1 := by simp [IntKind.wrap, IntKind.signed, IntKind.bits]; omega
    have hin : (C.pool : Int) ≤ (S1.fs.length : Int) := by omega
    have HRS0 := Lib.hid hrs
    have HGA := Lib.hid hga
    have HGI := Lib.hid hgi
    have HDL := Lib.hid hdl
    have HDLS := Lib.hid hdls
    clear hrs hga hgi hdl hdls k1 k2 hfm hgl hum
    go_wp2_with (fail)
    go_quiet (fail)
    have hO3 := HOq.out.upd (⟨rfl, rfl, rfl, Nat.le_refl _, fun _ _ _ => rfl, fun _ _ _ _ => rfl⟩ : Upd [] w2 (w2.drewN nq))
    have HO3 := Lib.hid hO3
    have HK3 := Lib.hid (HKq.out.trans (keeps_drewNq w2 nq))
    clear hO3 p4 p5 plt2 hcu hlook HOq HKq hi0 hi1 hi2 hi3
    generalize w2.drewN nq = w3 at HO3 HK3 ⊢
    obtain ⟨g1, -, -⟩ := own_frame HO3.out _ HGI.out
    have gd : w3.cell? ⟨g.blk, 2, none⟩ = some (.bool g.dirty) := cell_of_heap g1 rfl
    have gn0 : w3.cell? ⟨g.blk, 0, none⟩ = some (.int .i64 (g.n : Int)) := cell_of_heap g1 rfl
    have glt := lt_of_heap g1
    clear g1
    cases hdy : g.dirty with
    | false =>
      rw [hdy] at gd
      have hrs := HRS0.out
      rw [hdy] at hrs
      simp only [Bool.false_eq_true, if_false] at hrs
      have hdrop := own_pdrop HO3.out HW1.out.nodup (by omega) (g.n : Int)
      unfold Drops PS.drop at hdrop
      rw [HDL.out] at hdrop
      have hl2 : S1.fs.dropLast.length ≤ 1000 := by rw [List.length_dropLast]; omega
      obtain ⟨S2, hS2⟩ : ∃ S2 : PS, S2 = { S1 with fs := S1.fs.dropLast } := ⟨_, rfl⟩
      have hrs2 : S.put C f = ({ S2 with fs := f :: S2.fs }, true) := by rw [hrs, hS2]
      rw [← hS2] at hdrop
      have hl2 : S2.fs.length ≤ 1000 := by rw [hS2]; exact hl2
      have HRS := Lib.hid hrs2
      have HDR := Lib.hid hdrop
      clear hrs hrs2 hdrop hS2
      go_wp2_with (fail)
      refine HDR.out.mono ?_
      rintro e w4 ⟨rfl, ⟨us2, hO4⟩, hk4⟩
      have HO4 := Lib.hid (pth_skip hO4)
      have HK4 := Lib.hid (HK3.out.trans hk4)
      clear hO4 hk4 gd gn0 HDR
      obtain ⟨b4, b0, bz, blt, es7, c7, hmu, hOm, hkm⟩ := put_map HO4.out
      obtain ⟨m5, m0, mlt, mflt, hins⟩ := put_front hOm hl2
      have m4 : (setBlock w4.drew C.mb (.map es7 c7)).cell? ⟨C.p, 4, none⟩ = some (.map (some C.mb)) := cell_of_heap (own_row hOm 0 rfl) rfl
      have HKM := Lib.hid (HK4.out.trans hkm)
      have HINS := Lib.hid hins
      clear hOm hkm hins
      go_wp2_with (fail)
      go_region_held3 (fun w' => w'.cell? ⟨C.p, 4, none⟩ = some (.map (some C.mb)) ∧ w'.cell? ⟨f.blk, 0, none⟩ = some (.int .i64 (f.n : Int))) (first | exact ⟨b4, b0⟩ | exact ⟨m4, m0⟩) (fail)
      clear hmu b4 b0 bz blt m4
      generalize setBlock w4.drew C.mb (.map es7 c7) = w7 at HINS HKM m5 m0 mlt mflt ⊢
      have ma : (w7.drew.alloc (.cells #[.int .i64 (f.n : Int)] 3)).cell? ⟨C.p, 5, none⟩ = some us2 ∧ (w7.drew.alloc (.cells #[.int .i64 (f.n : Int)] 3)).cell? ⟨f.blk, 0, none⟩ = some (.int .i64 (f.n : Int)) :=
        ⟨by rw [World.cell?_of_block (w := w7) (a := ⟨C.p, 5, none⟩) (heap_alloc_lt w7.drew _ mlt)]; exact m5, by rw [World.cell?_of_block (w := w7) (a := ⟨f.blk, 0, none⟩) (heap_alloc_lt w7.drew _ mflt)]; exact m0⟩
      go_wp2_with (fail)
      obtain ⟨ma5, ma0⟩ := ma
      go_region_law (first | (go_simp; go_at_call 116; refine HINS.out.mono ?_; rintro e w8 ⟨ia, ic, rfl, hk8, z8, lt8, c8, hO8, hk9⟩))
      all_goals
        have HF : Hid (PutTo C S f w0 l w (.returned (.bool true)) (w8.setCell ⟨C.p, 5, none⟩ (.slice ia (S2.fs.length + 1) ic))) := Lib.hid ⟨by rw [HRS.out], ⟨_, by rw [HRS.out]; exact hO8⟩, HKM.out.trans hk9⟩
        clear hO8 hk8 hk9 m5 m0 ma5 ma0
        go_wp2_with (fail)
        go_ret
        exact HF.out
    | true =>
      rw [hdy] at gd
      have hpw := own_pwrite (A := S1.fs.map frameT ++ (frameT f :: l)) HO3.out (S1.fs.length - 1) (by rw [List.getElem?_append_left (by simp; omega), List.getElem?_map, HGA.out]; rfl) hgb HOV.out (by omega) (by omega) HLN.out
      have hrs := HRS0.out
      rw [hdy] at hrs
      simp only [if_true] at hrs
      have hps := pwr_size (C.base g.n) g.b 4 0 S1.D
      obtain ⟨R, hR⟩ : ∃ R, R = pwr (C.base g.n) g.b 4 0 S1.D := ⟨_, rfl⟩
      rw [← hR] at hpw hrs
      unfold PWrote at hpw
      obtain ⟨D3, ok⟩ := R
      cases ok with
      | false =>
        simp only [Bool.false_eq_true, if_false] at hrs
        have HRS := Lib.hid hrs
        have HPW := Lib.hid hpw
        clear hrs hpw hps hR
        go_wp2_with (fail)
        refine HPW.out.mono ?_
        rintro e w4 ⟨rfl, hO4, hk4⟩
        have hO4' : Owns w0 (pth C { S1 with D := D3, over := true } (.slice (some ⟨ug, 0, none⟩) S1.fs.length uc) ([frameT f] ++ l)) w4 := by
          have e1 : ({ g with dirty := g.dirty && !false } : Fr) = g := by cases g; simp
          have e2 : (S1.over || !false) = true := by simp
          rw [e1, e2] at hO4
          have e3 : (S1.fs.map frameT ++ (frameT f :: l)).set (S1.fs.length - 1) (frameT g) = S1.fs.map frameT ++ (frameT f :: l) := by
            apply List.ext_getElem?
            intro j
            rw [List.getElem?_set]
            split
            · rename_i hij
              subst hij
              rw [if_pos (by simp; omega), List.getElem?_append_left (by simp; omega), List.getElem?_map, HGA.out]; rfl
            · rfl
          rw [e3] at hO4
          exact hO4
        have HF : Hid (PutTo C S f w0 l w (.returned (.bool false)) w4) := Lib.hid ⟨by rw [HRS.out], ⟨_, by rw [HRS.out]; exact pth_skip hO4'⟩, HK3.out.trans hk4⟩
        clear hO4 hO4' hk4 gd gn0 HPW
        go_wp2_with (fail)
        go_ret
        exact HF.out
      | true =>
        simp only [if_true] at hrs
        have HRS0' := Lib.hid hrs
        have HPW := Lib.hid hpw
        clear hrs hpw hps hR
        go_wp2_with (fail)
        refine HPW.out.mono ?_
        rintro e w4 ⟨rfl, hO4, hk4⟩
        have e2 : (S1.over || !true) = S1.over := by simp
        rw [e2] at hO4
        have hO5 := pth_set (S := { S1 with D := D3 }) (us := .slice (some ⟨ug, 0, none⟩) S1.fs.length uc) (g' := { g with dirty := g.dirty && !true }) HGA.out rfl rfl hO4
        have hgi5 : (pth C { S1 with D := D3, fs := S1.fs.set (S1.fs.length - 1) { g with dirty := g.dirty && !true } } (.slice (some ⟨ug, 0, none⟩) S1.fs.length uc) (frameT f :: l))[5 + (S1.fs.length - 1)]? = some (frameT { g with dirty := g.dirty && !true }) := pth_frame (by
          show (S1.fs.set (S1.fs.length - 1) _)[S1.fs.length - 1]? = _
          rw [List.getElem?_set, if_pos rfl, if_pos (by omega)])
        obtain ⟨g5, -, -⟩ := own_frame hO5 _ hgi5
        have gn5 : w4.cell? ⟨g.blk, 0, none⟩ = some (.int .i64 (g.n : Int)) := cell_of_heap g5 rfl
        have glt5 := lt_of_heap g5
        have hdrop := own_pdrop hO5 ((HDLS.out { g with dirty := g.dirty && !true } rfl).2) (by show (S1.fs.set _ _).length ≤ 1000; rw [List.length_set]; omega) (g.n : Int)
        unfold Drops PS.drop at hdrop
        rw [(HDLS.out { g with dirty := g.dirty && !true } rfl).1] at hdrop
        obtain ⟨S2, hS2⟩ : ∃ S2 : PS, S2 = { S1 with D := D3, fs := S1.fs.dropLast } := ⟨_, rfl⟩
        have hrs2 : S.put C f = ({ S2 with fs := f :: S2.fs }, true) := by rw [HRS0'.out, hS2]
        rw [← hS2] at hdrop
        have hl2 : S2.fs.length ≤ 1000 := by rw [hS2]; show S1.fs.dropLast.length ≤ 1000; rw [List.length_dropLast]; omega
        have HRS := Lib.hid hrs2
        have HDR := Lib.hid hdrop
        have HK4' := Lib.hid (HK3.out.trans hk4)
        clear hrs2 hdrop hS2 hO4 hO5 hgi5 g5 hk4 gd gn0
        go_wp2_with (fail)
        refine HDR.out.mono ?_
        rintro e w5 ⟨rfl, ⟨us2, hO6⟩, hk6⟩
        have HO4 := Lib.hid (pth_skip hO6)
        have HK4 := Lib.hid (HK4'.out.trans hk6)
        clear hO6 hk6 gn5 HDR
        obtain ⟨b4, b0, bz, blt, es7, c7, hmu, hOm, hkm⟩ := put_map HO4.out
        obtain ⟨m5, m0, mlt, mflt, hins⟩ := put_front hOm hl2
        have m4 : (setBlock w5.drew C.mb (.map es7 c7)).cell? ⟨C.p, 4, none⟩ = some (.map (some C.mb)) := cell_of_heap (own_row hOm 0 rfl) rfl
        have HKM := Lib.hid (HK4.out.trans hkm)
        have HINS := Lib.hid hins
        clear hOm hkm hins
        go_wp2_with (fail)
        go_region_held3 (fun w' => w'.cell? ⟨C.p, 4, none⟩ = some (.map (some C.mb)) ∧ w'.cell? ⟨f.blk, 0, none⟩ = some (.int .i64 (f.n : Int))) (first | exact ⟨b4, b0⟩ | exact ⟨m4, m0⟩) (fail)
        clear hmu b4 b0 bz blt m4
        generalize setBlock w5.drew C.mb (.map es7 c7) = w7 at HINS HKM m5 m0 mlt mflt ⊢
        have ma : (w7.drew.alloc (.cells #[.int .i64 (f.n : Int)] 3)).cell? ⟨C.p, 5, none⟩ = some us2 ∧ (w7.drew.alloc (.cells #[.int .i64 (f.n : Int)] 3)).cell? ⟨f.blk, 0, none⟩ = some (.int .i64 (f.n : Int)) :=
          ⟨by rw [World.cell?_of_block (w := w7) (a := ⟨C.p, 5, none⟩) (heap_alloc_lt w7.drew _ mlt)]; exact m5, by rw [World.cell?_of_block (w := w7) (a := ⟨f.blk, 0, none⟩) (heap_alloc_lt w7.drew _ mflt)]; exact m0⟩
        go_wp2_with (fail)
        obtain ⟨ma5, ma0⟩ := ma
        go_region_law (first | (go_simp; go_at_call 116; refine HINS.out.mono ?_; rintro e w8 ⟨ia, ic, rfl, hk8, z8, lt8, c8, hO8, hk9⟩))
        all_goals
          have HF : Hid (PutTo C S f w0 l w (.returned (.bool true)) (w8.setCell ⟨C.p, 5, none⟩ (.slice ia (S2.fs.length + 1) ic))) := Lib.hid ⟨by rw [HRS.out], ⟨_, by rw [HRS.out]; exact hO8⟩, HKM.out.trans hk9⟩
          clear hO8 hk8 hk9 m5 m0 ma5 ma0
          go_wp2_with (fail)
          go_ret
          exact HF.out
  · have hrs := HRES.out
    rw [if_neg hfull] at hrs
    have hin : (S1.fs.length : Int) < (C.pool : Int) := by omega
    have HRS := Lib.hid hrs
    clear hrs
    obtain ⟨b4, b0, bz, blt, es7, c7, hmu, hOm, hkm⟩ := put_map HOq.out
    obtain ⟨m5, m0, mlt, mflt, hins⟩ := put_front hOm (by omega)
    have m4 : (setBlock w2.drew C.mb (.map es7 c7)).cell? ⟨C.p, 4, none⟩ = some (.map (some C.mb)) := cell_of_heap (own_row hOm 0 rfl) rfl
    have HKM := Lib.hid (HKq.out.trans hkm)
    have HINS := Lib.hid hins
    clear hOm hkm hins
    go_wp2_with (fail)
    go_region_held3 (fun w' => w'.cell? ⟨C.p, 4, none⟩ = some (.map (some C.mb)) ∧ w'.cell? ⟨f.blk, 0, none⟩ = some (.int .i64 (f.n : Int))) (first | exact ⟨b4, b0⟩ | exact ⟨m4, m0⟩) (fail)
    clear hmu b4 b0 bz blt m4
    generalize setBlock w2.drew C.mb (.map es7 c7) = w7 at HINS HKM m5 m0 mlt mflt ⊢
    have ma : (w7.drew.alloc (.cells #[.int .i64 (f.n : Int)] 3)).cell? ⟨C.p, 5, none⟩ = some us1 ∧ (w7.drew.alloc (.cells #[.int .i64 (f.n : Int)] 3)).cell? ⟨f.blk, 0, none⟩ = some (.int .i64 (f.n : Int)) :=
      ⟨by rw [World.cell?_of_block (w := w7) (a := ⟨C.p, 5, none⟩) (heap_alloc_lt w7.drew _ mlt)]; exact m5, by rw [World.cell?_of_block (w := w7) (a := ⟨f.blk, 0, none⟩) (heap_alloc_lt w7.drew _ mflt)]; exact m0⟩
    go_wp2_with (fail)
    obtain ⟨ma5, ma0⟩ := ma
    go_region_law (first | (go_simp; go_at_call 116; refine HINS.out.mono ?_; rintro e w8 ⟨ia, ic, rfl, hk8, z8, lt8, c8, hO8, hk9⟩))
    all_goals
      have HF : Hid (PutTo C S f w0 l w (.returned (.bool true)) (w8.setCell ⟨C.p, 5, none⟩ (.slice ia (S1.fs.length + 1) ic))) := Lib.hid ⟨by rw [HRS.out], ⟨_, by rw [HRS.out]; exact hO8⟩, HKM.out.trans hk9⟩
      clear hO8 hk8 hk9 m5 m0 ma5 ma0
      go_wp2_with (fail)
      go_ret
      exact HF.out

end Go.Proofs.Ytkpoladbabhdmaa
