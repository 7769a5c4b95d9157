/- The contract of the reference's Cut. Conditions: as each says. -/
import Derived.Test.YtkpoladbabhdmaaRef4
import Derived.Test.YtkpoladbabhdmaaDisk7
import Derived.Deep.AppendLies
import Derived.Deep.RegionLaw
namespace Go.Proofs.Ytkpoladbabhdmaa
open Go.RowKit

/-- append onto a row of our own as a step of a region that draws its order; the new value is written out -/
theorem step_append_here {P : Program} (w : World) {ops : Array Oper} {o : Oper} {a : Act} {K : Act → World → Prop} {Q : Exit → Act → World → Prop} {E : Prop} (hgd : o.guard = none) (s x : Operand) (t : TypeId)
    (ho : o.op = .call { callee := .builtin .append, args := #[s, x], argTypes := #[t, t] })
    (e : TypeId) {z : Value} {size bytes : Nat} (ht : P.underlying t = some (.slice e)) (hinfo : (P.info? e).map (fun i => (i.zero, i.size, i.bytes)) = some (some z, size, bytes))
    (hzs : z.cells.size = size) (hsz : 0 < size) (v : Value) (n : Nat) (xs : List Value) (hs : a.eval s = v) (hown : w.ownsRow 0 e size v n xs)
    (ad : Addr) (m c : Nat) (news : List Value) (hx : a.eval x = .slice (some ad) m c) (hl : news.length = m * size) (hnews : ∀ (j : Nat) (u : Value), news[j]? = some u → w.cell? (ad.add j) = some u) (h1 : ∀ u ∈ news, u.oneCell' = true)
    (hm : 0 < m) (h63 : n + m ≤ maxLen) (hbytes : (n + m) * bytes ≤ 140737488355328)
    (h : ∀ g cap w', w'.ownsRow 0 e size (.slice (some ⟨g, 0, none⟩) (n + m) cap) (n + m) (xs ++ news) → w.grownBy w' v.ownBlock → Moved w v (.slice (some ⟨g, 0, none⟩) (n + m) cap) → K (a.put o.dst (.slice (some ⟨g, 0, none⟩) (n + m) cap)) w') :
    if Region.wanted o (yielded ops a.tmps) = true then Oper.wp P o a w K Q else E := by
  have hw : Region.wanted o (yielded ops a.tmps) = true := by simp [Region.wanted, hgd]
  rw [if_pos hw]
  obtain ⟨v', w', hr, h2, h3, h4⟩ := run_append_here (P := P) w t o.type e ht hinfo hzs hsz v n xs hown ad m c news hl hnews h1 h63 hbytes
  obtain ⟨g, cap, rfl, _, _⟩ := h2.form (by omega)
  unfold Oper.wp execOp
  simp only [ho, resolve, invoke, builtin, Sem.run_bind, Sem.run_pure, Result.andThen_ok, List.map_toArray, List.map_cons, List.map_nil, hs, hx, hr]
  exact h g cap w' h2 h3 h4

/-- what a Cut has kept of the first k writes -/
def Dk.part (D : Dk) (keep : List Bool) (k : Nat) : List (Int × Bytes) := D.all.take (min k D.lasts) ++ kept keep 0 ((D.all.drop D.lasts).take (k - D.lasts))
theorem Dk.part_zero (D : Dk) (keep : List Bool) : D.part keep 0 = [] := by simp [Dk.part, kept]
theorem Dk.part_all {D : Dk} (h : D.lasts ≤ D.all.length) (keep : List Bool) : D.part keep D.all.length = D.cutAll keep := by
  unfold Dk.part Dk.cutAll
  rw [Nat.min_eq_right h, List.take_of_length_le (l := D.all.drop D.lasts) (by simp)]
theorem Dk.part_old {D : Dk} (keep : List Bool) {k : Nat} {p : Int × Bytes} (hp : D.all[k]? = some p) (hk : k < D.lasts) : D.part keep (k + 1) = D.part keep k ++ [p] := by
  unfold Dk.part
  rw [Nat.min_eq_left (by omega), Nat.min_eq_left (by omega), show k + 1 - D.lasts = 0 by omega, show k - D.lasts = 0 by omega, List.take_add_one, hp]
  simp [kept]
theorem Dk.part_new {D : Dk} (hl : D.lasts ≤ D.all.length) (keep : List Bool) {k j : Nat} {p : Int × Bytes} (hp : D.all[k]? = some p) (hk : k = D.lasts + j) :
    D.part keep (k + 1) = D.part keep k ++ if keeps keep j then [p] else [] := by
  have hkl : k < D.all.length := (List.getElem?_eq_some_iff.1 hp).1
  have hd : (D.all.drop D.lasts)[j]? = some p := by rw [List.getElem?_drop, ← hk]; exact hp
  unfold Dk.part
  rw [Nat.min_eq_right (by omega), Nat.min_eq_right (by omega), show k + 1 - D.lasts = j + 1 by omega, show k - D.lasts = j by omega, List.take_add_one, hd, Option.toList_some, kept_snoc]
  have hlen : ((D.all.drop D.lasts).take j).length = j := by rw [List.length_take, List.length_drop]; omega
  rw [hlen, Nat.zero_add, List.append_assoc]
theorem Dk.part_mem {D : Dk} {keep : List Bool} {k : Nat} {p : Int × Bytes} (h : p ∈ D.part keep k) : p ∈ D.all := by
  rcases List.mem_append.1 h with h | h
  · exact List.mem_of_mem_take h
  · exact List.mem_of_mem_drop (List.mem_of_mem_take (kept_mem keep _ _ _ h))

theorem kept_len (keep : List Bool) : ∀ (l : List (Int × Bytes)) (i : Nat), (kept keep i l).length ≤ l.length
  | [], _ => Nat.le_refl _
  | q :: l, i => by
    unfold kept
    have := kept_len keep l (i + 1)
    split <;> simp <;> omega
theorem Dk.part_len (D : Dk) (keep : List Bool) (k : Nat) : (D.part keep k).length ≤ D.all.length := by
  have := kept_len keep ((D.all.drop D.lasts).take (k - D.lasts)) 0
  simp only [Dk.part, List.length_append, List.length_take, List.length_drop] at this ⊢
  omega

def Dk.outs (D : Dk) (l : List (Int × Bytes)) : Dk := { Dk.new D.size with all := l }
theorem Dk.outs_wf {D : Dk} (h : D.Wf) {l : List (Int × Bytes)} (hl : ∀ p ∈ l, p ∈ D.all) : (D.outs l).Wf := by
  have hn := Dk.new_wf D.size
  refine ⟨hn.s0, hn.s1, hn.f0, hn.f1, Nat.zero_le _, fun p hp => ?_⟩
  have hs : (D.outs l).size = D.size := Dk.new_size h
  rw [hs]; exact h.wr p (hl p hp)

set_option maxRecDepth 100000 in
set_option maxHeartbeats 2000000 in
theorem rcut_any {b : Nat} {w : World} {D : Dk} {F : List Nat} (h : RefAt w b D F) {v : Value} {keep : List Bool} (hv : BoolsV w v keep) (hlen : D.all.length < Big) :
    Calls Try.prog 42 #[.pointer (some ⟨b, 0, none⟩), v] w (MadeRef w (D.cut keep)) := by
  obtain ⟨ka, kc, rfl, _, hkc⟩ := hv.shape
  have hwf := h.1
  obtain ⟨pa0, pc0, hc0, -⟩ := h.fields
  have HL := Lib.hid hlen
  clear hlen
  go_enter Try.func42, Try.ntmps42
  go_wp2_with (fail)
  refine (rnew_any _ _).mono ?_
  rintro e w1 ⟨ob, rfl, Fo, hDo, hU1, hFo⟩
  have hDo : RefAt w1 ob (Dk.new D.size) Fo := hDo
  have hD1 : RefAt w1 b D F := h.upd hU1 (by simp)
  have hbFo : b ∉ Fo := fun hm => by have := hFo b hm; have := h.lt b h.self; omega
  have hFd : ∀ x ∈ F, x ∉ Fo := fun x hx hm => by have := hFo x hm; have := h.lt x hx; omega
  have hI0 : Turned w1 (rdisk ob (D.outs (D.part keep 0))) Fo w1 := by
    rw [D.part_zero]; exact .stay hDo
  have hv1 : BoolsV w1 (.slice ka keep.length kc) keep := hv.upd hU1 (by simp)
  have hvs : ∀ g, (Value.slice ka keep.length kc).ownBlock = some g → keep ≠ [] → g ∉ Fo := fun g hg hne hm => by have := hFo g hm; have := hv.lt g hg hne; omega
  have HI := Lib.hid hI0
  have HV1 := Lib.hid hv1
  have HVS := Lib.hid hvs
  have HD1 := Lib.hid hD1
  have HFD := Lib.hid hFd
  have HU1 := Lib.hid hU1
  have HFO := Lib.hid hFo
  have HWF := Lib.hid hwf
  clear hI0 hv1 hvs hv hD1 hFd hU1 hFo hwf hc0 h hDo
  go_wp2_with (fail)
  go_loopw [6] (fun i wr => ∃ k : Nat, k ≤ D.all.length ∧ i = .int .i64 k ∧ Turned w1 (rdisk ob (D.outs (D.part keep k))) Fo wr) (fun i _ => D.all.length - (intOf i).toNat)
  case atStart => exact ⟨0, Nat.zero_le _, rfl, HI.out⟩
  case round =>
    obtain ⟨k, hk, rfl, F2, hO, hU, hF2⟩ := hrel
    have hO : RefAt wr ob (D.outs (D.part keep k)) F2 := hO
    have hOw := hO
    have hbig : D.all.length ≤ 9223372036854775807 := by have := HL.out; unfold Big at this; omega
    have hDr : RefAt wr b D F := HD1.out.upd hU HFD.out
    obtain ⟨pa1, pc1, -, hc1, hc2, -⟩ := hDr.fields
    have hla := HWF.out.la
    by_cases hlt : k < D.all.length
    · obtain ⟨_, pv, ps, g1, g6, g7, g8, hF⟩ := hDr
      obtain ⟨_, qv, qs, q1, q6, q7, q8, hQ⟩ := hO
      have hpl : ps.length = D.all.length := by have := congrArg List.length g8; simpa using this
      obtain ⟨p, hp⟩ : ∃ p, ps[k]? = some p := ⟨ps[k]'(by omega), List.getElem?_eq_getElem _⟩
      have hpD : D.all[k]? = some (p.1, p.2.2) := by rw [← g8]; simp [hp]
      obtain ⟨hp1, hp2⟩ := pcells_at ps k p hp
      have hpB := g7 p (List.mem_of_getElem? hp)
      obtain ⟨a3, cap3, hv3, _, _⟩ := hpB.view.shape
      obtain ⟨g, cg, hg⟩ : ∃ g cg, pv = .slice (some ⟨g, 0, none⟩) D.all.length cg := by
        rcases g6.2 with ⟨rfl, h0⟩ | ⟨g, cap, cur, he, _⟩
        · omega
        · exact ⟨g, cap, by rw [he, hpl]⟩
      subst hg
      have hc1' : wr.cell? ⟨b, 1, none⟩ = some (.slice (some ⟨g, 0, none⟩) D.all.length cg) := cell_of_heap g1 rfl
      rw [hc1] at hc1'
      cases hc1'
      have hcell1 : wr.cell? ⟨g, k * 2, none⟩ = some (.int .i64 p.1) := by
        have := g6.cells (g := g) rfl _ _ hp1; rwa [Addr.add_lit, Nat.zero_add] at this
      have hcell2 : wr.cell? ⟨g, k * 2 + 1, none⟩ = some (.slice a3 p.2.2.length cap3) := by
        have := g6.cells (g := g) rfl _ _ hp2; rw [hv3] at this; rwa [Addr.add_lit, Nat.zero_add] at this
      obtain ⟨qa, qc, hqv, _, _⟩ := ownsRow_shape q6
      subst hqv
      have hq1 : wr.cell? ⟨ob, 1, none⟩ = some (.slice qa qs.length qc) := cell_of_heap q1 rfl
      have hltq := lt_of_heap q1
      have hltb := lt_of_heap g1
      have hltg : g < wr.heap.size := World.block_lt_of_cell? wr _ hcell1
      have hql : qs.length ≤ D.all.length := by
        have e1 : qs.length = (D.part keep k).length := by have := congrArg List.length q8; rw [List.length_map] at this; exact this
        rw [e1]
        exact Dk.part_len D keep k
      have hone : ∀ u ∈ [Value.int .i64 p.1, .slice a3 p.2.2.length cap3], u.oneCell' = true := by
        intro u hu
        have h3 := hpB.oneCell
        rw [hv3] at h3
        simp only [List.mem_cons, List.not_mem_nil, or_false] at hu
        rcases hu with rfl | rfl
        · rfl
        · exact h3
      have hown : ((wr.alloc (.cells #[.int .i64 p.1, .slice a3 p.2.2.length cap3] 136)).drew).ownsRow 0 136 2 (.slice qa qs.length qc) qs.length (pcells qs) := q6.alloc _
      have hnews : ∀ (j : Nat) (u : Value), [Value.int .i64 p.1, .slice a3 p.2.2.length cap3][j]? = some u → ((wr.alloc (.cells #[.int .i64 p.1, .slice a3 p.2.2.length cap3] 136)).drew).cell? ((⟨wr.heap.size, 0, none⟩ : Addr).add j) = some u := by
        intro j u hu
        have : (wr.alloc (.cells #[.int .i64 p.1, .slice a3 p.2.2.length cap3] 136)).cell? ((⟨wr.heap.size, 0, none⟩ : Addr).add j) = some u := by
          rw [Addr.add_lit, World.cell?_alloc_new]
          simpa using hu
        exact this
      have hbd : qs.length + 1 ≤ maxLen ∧ (qs.length + 1) * 32 ≤ 140737488355328 := by
        have := HL.out; unfold Big at this; unfold maxLen; omega
      have hend : ∀ g' cap' w5, w5.ownsRow 0 136 2 (.slice (some ⟨g', 0, none⟩) (qs.length + 1) cap') (qs.length + 1) (pcells qs ++ [.int .i64 p.1, .slice a3 p.2.2.length cap3]) →
          ((wr.alloc (.cells #[.int .i64 p.1, .slice a3 p.2.2.length cap3] 136)).drew).grownBy w5 (Value.slice qa qs.length qc).ownBlock →
          Moved ((wr.alloc (.cells #[.int .i64 p.1, .slice a3 p.2.2.length cap3] 136)).drew) (.slice qa qs.length qc) (.slice (some ⟨g', 0, none⟩) (qs.length + 1) cap') →
          Turned w1 (rdisk ob (D.outs (D.part keep k ++ [(p.1, p.2.2)]))) Fo (w5.setCell ⟨ob, 1, none⟩ (.slice (some ⟨g', 0, none⟩) (qs.length + 1) cap')) ∧ w5.cell? ⟨ob, 1, none⟩ = some (.slice qa qs.length qc) ∧ w5.frozen? ⟨ob, 1, none⟩ = false := by
        intro g' cap' w5 ho hg hmv
        rw [← hv3] at ho hg hmv
        have hg2 : (wr.alloc (.cells #[.int .i64 p.1, p.2.1] 136)).grownBy w5 (Value.slice qa qs.length qc).ownBlock := ⟨hg.os, hg.tape, hg.output, hg.size, hg.block⟩
        have hw' : (D.outs (D.part keep k ++ [(p.1, p.2.2)])).Wf := Dk.outs_wf HWF.out (by
          intro q hq
          rcases List.mem_append.1 hq with hq | hq
          · exact Dk.part_mem hq
          · simp only [List.mem_singleton] at hq; subst hq; exact List.mem_of_getElem? hpD)
        obtain ⟨r1, r2⟩ := RefAt.wrote_end (D2 := D.outs (D.part keep k)) (D' := D.outs (D.part keep k ++ [(p.1, p.2.2)])) hw' rfl (fun _ => rfl) hpB q1 q6 q7 q8 hQ ho hg2 hmv
        exact ⟨.trans hU hF2 r1, r2⟩
      have HPD := Lib.hid hpD
      have HO := Lib.hid hone
      have HW := Lib.hid hown
      have HN := Lib.hid hnews
      have HB := Lib.hid hbd
      have HE := Lib.hid hend
      have HT : Hid (RefAt wr ob (D.outs (D.part keep k)) F2 ∧ Upd Fo w1 wr ∧ ∀ x ∈ F2, x ∈ Fo ∨ w1.heap.size ≤ x) := Lib.hid ⟨hOw, hU, hF2⟩
      have HLA := Lib.hid hla
      have hbl : D.lasts ≤ 9223372036854775807 := by omega
      clear q1 q6 q7 q8 hQ hU hpD hpB hv3 hp1 hp2 hp hpl g1 g6 g7 g8 hF hO hF2 hla hend hbd hnews hown hone hOw
      by_cases hkl : k < D.lasts
      · have hneg : (k : Int) - (D.lasts : Int) < 0 := by omega
        have hst : D.part keep (k + 1) = D.part keep k ++ [(p.1, p.2.2)] := Dk.part_old keep HPD.out hkl
        have HST := Lib.hid hst
        clear hst
        go_wp2_with (fail)
        go_region_law (first | (go_must (refine step_append_here _ rfl (.tmp 48) (.tmp 56) 50 rfl 136 Try.underlying50 Try.info136 rfl (by decide) _ _ _ rfl HW.out ⟨wr.heap.size, 0, none⟩ 1 1 [.int .i64 p.1, .slice a3 p.2.2.length cap3] rfl rfl HN.out HO.out (by decide) HB.out.1 HB.out.2 ?_; intro g' cap' w5 ho hg hm; obtain ⟨hT, hc5, hz5⟩ := HE.out g' cap' w5 ho hg hm; have HT5 := Lib.hid hT; clear hT ho hg hm)))
        all_goals
          go_wp2_with (fail)
          go_roundw
          case rel => exact ⟨k + 1, by omega, by go_num, by rw [HST.out]; exact HT5.out⟩
          case measure => simp only [intOf]; omega
      · obtain ⟨j, hj⟩ : ∃ j, k = D.lasts + j := ⟨k - D.lasts, by omega⟩
        have hst := Dk.part_new HLA.out keep HPD.out hj
        have hneg : (k : Int) - (D.lasts : Int) = (j : Int) := by omega
        have hjb : j ≤ 9223372036854775807 := by omega
        have hjn : decide ((j : Int) < 0) = false := by simp
        clear hj
        by_cases hk0 : keep = []
        · have hks : keeps keep j = true := by simp [keeps, hk0]
          rw [hks, if_pos rfl] at hst
          have HST := Lib.hid hst
          have hb1 : (((keep.length : Nat) : Int) == 0) = true := by simp [hk0]
          clear hst hks hk0
          go_wp2_with (fail)
          go_region_law (first | (go_must (refine step_append_here _ rfl (.tmp 48) (.tmp 56) 50 rfl 136 Try.underlying50 Try.info136 rfl (by decide) _ _ _ rfl HW.out ⟨wr.heap.size, 0, none⟩ 1 1 [.int .i64 p.1, .slice a3 p.2.2.length cap3] rfl rfl HN.out HO.out (by decide) HB.out.1 HB.out.2 ?_; intro g' cap' w5 ho hg hm; obtain ⟨hT, hc5, hz5⟩ := HE.out g' cap' w5 ho hg hm; have HT5 := Lib.hid hT; clear hT ho hg hm)))
          all_goals
            go_wp2_with (fail)
            go_roundw
            case rel => exact ⟨k + 1, by omega, by go_num, by rw [HST.out]; exact HT5.out⟩
            case measure => simp only [intOf]; omega
        · have hpos : 0 < keep.length := List.length_pos_iff.2 hk0
          have hm : j % keep.length < keep.length := Nat.mod_lt _ hpos
          obtain ⟨x, hx⟩ : ∃ x, keep[j % keep.length]? = some x := ⟨keep[j % keep.length], List.getElem?_eq_getElem hm⟩
          have hks : keeps keep j = x := by simp [keeps, hk0, hx]
          have hvw := HV1.out.upd HT.out.2.1 HVS.out
          rcases hvw with ⟨_, h0⟩ | ⟨gk, off, cap, hke, _, hcm, hck⟩
          · exact absurd h0 hk0
          have hck' := hck _ _ hx
          cases hke
          have hltk : gk < wr.heap.size := World.block_lt_of_cell? wr _ hck'
          rw [hks] at hst
          have hb1 : (((keep.length : Nat) : Int) == 0) = false := by rw [beq_eq_false_iff_ne]; omega
          have hkl2 : keep.length ≤ 9223372036854775807 := by unfold maxLen at hcm; omega
          cases x with
          | true =>
            rw [if_pos rfl] at hst
            have HST := Lib.hid hst
            clear hst hks hck hx hk0
            go_wp2_with (fail)
            go_region_law (first | (go_must (refine step_append_here _ rfl (.tmp 48) (.tmp 56) 50 rfl 136 Try.underlying50 Try.info136 rfl (by decide) _ _ _ rfl HW.out ⟨wr.heap.size, 0, none⟩ 1 1 [.int .i64 p.1, .slice a3 p.2.2.length cap3] rfl rfl HN.out HO.out (by decide) HB.out.1 HB.out.2 ?_; intro g' cap' w5 ho hg hm; obtain ⟨hT, hc5, hz5⟩ := HE.out g' cap' w5 ho hg hm; have HT5 := Lib.hid hT; clear hT ho hg hm)))
            all_goals
              go_wp2_with (fail)
              go_roundw
              case rel => exact ⟨k + 1, by omega, by go_num, by rw [HST.out]; exact HT5.out⟩
              case measure => simp only [intOf]; omega
          | false =>
            rw [if_neg (by simp), List.append_nil] at hst
            have HST := Lib.hid hst
            have HTI := Lib.hid (show Turned w1 (rdisk ob (D.outs (D.part keep k))) Fo wr from ⟨F2, HT.out.1, HT.out.2.1, HT.out.2.2⟩)
            clear hst hks hck hx hk0
            go_wp2_with (fail)
            go_roundw
            case rel => exact ⟨k + 1, by omega, by go_num, by rw [HST.out]; exact HTI.out⟩
            case measure => simp only [intOf]; omega
    · obtain rfl : k = D.all.length := by omega
      rw [Dk.part_all hla] at hO
      obtain ⟨qa, qc, -, hq1, hq2, -⟩ := hO.fields
      have hz2 := hO.free 2
      have hcw := Dk.cut_wf HWF.out keep
      have hlc : (D.outs (D.cutAll keep)).all.length ≤ 9223372036854775807 := by
        have e1 : (D.outs (D.cutAll keep)).all.length = (D.part keep D.all.length).length := by rw [Dk.part_all hla]; rfl
        have := Dk.part_len D keep D.all.length
        omega
      have hT : Turned wr (rdisk ob (D.cut keep)) F2 (wr.setCell ⟨ob, 2, none⟩ (.int .i64 ((D.outs (D.cutAll keep)).all.length : Int))) :=
        hO.field 2 (.int .i64 ((D.outs (D.cutAll keep)).all.length : Int)) (D' := D.cut keep) hcw rfl fun _ => rfl
      have hfin : MadeRef w (D.cut keep) (.returned (.pointer (some ⟨ob, 0, none⟩))) (wr.setCell ⟨ob, 2, none⟩ (.int .i64 ((D.outs (D.cutAll keep)).all.length : Int))) := by
        obtain ⟨F3, r1, r2, r3⟩ := Turned.trans hU hF2 hT
        refine ⟨ob, rfl, F3, r1, HU1.out.trans r2 (fun x hx => .inr (HFO.out x hx)), fun x hx => ?_⟩
        rcases r3 x hx with h | h
        · exact HFO.out x h
        · exact Nat.le_trans HU1.out.size h
      have HF := Lib.hid hfin
      clear hfin hT hO hU hF2 hcw hOw hDr hla
      go_wp2_with (fail)
      go_ret
      exact HF.out

end Go.Proofs.Ytkpoladbabhdmaa
