/- The contract of the disk's Cut. Conditions: as each says. -/
import Derived.Test.YtkpoladbabhdmaaDisk7
import Derived.Maps.RangeWalk
namespace Go.Proofs.Ytkpoladbabhdmaa
open Go.RowKit
open Go.ChangeMaps (setBlock)

set_option maxHeartbeats 400000 in
theorem cut_nil (v : Value) (w : World) : Calls Try.prog 26 #[.pointer none, v] w (MadeDisk w (Dk.new 0)) := by
  go_enter Try.func26, Try.ntmps26
  go_wp2_with (go_at_call 33; refine (size_nil _).mono ?_; rintro e w' ⟨rfl, rfl⟩)
  refine (new_any _ _).mono ?_
  rintro e w1 hM
  obtain ⟨b, F, rfl, h1, h2, h3⟩ := hM
  have hfin : MadeDisk w (Dk.new 0) (.returned (.pointer (some ⟨b, 0, none⟩))) w1 := ⟨b, F, rfl, h1, h2, h3⟩
  have HF := Lib.hid hfin
  clear hfin h1 h2 h3
  go_wp2_with (fail)
  go_ret
  exact HF.out

set_option maxRecDepth 100000 in
set_option maxHeartbeats 2000000 in
theorem cut_any {b : Nat} {w : World} {D : Dk} {F : List Nat} (h : DiskAt w b D F) {v : Value} {keep : List Bool} (hv : BoolsV w v keep) (hlen : D.all.length < Big) :
    Calls Try.prog 26 #[.pointer (some ⟨b, 0, none⟩), v] w (MadeDisk w (D.cut keep)) := by
  obtain ⟨ka, kc, rfl, _, _⟩ := hv.shape
  have HL := Lib.hid hlen
  clear hlen
  go_enter Try.func26, Try.ntmps26
  go_wp2_with (go_at_call 33; refine (size_any h).mono ?_; rintro e w' ⟨rfl, rfl⟩)
  refine (new_any _ _).mono ?_
  rintro e w1 ⟨ob, Fo, rfl, hDo, hU1, hFo⟩
  have hD1 : DiskAt w1 b D F := h.upd hU1 (by simp)
  have hbFo : b ∉ Fo := fun hm => by have := hFo b hm; have := h.lt b h.self; omega
  have hFd : ∀ x ∈ F, x ∉ Fo := fun x hx hm => by have := hFo x hm; have := h.lt x hx; omega
  have hDo' := hDo
  obtain ⟨hwfo, on, ol, pvo, eso1, co1, eso2, co2, pso, o1, o2, o3, o4, o5, o6, o7, o8, o9, oF⟩ := hDo
  have hpso : pso = [] := by
    have := congrArg List.length o8
    simpa [Dk.new] using this
  subst hpso
  have hDw := hD1
  obtain ⟨hwf, bn, bl, pv, es1, c1, es2, c2, ps, g1, g2, g3, g4, g5, g6, g7, g8, g9, hF⟩ := hD1
  have hc2 : w1.cell? ⟨b, 2, none⟩ = some (.map (some bl)) := cell_of_heap g1 rfl
  have hrun := run_range_map (P := Try.prog) Try.underlying116 g4
  have hblF : bl ∉ Fo := hFd bl (by rw [hF]; simp)
  have hFl : ∀ x ∈ Fo, x < w1.heap.size := hDo'.lt
  have hlast0 : last (Dk.new D.size).all = fun _ => none := rfl
  have hI0 : CutI w1 w1.heap.size bl ob on ol Fo (Dk.new D.size) pvo es2 c2 (last (D.all.take D.lasts)) #[] (w1.alloc (.mapIter (some bl) c2 #[] c2)) := by
    refine ⟨(Upd.refl _ _).alloc _, heap_alloc_new' _ _, ?_, ⟨eso1, co1, eso2, co2, fun _ => none, ?_, ?_, ?_, ?_, by simp, by simp⟩, ?_⟩
    · rw [heap_alloc_lt _ _ (lt_of_heap o1)]; exact o1
    · rw [heap_alloc_lt _ _ (lt_of_heap o2)]; exact o2
    · exact o3.mono fun v l hv => hv.upd ((Upd.refl [] _).alloc _)
    · rw [heap_alloc_lt _ _ (lt_of_heap o4)]; exact o4
    · exact o5.mono fun v l hv => hv.upd ((Upd.refl [] _).alloc _)
    · exact ownsRow_upd o6 ((Upd.refl [] _).alloc _) (by simp)
  have HI0 := Lib.hid hI0
  have HOF := Lib.hid oF
  have HF := Lib.hid hF
  have G1 := Lib.hid g1
  have G4 := Lib.hid g4
  have G8 := Lib.hid g8
  clear hI0 o1 o2 o3 o4 o5 o6 o7 o8 oF hF g1 g2 g3 g4 g8 hlast0
  go_wp2_with (fail)
  clear hrun
  go_loopw [21] (fun _ wr => ∃ seen, CutI w1 w1.heap.size bl ob on ol Fo (Dk.new D.size) pvo es2 c2 (last (D.all.take D.lasts)) seen wr) (fun _ wr => wr.rangeLeft bl w1.heap.size)
  case atStart => exact ⟨_, HI0.out⟩
  case round =>
    obtain ⟨seen, hI⟩ := hrel
    have hnext := run_next_at (P := Try.prog) wr 0 w1.heap.size bl c2 c2 seen es2 c2 hI.2.1 (hI.1.kept G4.out hblF) g5.old (Nat.le_refl _)
    rcases hnext with ⟨h0, hrun⟩ | ⟨e, he, wa, hal, hrun⟩
    · obtain ⟨esn, cn, esl, cl, m1, m2, m3, m4⟩ := hI.all h0 g5
      have hU : Upd Fo w1 wr := hI.1
      have hj0 : CutJ w1 ob on ol Fo (Dk.new D.size) pvo (D.all.take D.lasts ++ kept keep 0 ((D.all.drop D.lasts).take 0)) wr := by
        refine ⟨hU, hI.2.2.1, ⟨esn, cn, esl, cl, m1, ?_, m3, ?_⟩, hI.2.2.2.2⟩
        · simp only [List.take_zero, kept, List.append_nil]; exact m2
        · simp only [List.take_zero, kept, List.append_nil]; exact m4
      obtain ⟨pa, pc, hpv, hpc, _⟩ := ownsRow_shape g6
      have hl : ps.length = D.all.length - D.lasts := by
        have := congrArg List.length G8.out
        simpa using this
      have hc3 : wr.cell? ⟨b, 3, none⟩ = some (.slice pa ps.length pc) := by rw [← hpv]; exact cell_of_heap (hU.kept G1.out hbFo) rfl
      have HJ0 := Lib.hid hj0
      have HPL := Lib.hid hl
      have HV := Lib.hid hpv
      clear hj0 m1 m2 m3 m4 hl hpv hI h0 esn cn esl cl
      go_wp2_with (fail)
      clear hrun hc3 hc2
      obtain ⟨wo, hwo⟩ : ∃ wo : World, wo = wr := ⟨_, rfl⟩
      rw [← hwo] at HJ0 ⊢
      clear hU hwo
      go_loopw [47] (fun i wr => ∃ k : Nat, k ≤ ps.length ∧ i = .int .i64 k ∧ CutJ w1 ob on ol Fo (Dk.new D.size) pvo (D.all.take D.lasts ++ kept keep 0 ((D.all.drop D.lasts).take k)) wr) (fun i _ => ps.length - (intOf i).toNat)
      case atStart => exact ⟨0, Nat.zero_le _, rfl, HJ0.out⟩
      case round =>
        obtain ⟨k, hk, rfl, hJ⟩ := hrel
        have hbig : ps.length ≤ 9223372036854775807 := by have := HPL.out; have := HL.out; unfold Big at this; omega
        have hU := hJ.1
        by_cases hlt : k < ps.length
        · obtain ⟨p, hp⟩ : ∃ p, ps[k]? = some p := ⟨ps[k], List.getElem?_eq_getElem hlt⟩
          obtain ⟨hp1, hp2⟩ := pcells_at ps k p hp
          have hpB := (g7 p (List.mem_of_getElem? hp)).upd hU
          obtain ⟨a3, cap3, hv3, _, _⟩ := hpB.view.shape
          have hpv : ∃ g, pv = .slice (some ⟨g, 0, none⟩) ps.length pc := by
            rcases g6.2 with ⟨rfl, h0⟩ | ⟨g, cap, cur, he, _⟩
            · omega
            · have hV := HV.out
              rw [hV] at he; cases he; exact ⟨g, hV⟩
          obtain ⟨g, hg⟩ := hpv
          have hq6 : wr.ownsRow 0 129 2 pv ps.length (pcells ps) := ownsRow_upd g6 hU fun x hx => hFd x (by rw [HF.out]; simp [hx])
          have hcell1 : wr.cell? ⟨g, k * 2, none⟩ = some (.int .i64 p.1) := by
            have := hq6.cells (g := g) (by rw [hg]; rfl) _ _ hp1; rwa [Addr.add_lit, Nat.zero_add] at this
          have hcell2 : wr.cell? ⟨g, k * 2 + 1, none⟩ = some (.slice a3 p.2.2.length cap3) := by
            have := hq6.cells (g := g) (by rw [hg]; rfl) _ _ hp2; rw [hv3] at this; rwa [Addr.add_lit, Nat.zero_add] at this
          have hpa : pa = some ⟨g, 0, none⟩ := by have hV := HV.out; rw [hg] at hV; cases hV; rfl
          have hnext : (D.all.take D.lasts ++ kept keep 0 ((D.all.drop D.lasts).take (k + 1))) = (D.all.take D.lasts ++ kept keep 0 ((D.all.drop D.lasts).take k)) ++ if keeps keep k then [(p.1, p.2.2)] else [] := by
            have hd : (D.all.drop D.lasts)[k]? = some (p.1, p.2.2) := by rw [← G8.out]; simp [hp]
            have hlen' : ((D.all.drop D.lasts).take k).length = k := by
              rw [List.length_take, ← G8.out, List.length_map]; omega
            rw [List.take_add_one, hd, Option.toList_some, kept_snoc, hlen', Nat.zero_add, List.append_assoc]
          have hob : wr.cell? ⟨ob, 1, none⟩ = some (.map (some on)) ∧ wr.cell? ⟨ob, 2, none⟩ = some (.map (some ol)) := ⟨cell_of_heap hJ.2.1 rfl, cell_of_heap hJ.2.1 rfl⟩
          obtain ⟨hco, hcn⟩ := hob
          have hltob : ob < wr.heap.size := lt_of_heap hJ.2.1
          have hJa := (hJ.alloc (.cells #[.int .i64 p.1, .slice a3 p.2.2.length cap3] 129))
          have hJd := hJa.drew
          obtain ⟨v0, s0, v1, s1, xa, xb, xc, xd, t1, t2, t3, t4, hJ', hsame⟩ := hJd.step HOF.out o9 p.1 (hpB.upd (((Upd.refl [] wr).alloc (.cells #[.int .i64 p.1, .slice a3 p.2.2.length cap3] 129)).drew))
          rw [hv3] at t2 t4
          have hnew : (wr.alloc (.cells #[.int .i64 p.1, .slice a3 p.2.2.length cap3] 129)).drew.heap[wr.heap.size]? = some (.cells #[.int .i64 p.1, .slice a3 p.2.2.length cap3] 129) := heap_alloc_new' _ _
          have hltn : on < wr.heap.size ∧ ol < wr.heap.size := by
            have h1 := hFl on (by rw [HOF.out]; simp)
            have h2 := hFl ol (by rw [HOF.out]; simp)
            have := hU.size
            omega
          obtain ⟨na, nb, nc⟩ := hsame wr.heap.size (by omega) (by omega)
          rw [hnew] at na nb nc
          have ca0 : xa.cell? ⟨wr.heap.size, 0, none⟩ = some (.int .i64 p.1) := cell_of_heap na rfl
          have ca1 : xa.cell? ⟨wr.heap.size, 1, none⟩ = some (.slice a3 p.2.2.length cap3) := cell_of_heap na rfl
          have cb0 : xb.cell? ⟨wr.heap.size, 0, none⟩ = some (.int .i64 p.1) := cell_of_heap nb rfl
          have cb1 : xb.cell? ⟨wr.heap.size, 1, none⟩ = some (.slice a3 p.2.2.length cap3) := cell_of_heap nb rfl
          have cc0 : xc.cell? ⟨wr.heap.size, 0, none⟩ = some (.int .i64 p.1) := cell_of_heap nc rfl
          have cc1 : xc.cell? ⟨wr.heap.size, 1, none⟩ = some (.slice a3 p.2.2.length cap3) := cell_of_heap nc rfl
          have hobn : ob ≠ on ∧ ob ≠ ol := by
            obtain ⟨_, i2, ⟨esn, cn, esl, cl, i3, _, i5, _⟩, _⟩ := hJ
            refine ⟨?_, ?_⟩
            · rintro rfl; rw [i2] at i3; cases i3
            · rintro rfl; rw [i2] at i5; cases i5
          obtain ⟨ma, mb, mc⟩ := hsame ob hobn.1 hobn.2
          have hobw : (wr.alloc (.cells #[.int .i64 p.1, .slice a3 p.2.2.length cap3] 129)).drew.heap[ob]? = some (.cells (dcells (Dk.new D.size) on ol pvo) 125 (0, 0)) := hJa.2.1
          rw [hobw] at ma mb mc
          have da1 : xa.cell? ⟨ob, 1, none⟩ = some (.map (some on)) := cell_of_heap ma rfl
          have db1 : xb.cell? ⟨ob, 1, none⟩ = some (.map (some on)) := cell_of_heap mb rfl
          clear na nb nc ma mb mc hobw hnew hltn hobn hsame
          subst hpa
          have hvw : BoolsV wr (.slice ka keep.length kc) keep := (hv.upd hU1 (by simp)).upd hU fun x hx hne hm => by have := hFo x hm; have := hv.lt x hx hne; omega
          by_cases hk0 : keep = []
          · have hks : keeps keep k = true := by simp [keeps, hk0]
            rw [hks, if_pos rfl] at hnext
            rw [← hnext] at hJ'
            have HJ' := Lib.hid hJ'
            subst hk0
            clear hv hvw hJ hJa hJd hJ' hnext hks hq6 hp1 hp2 hp hpB hv3 hg h hDw hDo' g5 g6 g7 hwf hwfo hU1 hU hFl hFd hFo hbFo
            go_wp2_with (fail)
            go_region
            go_wp2_with (fail)
            go_roundw
            case rel => exact ⟨k + 1, by omega, by go_num, HJ'.out⟩
            case measure => simp [intOf]; omega
          · have hpos : 0 < keep.length := List.length_pos_iff.2 hk0
            have hm : k % keep.length < keep.length := Nat.mod_lt _ hpos
            obtain ⟨x, hx⟩ : ∃ x, keep[k % keep.length]? = some x := ⟨keep[k % keep.length], List.getElem?_eq_getElem hm⟩
            have hks : keeps keep k = x := by simp [keeps, hk0, hx]
            rcases hvw with ⟨_, h0⟩ | ⟨gk, off, cap, hke, _, hcm, hck⟩
            · exact absurd h0 hk0
            have hck' := hck _ _ hx
            cases hke
            have hltk : gk < wr.heap.size := World.block_lt_of_cell? wr _ hck'
            rw [hks] at hnext
            have hb1 : (((keep.length : Nat) : Int) == 0) = false := by rw [beq_eq_false_iff_ne]; omega
            have hkl : keep.length ≤ 9223372036854775807 := by unfold maxLen at hcm; omega
            cases x with
            | true =>
              rw [if_pos rfl] at hnext
              rw [← hnext] at hJ'
              have HJ' := Lib.hid hJ'
              clear hv hJ hJa hJd hJ' hnext hks hq6 hp1 hp2 hp hpB hv3 hg h hDw hDo' g5 g6 g7 hwf hwfo hU1 hU hFl hFd hFo hbFo hck hx hk0
              go_wp2_with (fail)
              go_region
              go_wp2_with (fail)
              go_roundw
              case rel => exact ⟨k + 1, by omega, by go_num, HJ'.out⟩
              case measure => simp [intOf]; omega
            | false =>
              rw [if_neg (by simp), List.append_nil] at hnext
              rw [← hnext] at hJa
              have HJ' := Lib.hid hJa
              clear hv hJ hJa hJd hJ' hnext hks hq6 hp1 hp2 hp hpB hv3 hg h hDw hDo' g5 g6 g7 hwf hwfo hU1 hU hFl hFd hFo hbFo hck hx hk0 t1 t2 t3 t4
              go_wp2_with (fail)
              go_roundw
              case rel => exact ⟨k + 1, by omega, by go_num, HJ'.out⟩
              case measure => simp [intOf]; omega
        · obtain rfl : k = ps.length := by omega
          have hjl : (D.all.drop D.lasts).take ps.length = D.all.drop D.lasts := by
            rw [List.take_of_length_le]; rw [← G8.out, List.length_map]; omega
          rw [hjl] at hJ
          obtain ⟨hU', i2, ⟨esn, cn, esl, cl, i3, i4, i5, i6⟩, i9⟩ := hJ
          have hfin : MadeDisk w (D.cut keep) (.returned (.pointer (some ⟨ob, 0, none⟩))) wr := by
            refine ⟨ob, Fo, rfl, ⟨Dk.cut_wf hwf keep, on, ol, pvo, esn, cn, esl, cl, [], i2, i3, i4, i5, ?_, i9, by simp, ?_, o9, HOF.out⟩, ?_, hFo⟩
            · have e1 : (D.cut keep).all.take (D.cut keep).lasts = (D.cut keep).all := List.take_length
              rw [e1]; exact i6
            · have e2 : (D.cut keep).all.drop (D.cut keep).lasts = [] := List.drop_length
              rw [e2]; rfl
            · exact hU1.trans hU' fun x hx => .inr (hFo x hx)
          have HFi := Lib.hid hfin
          clear hfin hU' i2 i3 i4 i5 i6 i9 h hv hDw hDo' g5 g6 g7 hwf hwfo hU1 hFl hFd hFo hbFo hjl hU
          go_wp2_with (fail)
          go_ret
          exact HFi.out
    · generalize hw2 : setBlock wa w1.heap.size (.mapIter (some bl) c2 (seen.push e.born) c2) = w2 at hrun
      obtain ⟨k, l, a, cap, hk, hval, hent, hco, hcn, v0, s0, v1, s1, xa, xb, xc, xd, t1, t2, t3, t4, hI', hlt⟩ := hI.step he hal hw2 (Nat.le_refl _) HOF.out o9 hFl g5 G4.out hblF
      rw [hk, hval] at hrun
      have HI := Lib.hid hI'
      have HT := Lib.hid hlt
      clear hI' hlt hw2 hk hval he hal hI
      clear h hv hDo' hDw hwf hwfo g5 g6 g7 hFl hFd hFo hbFo
      go_wp2_with (fail)
      go_region
      go_wp2_with (fail)
      go_roundw
      case rel => exact ⟨_, HI.out⟩
      case measure => exact HT.out

end Go.Proofs.Ytkpoladbabhdmaa
