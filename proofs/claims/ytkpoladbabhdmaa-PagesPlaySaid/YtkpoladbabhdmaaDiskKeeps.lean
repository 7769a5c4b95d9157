/- DiskKeeps: a cut that keeps all is the disk as it was written, one that keeps nothing as it was synced. Conditions: none. -/
import Derived.Test.YtkpoladbabhdmaaRow
import Derived.Test.YtkpoladbabhdmaaDiskO
import Derived.Test.YtkpoladbabhdmaaLaw6b
import Derived.Deep.RegionHeld3
namespace Go.Proofs.Ytkpoladbabhdmaa
open Go.ChangeShapes Go.WideShapes Go.ChangeAt Go.RowKit

theorem kept_nil : ∀ (l : List (Int × Bytes)) (i : Nat), kept [] i l = l
  | [], _ => rfl
  | p :: l, i => by simp [kept, keeps, kept_nil l]
theorem kept_tt : ∀ (l : List (Int × Bytes)) (i : Nat), kept [true, true] i l = l
  | [], _ => rfl
  | p :: l, i => by
    have : keeps [true, true] i = true := by
      have : i % 2 = 0 ∨ i % 2 = 1 := by omega
      rcases this with h | h <;> simp [keeps, h]
    simp [kept, this, kept_tt l]
theorem kept_f : ∀ (l : List (Int × Bytes)) (i : Nat), kept [false] i l = []
  | [], _ => rfl
  | p :: l, i => by
    have : keeps [false] i = false := by simp [keeps, Nat.mod_one]
    simp [kept, this, kept_f l]

/-- a disk of s sectors that is up -/
structure Up (s : Int) (D : Dk) : Prop where
  size : D.size = s
  down : D.down = false
  fuse : D.fuse = -1

theorem Up.write {s : Int} {D : Dk} (h : Up s D) {n : Int} {x : Bytes} (h0 : 0 ≤ n) (h1 : n < s) (hx : x.length = 256) :
    D.writeE n x = 0 ∧ Up s (D.write n x) ∧ (D.write n x).all = D.all ++ [(n, x)] ∧ (D.write n x).lasts = D.lasts := by
  have ho : D.okArg n x = true := by rw [Dk.okArg, decide_eq_true_eq, h.size]; exact ⟨h0, h1, hx⟩
  have hf := h.fuse
  have hb : D.burns = true := by simp [Dk.burns, hf]
  have hbt : D.burnt = D := by unfold Dk.burnt; rw [if_neg (by omega), if_neg (by omega)]
  have hw : D.write n x = D.wrote n x := by simp [Dk.write, h.down, ho, hb]
  refine ⟨by simp [Dk.writeE, h.down, ho, hb], ?_, ?_, ?_⟩ <;> rw [hw]
  · exact ⟨by simp [Dk.wrote, hbt, h.size], by simp [Dk.wrote, hbt, h.down], by simp [Dk.wrote, hbt, hf]⟩
  · rfl
  · simp [Dk.wrote, hbt]

theorem Up.sync {s : Int} {D : Dk} (h : Up s D) : D.syncE = 0 ∧ Up s D.sync ∧ D.sync.all = D.all ∧ D.sync.lasts = D.all.length := by
  have hf := h.fuse
  have hb : D.burns = true := by simp [Dk.burns, hf]
  have hbt : D.burnt = D := by unfold Dk.burnt; rw [if_neg (by omega), if_neg (by omega)]
  have hw : D.sync = D.synced := by simp [Dk.sync, h.down, hb]
  refine ⟨by simp [Dk.syncE, h.down, hb], ?_, ?_, ?_⟩ <;> rw [hw]
  · exact ⟨by simp [Dk.synced, hbt, h.size], by simp [Dk.synced, hbt, h.down], by simp [Dk.synced, hbt, hf]⟩
  · simp [Dk.synced, hbt]
  · simp [Dk.synced]

theorem Up.read {s : Int} {D : Dk} (h : Up s D) {n : Int} (h0 : 0 ≤ n) (h1 : n < s) : D.readE n = 0 ∧ D.readB n = D.sec n ∧ Up s (D.read n) ∧ (D.read n).all = D.all ∧ (D.read n).lasts = D.lasts := by
  have hn : 0 ≤ n ∧ n < D.size := by rw [h.size]; exact ⟨h0, h1⟩
  have hw : D.read n = D.read0 := by simp [Dk.read, h.down, hn]
  refine ⟨by simp [Dk.readE, h.down, hn], by simp [Dk.readB, h.down, hn], ?_, ?_, ?_⟩ <;> rw [hw]
  · exact ⟨h.size, h.down, h.fuse⟩
  · rfl
  · rfl

theorem Up.new {s : Int} (h0 : 0 ≤ s) (h1 : s ≤ 65536) : Up s (Dk.new s) := ⟨by simp [Dk.new]; omega, rfl, rfl⟩
theorem Up.cut {s : Int} {D : Dk} (h : Up s D) (hw : D.Wf) (keep : List Bool) : Up s (D.cut keep) := ⟨by rw [← h.size]; exact Dk.new_size hw, rfl, rfl⟩

/-- the disk, and what it was when it was synced -/
structure KeepI (k : Nat) (D E : Dk) : Prop where
  d : Up 6 D
  e : Up 6 E
  len : D.all.length = k
  same : last E.all = last (D.all.take D.lasts)
  le : D.lasts ≤ D.all.length

theorem KeepI.write {k : Nat} {D E : Dk} (h : KeepI k D E) {n : Int} {x : Bytes} (h0 : 0 ≤ n) (h1 : n < 6) (hx : x.length = 256) : KeepI (k + 1) (D.write n x) E := by
  obtain ⟨_, a, b, c⟩ := h.d.write h0 h1 hx
  refine ⟨a, h.e, by rw [b]; simp [h.len], ?_, by rw [b, c]; simp; have := h.le; omega⟩
  rw [b, c, List.take_append_of_le_length h.le]
  exact h.same

theorem KeepI.sync {k : Nat} {D E : Dk} (h : KeepI k D E) (hw : D.sync.Wf) : KeepI k D.sync (D.sync.cut []) := by
  obtain ⟨_, a, b, c⟩ := h.d.sync
  refine ⟨a, a.cut hw _, by rw [b]; exact h.len, ?_, by rw [b, c]; exact Nat.le_refl _⟩
  have e1 : (D.sync.cut []).all = D.sync.all.take D.sync.lasts ++ kept [] 0 (D.sync.all.drop D.sync.lasts) := rfl
  rw [e1, b, c, List.take_length, List.drop_length]
  simp [kept]

/-- the five disks at the end -/
structure KeepF (D A N S E : Dk) : Prop where
  d : Up 6 D
  a : Up 6 A
  n : Up 6 N
  s : Up 6 S
  e : Up 6 E
  da : last A.all = last D.all
  ds : last S.all = last D.all
  ne : last N.all = last E.all

theorem KeepI.fin {k : Nat} {D E : Dk} (h : KeepI k D E) (hw : D.Wf) : KeepF D (D.cut []) (D.cut [false]) (D.cut [true, true]) E := by
  refine ⟨h.d, h.d.cut hw _, h.d.cut hw _, h.d.cut hw _, h.e, ?_, ?_, ?_⟩
  · show last (D.all.take D.lasts ++ kept [] 0 (D.all.drop D.lasts)) = _
    rw [kept_nil, List.take_append_drop]
  · show last (D.all.take D.lasts ++ kept [true, true] 0 (D.all.drop D.lasts)) = _
    rw [kept_tt, List.take_append_drop]
  · show last (D.all.take D.lasts ++ kept [false] 0 (D.all.drop D.lasts)) = _
    rw [kept_f, List.append_nil, h.same]

theorem sec_last {D E : Dk} (h : last D.all = last E.all) (n : Int) : D.sec n = E.sec n := by simp [Dk.sec, h]

theorem boolsV_new (w : World) (l : List Bool) (h : l.length ≤ maxLen) : BoolsV (w.alloc (.cells (l.map Value.bool).toArray 4)) (.slice (some ⟨w.heap.size, 0, none⟩) l.length l.length) l :=
  .inr ⟨_, 0, _, rfl, Nat.le_refl _, h, fun i x hx => by rw [World.cell?_alloc_new]; simp [hx]⟩

theorem umod (n m : Int) (h0 : 0 < m) (h1 : m < 1000) : 0 ≤ IntKind.i64.wrap ((IntKind.u64.wrap n).tmod m) ∧ IntKind.i64.wrap ((IntKind.u64.wrap n).tmod m) < m := by
  have hw : 0 ≤ IntKind.u64.wrap n := by simp [IntKind.wrap, IntKind.signed, IntKind.bits]; omega
  rw [Int.tmod_eq_emod_of_nonneg hw]
  have h2 := Int.emod_nonneg (IntKind.u64.wrap n) (by omega : m ≠ 0)
  have h3 := Int.emod_lt_of_pos (IntKind.u64.wrap n) h0
  rw [IntKind.wrap_i64]
  omega

set_option maxRecDepth 100000 in
set_option maxHeartbeats 2000000 in
theorem keeps_walk {v : Value} {ops : List Op6} (w : World) (hops : OpsV w v ops) :
    Calls Try.prog 4 #[v] w (Returns (.bool true) (Below w.heap.size w)) := by
  have hnot : ∀ (x : Bool) (w : World), (Op.unary .not (.bool x)).run Try.prog w = .ok (.bool (!x)) w := fun _ _ => rfl
  obtain ⟨oa, oc, hv, hoc, hom⟩ := hops.shape
  have hob : ops.length ≤ 9223372036854775807 := by unfold maxLen at hom; omega
  have HV := Lib.hid hv
  have HO := Lib.hid hops
  rw [hv]
  clear hv hops hom hoc
  go_enter Try.func4, Try.ntmps4
  go_wp2_with (fail)
  refine (own_returns (Owns.none w) (awake6_any w)).mono ?_
  rintro e w1 ⟨rfl, hO1, -⟩
  go_wp2_with (fail)
  have hops1 : OpsV w1 (.slice oa ops.length oc) ops := by
    rw [← HV.out]; exact HO.out.old (Nat.le_refl _) (hO1.1.old (Nat.le_refl _) (by simp))
  refine (few6_any hops1).mono ?_
  rintro e w' ⟨x, rfl, hx, rfl⟩
  clear hops1
  cases x with
  | false =>
    go_wp2_with (fail)
    refine (own_returns hO1 (awake6_any w1)).mono ?_
    rintro e w2 ⟨rfl, hO2, -⟩
    go_wp2_with (fail)
    go_ret
    exact ⟨rfl, hO2.below⟩
  | true =>
    have h60 : ops.length ≤ 60 := hx rfl
    clear hx
    go_wp2_with (fail)
    refine (own_new hO1 6).mono ?_
    rintro e w2 ⟨b, rfl, hO2, -⟩
    clear hO1
    go_wp2_with (fail)
    refine (own_cut hO2 0 rfl (.nil _) (by show (0 : Nat) < Big; unfold Big; omega)).mono ?_
    rintro e w3 ⟨c, rfl, hO3, -⟩
    have hI : KeepI 0 (Dk.new 6) ((Dk.new 6).cut []) := ⟨Up.new (by omega) (by omega), (Up.new (by omega) (by omega)).cut (Dk.new_wf 6) _, rfl, rfl, Nat.le_refl _⟩
    clear hO2
    go_wp2_with (fail)
    go_outline
    go_loopw [4, 5] (fun s i wr => ∃ (k c : Nat) (D E : Dk), k ≤ ops.length ∧ i = .int .i64 k ∧ s = .pointer (some ⟨c, 0, none⟩) ∧ KeepI k D E ∧ Owns w [disk c E, disk b D] wr) (fun _ i _ => ops.length - (intOf i).toNat)
    case atStart => exact ⟨0, c, _, _, Nat.zero_le _, rfl, rfl, hI, hO3⟩
    case round =>
      clear hI hO3
      obtain ⟨k, c, D, E, hk, rfl, rfl, hI, hO⟩ := hrel
      by_cases hlt : k < ops.length
      · obtain ⟨o, ho⟩ : ∃ o, ops[k]? = some o := ⟨ops[k], List.getElem?_eq_getElem hlt⟩
        have hopr : OpsV wr v ops := HO.out.old (Nat.le_refl _) (hO.1.old (Nat.le_refl _) (by simp))
        rcases hopr with ⟨_, h0⟩ | ⟨g, off, cap, hg, _, _, hat⟩
        · subst h0; simp at hlt
        have hat0 := hat k o ho
        have ea : oa = some ⟨g, off, none⟩ := by have := HV.out; rw [hg] at this; cases this; rfl
        subst ea
        obtain ⟨ik, i_n, im, ck, cn, cm, -⟩ := hat0
        have hlen : D.all.length < Big := by rw [hI.len]; unfold Big; omega
        have hgl : g < w.heap.size := by
          rcases HO.out with ⟨h1, h0⟩ | ⟨g', off', cap', h1, _, _, h3⟩
          · subst h0; simp at hlt
          · rw [h1] at hg; cases hg; exact World.block_lt_of_cell? w _ (h3 k o ho).2.2.2.1
        have hSof : ∀ l w', Owns w l w' → (w'.cell? ⟨g, off + k * 4 + 1, none⟩ = some (.int .i64 o.n) ∧ w'.cell? ⟨g, off + k * 4 + 2, none⟩ = some (.int .i64 o.m)) := by
          intro l w' h
          have e1 := h.1.block g hgl (by simp)
          have e2 := hO.1.block g hgl (by simp)
          rw [World.cell?_of_block (w := w) (a := ⟨g, off + k * 4 + 1, none⟩) e1, World.cell?_of_block (w := w) (a := ⟨g, off + k * 4 + 2, none⟩) e1]
          rw [World.cell?_of_block (w := w) (a := ⟨g, off + k * 4 + 1, none⟩) e2] at cn
          rw [World.cell?_of_block (w := w) (a := ⟨g, off + k * 4 + 2, none⟩) e2] at cm
          exact ⟨cn, cm⟩
        have HS := Lib.hid hSof
        have hOd : Owns w [disk c E, disk b D] wr.drew := hO.upd (Upd.refl [] _).drew
        have HG := Lib.hid hg
        have HA := Lib.hid ho
        have HT := Lib.hid hat
        clear hSof hg ho hat
        go_wp2_with (fail)
        go_region_held3 (fun w' => w'.cell? ⟨g, off + k * 4 + 1, none⟩ = some (.int .i64 o.n) ∧ w'.cell? ⟨g, off + k * 4 + 2, none⟩ = some (.int .i64 o.m)) (first | exact ⟨cn, cm⟩ | exact HS.out _ _ (by assumption))
          (first | (go_at_call 23; refine (own_bytes hOd (sector6_any _ _)).mono ?_; rintro e w4 ⟨x4, rfl, hb4, hO4, hk4, hf4⟩; obtain ⟨a4, c4, rfl, _, _⟩ := hb4.view.shape) | (go_at_call 22; refine (own_write hO4 1 rfl hb4 hlen).mono ?_; rintro e w5 ⟨rfl, hO5, hk5⟩))
        have hn6 := umod o.n 6 (by omega) (by omega)
        have hO5 : Owns w [disk c E, disk b (D.write (IntKind.i64.wrap ((IntKind.u64.wrap o.n).tmod 6)) (alike o.m))] w5 := hO5
        have hI5 := hI.write hn6.1 hn6.2 (alike_len o.m)
        generalize D.write (IntKind.i64.wrap ((IntKind.u64.wrap o.n).tmod 6)) (alike o.m) = D5 at hO5 hI5
        have hlen5 : D5.all.length < Big := by rw [hI5.len]; unfold Big; omega
        have hck : w5.cell? ⟨g, off + k * 4, none⟩ = some (.int .i64 o.kind) := by
          have hat1 := (HT.out k o HA.out).2.2.2.1
          have hx := hO.1.block g hgl (by simp)
          rw [World.cell?_of_block (w := w) (a := ⟨g, off + k * 4, none⟩) hx] at hat1
          rw [World.cell?_of_block (w := w) (a := ⟨g, off + k * 4, none⟩) (hO5.1.block g hgl (by simp))]
          exact hat1
        clear hb4 hO4 hk4 hf4 hk5 hOd hlen hI hO hn6 cn cm ck HT HA
        by_cases hkind : o.kind = 3
        · have h3 : (o.kind == 3) = true := by simpa using hkind
          clear hkind
          go_wp2_with (fail)
          refine (own_sync hO5 1 rfl hlen5).mono ?_
          rw [hI5.d.sync.1]
          rintro e w6 ⟨rfl, hO6, -⟩
          have hO6 : Owns w [disk c E, disk b D5.sync] w6 := hO6
          have hI6 := hI5.sync (own_wf hO6 1 rfl)
          have hlen6 : D5.sync.all.length < Big := by rw [hI5.d.sync.2.2.1]; exact hlen5
          clear hO5
          go_wp2_with (fail)
          refine (own_cut hO6 1 rfl (.nil _) hlen6).mono ?_
          rintro e w7 ⟨c7, rfl, hO7, -⟩
          have hO8 : Owns w [disk c7 (D5.sync.cut []), disk b D5.sync] w7 := hO7.pick (fun i => if i = 0 then 0 else 2) (by intro i T h; match i, h with | 0, h => simpa using h | 1, h => simpa using h) (by intro i j hi hj h; simp at hi hj h; split at h <;> split at h <;> omega)
          clear hO6 hO7
          go_wp2_with (fail)
          go_roundw
          case rel => exact ⟨k + 1, c7, _, _, by omega, by go_num, rfl, hI6, hO8⟩
          case measure => simp [intOf]; omega
        · have h3 : (o.kind == 3) = false := by simpa using hkind
          clear hkind
          go_wp2_with (fail)
          go_roundw
          case rel => exact ⟨k + 1, c, _, _, by omega, by go_num, rfl, hI5, hO5⟩
          case measure => simp [intOf]; omega
      · have hlen : D.all.length < Big := by rw [hI.len]; unfold Big; omega
        have hge : ops.length ≤ k := by omega
        clear hlt
        go_wp2_with (fail)
        refine (own_cut hO 1 rfl (.nil _) hlen).mono ?_
        rintro e x1 ⟨a, rfl, hOa, -⟩
        have hwf : D.Wf := own_wf hO 1 rfl
        clear hO
        go_wp2_with (fail)
        have hb1 := boolsV_new x1 [false] (by unfold maxLen; simp)
        refine (own_cut (hOa.upd ((Upd.refl [] _).alloc _)) 2 rfl hb1 hlen).mono ?_
        rintro e x2 ⟨n, rfl, hOn, -⟩
        clear hb1 hOa
        go_wp2_with (fail)
        have hb2 := boolsV_new x2 [true, true] (by unfold maxLen; simp)
        refine (own_cut (hOn.upd ((Upd.refl [] _).alloc _)) 3 rfl hb2 hlen).mono ?_
        rintro e x3 ⟨s, rfl, hOs, -⟩
        clear hb2 hOn
        have hF := hI.fin hwf
        clear hI hwf hlen hk hge
        go_wp2_with (fail)
        go_loopw [9] (fun i wr => ∃ (k : Nat) (D A N S E : Dk), k ≤ 6 ∧ i = .int .i64 k ∧ KeepF D A N S E ∧ Owns w [disk s S, disk n N, disk a A, disk c E, disk b D] wr) (fun i _ => 6 - (intOf i).toNat)
        case atStart => exact ⟨0, _, _, _, _, _, Nat.zero_le _, rfl, hF, hOs⟩
        case round =>
          clear hF hOs
          obtain ⟨k, D, A, N, S, E, hk, rfl, hF, hO⟩ := hrel
          by_cases hlt : k < 6
          · have hr := fun (X : Dk) (hX : Up 6 X) => hX.read (n := (k : Int)) (by omega) (by omega)
            go_wp2_with (fail)
            refine (own_read hO 4 rfl _).mono ?_
            rw [(hr D hF.d).1, (hr D hF.d).2.1]
            rintro e y1 ⟨v1, rfl, hb1, hO1, -, -⟩
            go_wp2_with (fail)
            refine (own_read hO1 2 rfl _).mono ?_
            rw [(hr A hF.a).1, (hr A hF.a).2.1]
            rintro e y2 ⟨v2, rfl, hb2, hO2, hk2, -⟩
            go_wp2_with (fail)
            refine (own_read hO2 0 rfl _).mono ?_
            rw [(hr S hF.s).1, (hr S hF.s).2.1]
            rintro e y3 ⟨v3, rfl, hb3, hO3, hk3, -⟩
            go_wp2_with (fail)
            refine (own_read hO3 1 rfl _).mono ?_
            rw [(hr N hF.n).1, (hr N hF.n).2.1]
            rintro e y4 ⟨v4, rfl, hb4, hO4, hk4, -⟩
            go_wp2_with (fail)
            refine (own_read hO4 3 rfl _).mono ?_
            rw [(hr E hF.e).1, (hr E hF.e).2.1]
            rintro e y5 ⟨v5, rfl, hb5, hO5, hk5, -⟩
            have hO5 : Owns w [disk s (S.read k), disk n (N.read k), disk a (A.read k), disk c (E.read k), disk b (D.read k)] y5 := hO5
            have hF5 : KeepF (D.read k) (A.read k) (N.read k) (S.read k) (E.read k) :=
              ⟨(hr D hF.d).2.2.1, (hr A hF.a).2.2.1, (hr N hF.n).2.2.1, (hr S hF.s).2.2.1, (hr E hF.e).2.2.1, by rw [(hr A hF.a).2.2.2.1, (hr D hF.d).2.2.2.1]; exact hF.da, by rw [(hr S hF.s).2.2.2.1, (hr D hF.d).2.2.2.1]; exact hF.ds,
                by rw [(hr N hF.n).2.2.2.1, (hr E hF.e).2.2.2.1]; exact hF.ne⟩
            have c1 := hb1.keep ((hk2.trans hk3).trans (hk4.trans hk5))
            have c2 := hb2.keep (hk3.trans (hk4.trans hk5))
            have c3 := hb3.keep (hk4.trans hk5)
            have c4 := hb4.keep hk5
            have q1 : decide (D.sec k = A.sec k) = true := by rw [decide_eq_true_iff]; exact (sec_last hF.da k).symm
            have q2 : decide (D.sec k = S.sec k) = true := by rw [decide_eq_true_iff]; exact (sec_last hF.ds k).symm
            have q3 : decide (N.sec k = E.sec k) = true := by rw [decide_eq_true_iff]; exact sec_last hF.ne k
            clear hO hO1 hO2 hO3 hO4 hb1 hb2 hb3 hb4 hk2 hk3 hk4 hk5 hr hF
            have HQ1 := Lib.hid q1
            have HQ2 := Lib.hid q2
            have HQ3 := Lib.hid q3
            clear q1 q2 q3
            go_wp2_with (fail)
            refine (own_returns hO5 (same_any c1.view c2.view)).mono ?_
            rw [HQ1.out]
            rintro e z1 ⟨rfl, hOz1, hz1⟩
            go_wp2_with (fail)
            refine (own_returns hOz1 (same_any (c1.keep hz1).view (c3.keep hz1).view)).mono ?_
            rw [HQ2.out]
            rintro e z2 ⟨rfl, hOz2, hz2⟩
            go_wp2_with (fail)
            refine (own_returns hOz2 (same_any ((c4.keep hz1).keep hz2).view ((hb5.keep hz1).keep hz2).view)).mono ?_
            rw [HQ3.out]
            rintro e z3 ⟨rfl, hOz3, -⟩
            clear hOz1 hOz2 hO5 c1 c2 c3 c4 hb5 hz1 hz2
            go_wp2_with (fail)
            go_roundw
            case rel => exact ⟨k + 1, _, _, _, _, _, by omega, by go_num, hF5, hOz3⟩
            case measure => simp [intOf]; omega
          · go_wp2_with (fail)
            go_ret
            exact ⟨rfl, hO.below⟩

end Go.Proofs.Ytkpoladbabhdmaa
