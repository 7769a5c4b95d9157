/- MetaPlays. Conditions: none. -/
import Derived.Test.YtkpoladbabhdmaaLaw8
import Derived.Test.YtkpoladbabhdmaaMeta13
namespace Go.Proofs.Ytkpoladbabhdmaa
open Go.RowKit

theorem u64_bounds (n : Int) : 0 ≤ IntKind.u64.wrap n ∧ IntKind.u64.wrap n ≤ 18446744073709551615 := by
  simp [IntKind.wrap, IntKind.signed, IntKind.bits]; omega

set_option maxRecDepth 100000 in
set_option maxHeartbeats 8000000 in
theorem mplays_walk (w : World) {s : Int} (s0 : 0 ≤ s) (s1 : s ≤ 255) {v : Value} {ops : List Op8} (hops : Ops8V w v ops) :
    Calls Try.prog 12 #[.int .u8 s, v] w (Returns (.bool true) (Below w.heap.size w)) := by
  have hnot : ∀ (x : Bool) (w : World), (Op.unary .not (.bool x)).run Try.prog w = .ok (.bool (!x)) w := fun _ _ => rfl
  have hmk := make256
  obtain ⟨oa, oc, rfl, hoc, hom⟩ := hops.shape
  have hob : ops.length ≤ 9223372036854775807 := by unfold maxLen at hom; omega
  have HO := Lib.hid hops
  clear hops hom hoc
  go_enter Try.func12, Try.ntmps12
  go_wp2_with (fail)
  refine (own_returns (Owns.none w) (awake8_any w)).mono ?_
  rintro e w1 ⟨rfl, hO1, -⟩
  have HO1 := Lib.hid hO1
  clear hO1
  go_wp2_with (fail)
  refine (few8_any (HO.out.upd HO1.out.mine)).mono ?_
  rintro e w' ⟨x, rfl, hx, rfl⟩
  cases x with
  | false =>
    clear hx
    go_wp2_with (fail)
    refine (own_returns HO1.out (awake8_any w1)).mono ?_
    rintro e w2 ⟨rfl, hO2, -⟩
    have HO2 := Lib.hid hO2
    clear hO2
    go_wp2_with (fail)
    go_ret
    exact ⟨rfl, HO2.out.below⟩
  | true =>
    have h40 : ops.length ≤ 40 := hx rfl
    clear hx
    go_wp2_with (fail)
    refine (own_new HO1.out (s % 5)).mono ?_
    rintro e w2 ⟨b, rfl, hO2, -⟩
    have HO2 := Lib.hid hO2
    clear hO2
    go_wp2_with (fail)
    refine (own_rnew HO2.out (s % 5)).mono ?_
    rintro e w3 ⟨c, rfl, hO3, -⟩
    have hO4 : Owns w [disk b (Dk.new (s % 5)), rdisk c (Dk.new (s % 5))] w3 := hO3.pick (fun i => if i = 0 then 1 else 0) (by intro i T h; match i, h with | 0, h => simpa using h | 1, h => simpa using h) (by intro i j hi hj h; simp at hi hj h; split at h <;> split at h <;> omega)
    have HO4 := Lib.hid hO4
    clear hO3 hO4
    go_wp2_with (fail)
    go_loopw [5, 6, 7] (fun s t i wr => ∃ (k b c : Nat) (D : Dk), k ≤ ops.length ∧ i = .int .i64 k ∧ s = .pointer (some ⟨b, 0, none⟩) ∧ t = .pointer (some ⟨c, 0, none⟩) ∧ D.all.length ≤ k ∧ Owns w [disk b D, rdisk c D] wr) (fun _ _ i _ => ops.length - (intOf i).toNat)
    case atStart => exact ⟨0, b, c, _, Nat.zero_le _, rfl, rfl, rfl, Nat.le_refl _, HO4.out⟩
    case round =>
      clear HO4 HO2 HO1
      obtain ⟨k, b, c, D, hk, rfl, rfl, rfl, hlen, hO⟩ := hrel
      by_cases hlt : k < ops.length
      · obtain ⟨o, ho⟩ : ∃ o, ops[k]? = some o := ⟨ops[k], List.getElem?_eq_getElem hlt⟩
        obtain ⟨g, off, ba, bc, ka, kc, rfl, hn, q0, q1, q2, q3, hbv, hkv, hbl, hkl, hgl⟩ := HO.out.at_ ho
        obtain ⟨kd, on, ob, okp⟩ := o
        dsimp only at q0 q1 q2 q3 hbv hkv hbl hkl hn
        have hblk := hO.1.block g hgl (by simp)
        rw [← World.cell?_of_block (w := w) (w' := wr) (a := ⟨g, off + k * 4, none⟩) hblk] at q0
        rw [← World.cell?_of_block (w := w) (w' := wr) (a := ⟨g, off + k * 4 + 1, none⟩) hblk] at q1
        rw [← World.cell?_of_block (w := w) (w' := wr) (a := ⟨g, off + k * 4 + 2, none⟩) hblk] at q2
        rw [← World.cell?_of_block (w := w) (w' := wr) (a := ⟨g, off + k * 4 + 3, none⟩) hblk] at q3
        have hbb : ob.length ≤ 9223372036854775807 := by unfold maxLen at hbl; omega
        have hkb : okp.length ≤ 9223372036854775807 := by unfold maxLen at hkl; omega
        have HLEN := Lib.hid hlen
        have HL1 : Hid (D.all.length + 1 < Big) := Lib.hid (by unfold Big; omega)
        have HL0 : Hid (D.all.length < Big) := Lib.hid (by unfold Big; omega)
        have hO5 := own_row_new hO #[.int .i64 kd, .int .i64 on, .slice ba ob.length bc, .slice ka okp.length kc] 74 (by decide)
        have HO5 := Lib.hid hO5
        have HBV := Lib.hid hbv
        have HKV := Lib.hid hkv
        have HN := Lib.hid hn
        have hcl : ∀ L w', Owns w (row wr.heap.size #[.int .i64 kd, .int .i64 on, .slice ba ob.length bc, .slice ka okp.length kc] 74 (by decide) :: L) w' →
            w'.cell? ⟨wr.heap.size, 1, none⟩ = some (.int .i64 on) ∧ w'.cell? ⟨wr.heap.size, 2, none⟩ = some (.slice ba ob.length bc) :=
          fun L w' h => ⟨cell_of_heap (own_row h 0 rfl) rfl, cell_of_heap (own_row h 0 rfl) rfl⟩
        have HCL := Lib.hid hcl
        clear hlen hO hO5 hbv hkv hn ho hblk hbl hkl hcl
        by_cases k1 : kd = 1
        · subst k1
          go_wp2_with (fail)

          generalize wr.alloc (.cells #[.int .i64 1, .int .i64 on, .slice ba ob.length bc, .slice ka okp.length kc] 74) = w5 at HO5 ⊢
          generalize wr.heap.size = r5 at HO5 HCL ⊢

          obtain ⟨G, hG⟩ : ∃ G, G = IntKind.u64.wrap on := ⟨_, rfl⟩
          have hgb := u64_bounds on
          rw [← hG] at hgb
          have hGG : IntKind.u64.wrap on = G := hG.symm
          obtain ⟨hg0, hg1⟩ := hgb
          have HOD := Lib.hid (HO5.out.upd (Upd.refl [] w5).drew)
          obtain ⟨c1, c2⟩ := HCL.out _ _ HO5.out
          have hl5 := lt_of_heap (own_row HO5.out 0 rfl)
          clear hG
          go_region_held3 (fun w' => w'.cell? ⟨r5, 1, none⟩ = some (.int .i64 on) ∧ w'.cell? ⟨r5, 2, none⟩ = some (.slice ba ob.length bc)) (first | exact ⟨c1, c2⟩ | exact HCL.out _ _ (by assumption))
            (first | (go_at_call 37; refine (own_save HOD.out 1 rfl (BytesV.lasting HBV.out) (G := G) hg0 (by omega) HL1.out).mono ?_; rintro e w6 ⟨rfl, hO6, hk6⟩; have hO6 : Owns w [row r5 #[.int .i64 1, .int .i64 on, .slice ba ob.length bc, .slice ka okp.length kc] 74 (by decide), disk b (D.saved G ob), rdisk c D] w6 := hO6) | (go_at_call 41; refine (own_rsave hO6 2 rfl (BytesV.lasting HBV.out) (G := G) hg0 hg1 HL1.out).mono ?_; rintro e w7 ⟨rfl, hO7, hk7⟩; have hO7 : Owns w [row r5 #[.int .i64 1, .int .i64 on, .slice ba ob.length bc, .slice ka okp.length kc] 74 (by decide), disk b (D.saved G ob), rdisk c (D.saved G ob)] w7 := hO7))
          obtain ⟨D5, hD5⟩ : ∃ D5, D5 = D.saved G ob := ⟨_, rfl⟩
          have hl5' := Dk.saved_len D G ob
          rw [← hD5] at hO7 hl5'
          obtain ⟨b5, hb5⟩ : ∃ b5, b5 = b := ⟨_, rfl⟩
          obtain ⟨c5, hc5⟩ : ∃ c5, c5 = c := ⟨_, rfl⟩
          have hOT : Owns w [disk b5 D5, rdisk c5 D5] w7 := by rw [hb5, hc5]; exact hO7.pick (fun i => i + 1) (by intro i T h; simpa using h) (by intro i j _ _ h; omega)
          have HOT := Lib.hid hOT
          have HL5 : Hid (D5.all.length ≤ k + 1) := Lib.hid (by have := HLEN.out; omega)
          subst hb5
          subst hc5
          clear hO6 hk6 hO7 hk7 hD5 hl5' hOT c1 c2 hGG hmk hl5

          go_wp2_with (fail)
          refine (own_open HOT.out 0 rfl).mono ?_
          obtain ⟨E, hE⟩ : ∃ E, E = D5.openE := ⟨_, rfl⟩
          obtain ⟨GH, PH, hH⟩ : ∃ GH PH, D5.openH = (GH, PH) := ⟨_, _, rfl⟩
          rw [← hE, hH]
          rintro e wo ⟨vo, rfl, ⟨xo, rfl, hbo, hio⟩, hOo, -⟩
          obtain ⟨ao, co, rfl, _, _⟩ := hbo.shape
          have hOA := own_row_new hOo #[.int .u64 GH, .slice ao PH.length co] 60 (by decide)
          have HBO := Lib.hid (hbo.keep hio (((Upd.refl [] wo).alloc (.cells #[.int .u64 GH, .slice ao PH.length co] 60)).keeps))
          have HIO := Lib.hid (hio.keep (((Upd.refl [] wo).alloc (.cells #[.int .u64 GH, .slice ao PH.length co] 60)).keeps))
          have HOA : Hid (Owns w [row wo.heap.size #[.int .u64 GH, .slice ao PH.length co] 60 (by decide), disk b5 D5.opened, rdisk c5 D5] (wo.alloc (.cells #[.int .u64 GH, .slice ao PH.length co] 60))) := Lib.hid hOA
          have HE := Lib.hid hE
          have HH := Lib.hid hH
          clear hbo hio hOo hOA hE hH
          go_wp2_with (fail)
          generalize wo.alloc (.cells #[.int .u64 GH, .slice ao PH.length co] 60) = wp at HOA HBO HIO ⊢
          generalize wo.heap.size = r6 at HOA ⊢
          refine (own_ropen HOA.out 2 rfl).mono ?_
          rw [← HE.out, HH.out]
          rintro e wq ⟨vq, rfl, ⟨xq, rfl, hbq, hiq⟩, hOq, hkq⟩
          obtain ⟨aq, cq, rfl, _, _⟩ := hbq.shape
          have hu := ((Upd.refl [] wq).alloc (.cells #[.int .u64 GH, .slice aq PH.length cq] 68))
          have HBO2 := Lib.hid ((HBO.out.keep HIO.out hkq).upd hu (by simp))
          have HBQ := Lib.hid (hbq.upd hu (by simp))
          have c60 := cell_of_heap (own_row hOq 0 rfl) (o := 0) rfl
          have c61 := cell_of_heap (own_row hOq 0 rfl) (o := 1) rfl
          have hl6 := lt_of_heap (own_row hOq 0 rfl)
          have HOB : Hid (Owns w [row r6 #[.int .u64 GH, .slice ao PH.length co] 60 (by decide), disk b5 D5.opened, rdisk c5 D5.opened] (wq.alloc (.cells #[.int .u64 GH, .slice aq PH.length cq] 68))) := Lib.hid (hOq.upd hu)
          clear hu hbq hiq hOq hkq
          go_wp2_with (fail)
          generalize wq.alloc (.cells #[.int .u64 GH, .slice aq PH.length cq] 68) = ws at HOB HBO2 HBQ ⊢
          refine (own_returns HOB.out (same8_any HBO2.out HBQ.out)).mono ?_
          rw [decide_eq_true (Eq.refl (GH, PH))]
          rintro e wt ⟨rfl, hOt, -⟩
          have HOt := Lib.hid hOt
          clear hOt c60 c61
          go_wp2_with (fail)
          refine (own_pending HOt.out 1 rfl).mono ?_
          rintro e w' ⟨rfl, rfl⟩
          go_wp2_with (fail)
          refine (own_rpending HOt.out 2 rfl).mono ?_
          rintro e w' ⟨rfl, rfl⟩
          have HOu : Hid (Owns w [disk b5 D5.opened, rdisk c5 D5.opened] wt.drew) := Lib.hid ((HOt.out.upd (Upd.refl [] wt).drew).pick (fun i => i + 1) (by intro i T h; simpa using h) (by intro i j _ _ h; omega))
          have HL6 : Hid (D5.opened.all.length ≤ k + 1) := Lib.hid (by rw [Dk.opened_len]; exact HL5.out)
          go_wp2_with (fail)
          go_roundw
          case rel => exact ⟨k + 1, b5, c5, D5.opened, by omega, by go_num, rfl, rfl, HL6.out, HOu.out⟩
          case measure => simp only [intOf]; omega
        by_cases k2 : kd = 2
        · subst k2
          go_wp2_with (fail)

          generalize wr.alloc (.cells #[.int .i64 2, .int .i64 on, .slice ba ob.length bc, .slice ka okp.length kc] 74) = w5 at HO5 ⊢
          generalize wr.heap.size = r5 at HO5 HCL ⊢

          obtain ⟨hn0, hn1⟩ := HN.out
          refine (own_setFuse HO5.out 1 rfl on hn1).mono ?_
          rintro e w6 ⟨rfl, hO6, -⟩
          have hO6 : Owns w [row r5 #[.int .i64 2, .int .i64 on, .slice ba ob.length bc, .slice ka okp.length kc] 74 (by decide), disk b (D.fused on), rdisk c D] w6 := hO6
          obtain ⟨-, f3, -, -, -, -, z3, hlc⟩ := own_rfields hO6 2 rfl
          obtain ⟨c1, c2⟩ := HCL.out _ _ hO6
          have hl5 := lt_of_heap (own_row hO6 0 rfl)
          have hfu := own_rfuse hO6 2 rfl on hn1
          obtain ⟨D5, hD5⟩ : ∃ D5, D5 = D.fused on := ⟨_, rfl⟩
          have HL5 : Hid (D5.all.length ≤ k + 1) := Lib.hid (by rw [hD5]; have := HLEN.out; show D.all.length ≤ k + 1; omega)
          obtain ⟨b5, hb5⟩ : ∃ b5, b5 = b := ⟨_, rfl⟩
          obtain ⟨c5, hc5⟩ : ∃ c5, c5 = c := ⟨_, rfl⟩
          have hFU : Owns w [row r5 #[.int .i64 2, .int .i64 on, .slice ba ob.length bc, .slice ka okp.length kc] 74 (by decide), disk b5 D5, rdisk c5 D5] (w6.setCell ⟨c, 3, none⟩ (.int .i64 (max on (-1)))) := by rw [hD5, hb5, hc5]; exact hfu
          have hFU : Owns w [disk b5 D5, rdisk c5 D5] (w6.setCell ⟨c, 3, none⟩ (.int .i64 (max on (-1)))) := hFU.pick (fun i => i + 1) (by intro i T h; simpa using h) (by intro i j _ _ h; omega)
          subst hb5
          subst hc5
          clear hO6 hfu hD5 hmk
          by_cases hneg : on < -1
          · rw [show max on (-1) = -1 by omega] at hFU
            have HOT := Lib.hid hFU
            clear hFU
            go_wp2_with (fail)
            refine (own_open HOT.out 0 rfl).mono ?_
            obtain ⟨E, hE⟩ : ∃ E, E = D5.openE := ⟨_, rfl⟩
            obtain ⟨GH, PH, hH⟩ : ∃ GH PH, D5.openH = (GH, PH) := ⟨_, _, rfl⟩
            rw [← hE, hH]
            rintro e wo ⟨vo, rfl, ⟨xo, rfl, hbo, hio⟩, hOo, -⟩
            obtain ⟨ao, co, rfl, _, _⟩ := hbo.shape
            have hOA := own_row_new hOo #[.int .u64 GH, .slice ao PH.length co] 60 (by decide)
            have HBO := Lib.hid (hbo.keep hio (((Upd.refl [] wo).alloc (.cells #[.int .u64 GH, .slice ao PH.length co] 60)).keeps))
            have HIO := Lib.hid (hio.keep (((Upd.refl [] wo).alloc (.cells #[.int .u64 GH, .slice ao PH.length co] 60)).keeps))
            have HOA : Hid (Owns w [row wo.heap.size #[.int .u64 GH, .slice ao PH.length co] 60 (by decide), disk b5 D5.opened, rdisk c5 D5] (wo.alloc (.cells #[.int .u64 GH, .slice ao PH.length co] 60))) := Lib.hid hOA
            have HE := Lib.hid hE
            have HH := Lib.hid hH
            clear hbo hio hOo hOA hE hH
            go_wp2_with (fail)
            generalize wo.alloc (.cells #[.int .u64 GH, .slice ao PH.length co] 60) = wp at HOA HBO HIO ⊢
            generalize wo.heap.size = r6 at HOA ⊢
            refine (own_ropen HOA.out 2 rfl).mono ?_
            rw [← HE.out, HH.out]
            rintro e wq ⟨vq, rfl, ⟨xq, rfl, hbq, hiq⟩, hOq, hkq⟩
            obtain ⟨aq, cq, rfl, _, _⟩ := hbq.shape
            have hu := ((Upd.refl [] wq).alloc (.cells #[.int .u64 GH, .slice aq PH.length cq] 68))
            have HBO2 := Lib.hid ((HBO.out.keep HIO.out hkq).upd hu (by simp))
            have HBQ := Lib.hid (hbq.upd hu (by simp))
            have c60 := cell_of_heap (own_row hOq 0 rfl) (o := 0) rfl
            have c61 := cell_of_heap (own_row hOq 0 rfl) (o := 1) rfl
            have hl6 := lt_of_heap (own_row hOq 0 rfl)
            have HOB : Hid (Owns w [row r6 #[.int .u64 GH, .slice ao PH.length co] 60 (by decide), disk b5 D5.opened, rdisk c5 D5.opened] (wq.alloc (.cells #[.int .u64 GH, .slice aq PH.length cq] 68))) := Lib.hid (hOq.upd hu)
            clear hu hbq hiq hOq hkq
            go_wp2_with (fail)
            generalize wq.alloc (.cells #[.int .u64 GH, .slice aq PH.length cq] 68) = ws at HOB HBO2 HBQ ⊢
            refine (own_returns HOB.out (same8_any HBO2.out HBQ.out)).mono ?_
            rw [decide_eq_true (Eq.refl (GH, PH))]
            rintro e wt ⟨rfl, hOt, -⟩
            have HOt := Lib.hid hOt
            clear hOt c60 c61
            go_wp2_with (fail)
            refine (own_pending HOt.out 1 rfl).mono ?_
            rintro e w' ⟨rfl, rfl⟩
            go_wp2_with (fail)
            refine (own_rpending HOt.out 2 rfl).mono ?_
            rintro e w' ⟨rfl, rfl⟩
            have HOu : Hid (Owns w [disk b5 D5.opened, rdisk c5 D5.opened] wt.drew) := Lib.hid ((HOt.out.upd (Upd.refl [] wt).drew).pick (fun i => i + 1) (by intro i T h; simpa using h) (by intro i j _ _ h; omega))
            have HL6 : Hid (D5.opened.all.length ≤ k + 1) := Lib.hid (by rw [Dk.opened_len]; exact HL5.out)
            go_wp2_with (fail)
            go_roundw
            case rel => exact ⟨k + 1, b5, c5, D5.opened, by omega, by go_num, rfl, rfl, HL6.out, HOu.out⟩
            case measure => simp only [intOf]; omega

          · rw [show max on (-1) = on by omega] at hFU
            have HOT := Lib.hid hFU
            clear hFU
            go_wp2_with (fail)
            refine (own_open HOT.out 0 rfl).mono ?_
            obtain ⟨E, hE⟩ : ∃ E, E = D5.openE := ⟨_, rfl⟩
            obtain ⟨GH, PH, hH⟩ : ∃ GH PH, D5.openH = (GH, PH) := ⟨_, _, rfl⟩
            rw [← hE, hH]
            rintro e wo ⟨vo, rfl, ⟨xo, rfl, hbo, hio⟩, hOo, -⟩
            obtain ⟨ao, co, rfl, _, _⟩ := hbo.shape
            have hOA := own_row_new hOo #[.int .u64 GH, .slice ao PH.length co] 60 (by decide)
            have HBO := Lib.hid (hbo.keep hio (((Upd.refl [] wo).alloc (.cells #[.int .u64 GH, .slice ao PH.length co] 60)).keeps))
            have HIO := Lib.hid (hio.keep (((Upd.refl [] wo).alloc (.cells #[.int .u64 GH, .slice ao PH.length co] 60)).keeps))
            have HOA : Hid (Owns w [row wo.heap.size #[.int .u64 GH, .slice ao PH.length co] 60 (by decide), disk b5 D5.opened, rdisk c5 D5] (wo.alloc (.cells #[.int .u64 GH, .slice ao PH.length co] 60))) := Lib.hid hOA
            have HE := Lib.hid hE
            have HH := Lib.hid hH
            clear hbo hio hOo hOA hE hH
            go_wp2_with (fail)
            generalize wo.alloc (.cells #[.int .u64 GH, .slice ao PH.length co] 60) = wp at HOA HBO HIO ⊢
            generalize wo.heap.size = r6 at HOA ⊢
            refine (own_ropen HOA.out 2 rfl).mono ?_
            rw [← HE.out, HH.out]
            rintro e wq ⟨vq, rfl, ⟨xq, rfl, hbq, hiq⟩, hOq, hkq⟩
            obtain ⟨aq, cq, rfl, _, _⟩ := hbq.shape
            have hu := ((Upd.refl [] wq).alloc (.cells #[.int .u64 GH, .slice aq PH.length cq] 68))
            have HBO2 := Lib.hid ((HBO.out.keep HIO.out hkq).upd hu (by simp))
            have HBQ := Lib.hid (hbq.upd hu (by simp))
            have c60 := cell_of_heap (own_row hOq 0 rfl) (o := 0) rfl
            have c61 := cell_of_heap (own_row hOq 0 rfl) (o := 1) rfl
            have hl6 := lt_of_heap (own_row hOq 0 rfl)
            have HOB : Hid (Owns w [row r6 #[.int .u64 GH, .slice ao PH.length co] 60 (by decide), disk b5 D5.opened, rdisk c5 D5.opened] (wq.alloc (.cells #[.int .u64 GH, .slice aq PH.length cq] 68))) := Lib.hid (hOq.upd hu)
            clear hu hbq hiq hOq hkq
            go_wp2_with (fail)
            generalize wq.alloc (.cells #[.int .u64 GH, .slice aq PH.length cq] 68) = ws at HOB HBO2 HBQ ⊢
            refine (own_returns HOB.out (same8_any HBO2.out HBQ.out)).mono ?_
            rw [decide_eq_true (Eq.refl (GH, PH))]
            rintro e wt ⟨rfl, hOt, -⟩
            have HOt := Lib.hid hOt
            clear hOt c60 c61
            go_wp2_with (fail)
            refine (own_pending HOt.out 1 rfl).mono ?_
            rintro e w' ⟨rfl, rfl⟩
            go_wp2_with (fail)
            refine (own_rpending HOt.out 2 rfl).mono ?_
            rintro e w' ⟨rfl, rfl⟩
            have HOu : Hid (Owns w [disk b5 D5.opened, rdisk c5 D5.opened] wt.drew) := Lib.hid ((HOt.out.upd (Upd.refl [] wt).drew).pick (fun i => i + 1) (by intro i T h; simpa using h) (by intro i j _ _ h; omega))
            have HL6 : Hid (D5.opened.all.length ≤ k + 1) := Lib.hid (by rw [Dk.opened_len]; exact HL5.out)
            go_wp2_with (fail)
            go_roundw
            case rel => exact ⟨k + 1, b5, c5, D5.opened, by omega, by go_num, rfl, rfl, HL6.out, HOu.out⟩
            case measure => simp only [intOf]; omega
        by_cases k3 : kd = 3
        · subst k3
          go_wp2_with (fail)

          generalize wr.alloc (.cells #[.int .i64 3, .int .i64 on, .slice ba ob.length bc, .slice ka okp.length kc] 74) = w5 at HO5 ⊢
          generalize wr.heap.size = r5 at HO5 HCL ⊢

          refine (own_cut HO5.out 1 rfl (HKV.out.upd HO5.out.mine (by simp)) HL0.out).mono ?_
          rintro e w6 ⟨b5, rfl, hO6, -⟩
          have c3 := cell_of_heap (own_row hO6 1 rfl) (o := 3) rfl
          have hl5 := lt_of_heap (own_row hO6 1 rfl)
          have HO6 := Lib.hid hO6
          clear hO6
          go_wp2_with (fail)
          refine (own_rcut HO6.out 3 rfl (HKV.out.upd HO6.out.mine (by simp)) HL0.out).mono ?_
          rintro e w7 ⟨c5, rfl, hO7, -⟩
          have hOT : Owns w [disk b5 (D.cut okp), rdisk c5 (D.cut okp)] w7 := hO7.pick (fun i => if i = 0 then 1 else 0) (by intro i T h; match i, h with | 0, h => simpa using h | 1, h => simpa using h) (by intro i j hi hj h; simp at hi hj h; split at h <;> split at h <;> omega)
          obtain ⟨D5, hD5⟩ : ∃ D5, D5 = D.cut okp := ⟨_, rfl⟩
          have hl5' := Dk.cut_len D okp
          rw [← hD5] at hOT hl5'
          have HOT := Lib.hid hOT
          have HL5 : Hid (D5.all.length ≤ k + 1) := Lib.hid (by have := HLEN.out; omega)
          clear hO7 hD5 hl5' hOT c3 hmk hl5

          go_wp2_with (fail)
          refine (own_open HOT.out 0 rfl).mono ?_
          obtain ⟨E, hE⟩ : ∃ E, E = D5.openE := ⟨_, rfl⟩
          obtain ⟨GH, PH, hH⟩ : ∃ GH PH, D5.openH = (GH, PH) := ⟨_, _, rfl⟩
          rw [← hE, hH]
          rintro e wo ⟨vo, rfl, ⟨xo, rfl, hbo, hio⟩, hOo, -⟩
          obtain ⟨ao, co, rfl, _, _⟩ := hbo.shape
          have hOA := own_row_new hOo #[.int .u64 GH, .slice ao PH.length co] 60 (by decide)
          have HBO := Lib.hid (hbo.keep hio (((Upd.refl [] wo).alloc (.cells #[.int .u64 GH, .slice ao PH.length co] 60)).keeps))
          have HIO := Lib.hid (hio.keep (((Upd.refl [] wo).alloc (.cells #[.int .u64 GH, .slice ao PH.length co] 60)).keeps))
          have HOA : Hid (Owns w [row wo.heap.size #[.int .u64 GH, .slice ao PH.length co] 60 (by decide), disk b5 D5.opened, rdisk c5 D5] (wo.alloc (.cells #[.int .u64 GH, .slice ao PH.length co] 60))) := Lib.hid hOA
          have HE := Lib.hid hE
          have HH := Lib.hid hH
          clear hbo hio hOo hOA hE hH
          go_wp2_with (fail)
          generalize wo.alloc (.cells #[.int .u64 GH, .slice ao PH.length co] 60) = wp at HOA HBO HIO ⊢
          generalize wo.heap.size = r6 at HOA ⊢
          refine (own_ropen HOA.out 2 rfl).mono ?_
          rw [← HE.out, HH.out]
          rintro e wq ⟨vq, rfl, ⟨xq, rfl, hbq, hiq⟩, hOq, hkq⟩
          obtain ⟨aq, cq, rfl, _, _⟩ := hbq.shape
          have hu := ((Upd.refl [] wq).alloc (.cells #[.int .u64 GH, .slice aq PH.length cq] 68))
          have HBO2 := Lib.hid ((HBO.out.keep HIO.out hkq).upd hu (by simp))
          have HBQ := Lib.hid (hbq.upd hu (by simp))
          have c60 := cell_of_heap (own_row hOq 0 rfl) (o := 0) rfl
          have c61 := cell_of_heap (own_row hOq 0 rfl) (o := 1) rfl
          have hl6 := lt_of_heap (own_row hOq 0 rfl)
          have HOB : Hid (Owns w [row r6 #[.int .u64 GH, .slice ao PH.length co] 60 (by decide), disk b5 D5.opened, rdisk c5 D5.opened] (wq.alloc (.cells #[.int .u64 GH, .slice aq PH.length cq] 68))) := Lib.hid (hOq.upd hu)
          clear hu hbq hiq hOq hkq
          go_wp2_with (fail)
          generalize wq.alloc (.cells #[.int .u64 GH, .slice aq PH.length cq] 68) = ws at HOB HBO2 HBQ ⊢
          refine (own_returns HOB.out (same8_any HBO2.out HBQ.out)).mono ?_
          rw [decide_eq_true (Eq.refl (GH, PH))]
          rintro e wt ⟨rfl, hOt, -⟩
          have HOt := Lib.hid hOt
          clear hOt c60 c61
          go_wp2_with (fail)
          refine (own_pending HOt.out 1 rfl).mono ?_
          rintro e w' ⟨rfl, rfl⟩
          go_wp2_with (fail)
          refine (own_rpending HOt.out 2 rfl).mono ?_
          rintro e w' ⟨rfl, rfl⟩
          have HOu : Hid (Owns w [disk b5 D5.opened, rdisk c5 D5.opened] wt.drew) := Lib.hid ((HOt.out.upd (Upd.refl [] wt).drew).pick (fun i => i + 1) (by intro i T h; simpa using h) (by intro i j _ _ h; omega))
          have HL6 : Hid (D5.opened.all.length ≤ k + 1) := Lib.hid (by rw [Dk.opened_len]; exact HL5.out)
          go_wp2_with (fail)
          go_roundw
          case rel => exact ⟨k + 1, b5, c5, D5.opened, by omega, by go_num, rfl, rfl, HL6.out, HOu.out⟩
          case measure => simp only [intOf]; omega
        by_cases k4 : kd = 4
        · subst k4
          have HU5 := Lib.hid ((Upd.refl [] _).alloc (.cells (bcells zeros) 5) : Upd [] (wr.alloc (.cells #[.int .i64 4, .int .i64 on, .slice ba ob.length bc, .slice ka okp.length kc] 74)) _)
          have HG5 := Lib.hid (heap_alloc_new' (wr.alloc (.cells #[.int .i64 4, .int .i64 on, .slice ba ob.length bc, .slice ka okp.length kc] 74)) (.cells (bcells zeros) 5))
          rw [size_alloc] at HG5
          have HBX := Lib.hid ((HBV.out.upd HO5.out.mine (by simp)).upd HU5.out (by simp))
          have hsz : (wr.alloc (.cells #[.int .i64 4, .int .i64 on, .slice ba ob.length bc, .slice ka okp.length kc] 74)).heap.size = wr.heap.size + 1 := size_alloc _ _
          have HSZ := Lib.hid hsz
          clear hsz
          go_wp2_with (with_reducible refine wpList_pad rfl (.tmp 86) (.tmp 88) rfl HU5.out HG5.out (by rw [HSZ.out]; exact Nat.le_refl _) HBX.out rfl rfl ?_)
          intro w6 hb6 hu6
          have hO6 := HO5.out.upd hu6

          generalize wr.heap.size = r5 at hb6 hO6 HCL ⊢

          have HOD := Lib.hid (hO6.upd (Upd.refl [] w6).drew)
          have HB6 := Lib.hid (hb6.upd (Upd.refl [] w6).drew)
          obtain ⟨c1, c2⟩ := HCL.out _ _ hO6
          have hl5 := lt_of_heap (own_row hO6 0 rfl)
          clear hO6 hb6 hu6
          go_wp2_with (fail)
          go_region_held3 (fun w' => w'.cell? ⟨r5, 1, none⟩ = some (.int .i64 on) ∧ w'.cell? ⟨r5, 2, none⟩ = some (.slice ba ob.length bc)) (first | exact ⟨c1, c2⟩ | exact HCL.out _ _ (by assumption))
            (first | (go_at_call 22; refine (own_write HOD.out 1 rfl HB6.out HL0.out).mono ?_; rintro e w7 ⟨rfl, hO7, hk7⟩; have hO7 : Owns w [row r5 #[.int .i64 4, .int .i64 on, .slice ba ob.length bc, .slice ka okp.length kc] 74 (by decide), disk b (D.write on (padded ob)), rdisk c D] w7 := hO7) | (go_at_call 43; refine (own_rwrite hO7 2 rfl (HB6.out.keep hk7) HL0.out).mono ?_; rintro e w8 ⟨rfl, hO8, hk8⟩; have hO8 : Owns w [row r5 #[.int .i64 4, .int .i64 on, .slice ba ob.length bc, .slice ka okp.length kc] 74 (by decide), disk b (D.write on (padded ob)), rdisk c (D.write on (padded ob))] w8 := hO8))
          obtain ⟨D5, hD5⟩ : ∃ D5, D5 = D.write on (padded ob) := ⟨_, rfl⟩
          have hl5' := Dk.write_len D on (padded ob)
          rw [← hD5] at hO8 hl5'
          obtain ⟨b5, hb5⟩ : ∃ b5, b5 = b := ⟨_, rfl⟩
          obtain ⟨c5, hc5⟩ : ∃ c5, c5 = c := ⟨_, rfl⟩
          have hOT : Owns w [disk b5 D5, rdisk c5 D5] w8 := by rw [hb5, hc5]; exact hO8.pick (fun i => i + 1) (by intro i T h; simpa using h) (by intro i j _ _ h; omega)
          have HOT := Lib.hid hOT
          have HL5 : Hid (D5.all.length ≤ k + 1) := Lib.hid (by have := HLEN.out; omega)
          subst hb5
          subst hc5
          clear hO7 hk7 hO8 hk8 hD5 hl5' hOT c1 c2 hl5
          clear hmk

          go_wp2_with (fail)
          refine (own_open HOT.out 0 rfl).mono ?_
          obtain ⟨E, hE⟩ : ∃ E, E = D5.openE := ⟨_, rfl⟩
          obtain ⟨GH, PH, hH⟩ : ∃ GH PH, D5.openH = (GH, PH) := ⟨_, _, rfl⟩
          rw [← hE, hH]
          rintro e wo ⟨vo, rfl, ⟨xo, rfl, hbo, hio⟩, hOo, -⟩
          obtain ⟨ao, co, rfl, _, _⟩ := hbo.shape
          have hOA := own_row_new hOo #[.int .u64 GH, .slice ao PH.length co] 60 (by decide)
          have HBO := Lib.hid (hbo.keep hio (((Upd.refl [] wo).alloc (.cells #[.int .u64 GH, .slice ao PH.length co] 60)).keeps))
          have HIO := Lib.hid (hio.keep (((Upd.refl [] wo).alloc (.cells #[.int .u64 GH, .slice ao PH.length co] 60)).keeps))
          have HOA : Hid (Owns w [row wo.heap.size #[.int .u64 GH, .slice ao PH.length co] 60 (by decide), disk b5 D5.opened, rdisk c5 D5] (wo.alloc (.cells #[.int .u64 GH, .slice ao PH.length co] 60))) := Lib.hid hOA
          have HE := Lib.hid hE
          have HH := Lib.hid hH
          clear hbo hio hOo hOA hE hH
          go_wp2_with (fail)
          generalize wo.alloc (.cells #[.int .u64 GH, .slice ao PH.length co] 60) = wp at HOA HBO HIO ⊢
          generalize wo.heap.size = r6 at HOA ⊢
          refine (own_ropen HOA.out 2 rfl).mono ?_
          rw [← HE.out, HH.out]
          rintro e wq ⟨vq, rfl, ⟨xq, rfl, hbq, hiq⟩, hOq, hkq⟩
          obtain ⟨aq, cq, rfl, _, _⟩ := hbq.shape
          have hu := ((Upd.refl [] wq).alloc (.cells #[.int .u64 GH, .slice aq PH.length cq] 68))
          have HBO2 := Lib.hid ((HBO.out.keep HIO.out hkq).upd hu (by simp))
          have HBQ := Lib.hid (hbq.upd hu (by simp))
          have c60 := cell_of_heap (own_row hOq 0 rfl) (o := 0) rfl
          have c61 := cell_of_heap (own_row hOq 0 rfl) (o := 1) rfl
          have hl6 := lt_of_heap (own_row hOq 0 rfl)
          have HOB : Hid (Owns w [row r6 #[.int .u64 GH, .slice ao PH.length co] 60 (by decide), disk b5 D5.opened, rdisk c5 D5.opened] (wq.alloc (.cells #[.int .u64 GH, .slice aq PH.length cq] 68))) := Lib.hid (hOq.upd hu)
          clear hu hbq hiq hOq hkq
          go_wp2_with (fail)
          generalize wq.alloc (.cells #[.int .u64 GH, .slice aq PH.length cq] 68) = ws at HOB HBO2 HBQ ⊢
          refine (own_returns HOB.out (same8_any HBO2.out HBQ.out)).mono ?_
          rw [decide_eq_true (Eq.refl (GH, PH))]
          rintro e wt ⟨rfl, hOt, -⟩
          have HOt := Lib.hid hOt
          clear hOt c60 c61
          go_wp2_with (fail)
          refine (own_pending HOt.out 1 rfl).mono ?_
          rintro e w' ⟨rfl, rfl⟩
          go_wp2_with (fail)
          refine (own_rpending HOt.out 2 rfl).mono ?_
          rintro e w' ⟨rfl, rfl⟩
          have HOu : Hid (Owns w [disk b5 D5.opened, rdisk c5 D5.opened] wt.drew) := Lib.hid ((HOt.out.upd (Upd.refl [] wt).drew).pick (fun i => i + 1) (by intro i T h; simpa using h) (by intro i j _ _ h; omega))
          have HL6 : Hid (D5.opened.all.length ≤ k + 1) := Lib.hid (by rw [Dk.opened_len]; exact HL5.out)
          go_wp2_with (fail)
          go_roundw
          case rel => exact ⟨k + 1, b5, c5, D5.opened, by omega, by go_num, rfl, rfl, HL6.out, HOu.out⟩
          case measure => simp only [intOf]; omega
        have e1 : (kd == 1) = false := by simpa using k1
        have e2 : (kd == 2) = false := by simpa using k2
        have e3 : (kd == 3) = false := by simpa using k3
        have e4 : (kd == 4) = false := by simpa using k4
        obtain ⟨D5, hD5⟩ : ∃ D5, D5 = D := ⟨_, rfl⟩
        obtain ⟨b5, hb5⟩ : ∃ b5, b5 = b := ⟨_, rfl⟩
        obtain ⟨c5, hc5⟩ : ∃ c5, c5 = c := ⟨_, rfl⟩
        have hOT : Owns w [disk b5 D5, rdisk c5 D5] (wr.alloc (.cells #[.int .i64 kd, .int .i64 on, .slice ba ob.length bc, .slice ka okp.length kc] 74)) := by rw [hb5, hc5, hD5]; exact HO5.out.pick (fun i => i + 1) (by intro i T h; simpa using h) (by intro i j _ _ h; omega)
        have HOT := Lib.hid hOT
        have HL5 : Hid (D5.all.length ≤ k + 1) := Lib.hid (by rw [hD5]; have := HLEN.out; omega)
        subst hb5
        subst hc5
        subst hD5
        clear hOT hmk k1 k2 k3 k4

        go_wp2_with (fail)
        refine (own_open HOT.out 0 rfl).mono ?_
        obtain ⟨E, hE⟩ : ∃ E, E = D5.openE := ⟨_, rfl⟩
        obtain ⟨GH, PH, hH⟩ : ∃ GH PH, D5.openH = (GH, PH) := ⟨_, _, rfl⟩
        rw [← hE, hH]
        rintro e wo ⟨vo, rfl, ⟨xo, rfl, hbo, hio⟩, hOo, -⟩
        obtain ⟨ao, co, rfl, _, _⟩ := hbo.shape
        have hOA := own_row_new hOo #[.int .u64 GH, .slice ao PH.length co] 60 (by decide)
        have HBO := Lib.hid (hbo.keep hio (((Upd.refl [] wo).alloc (.cells #[.int .u64 GH, .slice ao PH.length co] 60)).keeps))
        have HIO := Lib.hid (hio.keep (((Upd.refl [] wo).alloc (.cells #[.int .u64 GH, .slice ao PH.length co] 60)).keeps))
        have HOA : Hid (Owns w [row wo.heap.size #[.int .u64 GH, .slice ao PH.length co] 60 (by decide), disk b5 D5.opened, rdisk c5 D5] (wo.alloc (.cells #[.int .u64 GH, .slice ao PH.length co] 60))) := Lib.hid hOA
        have HE := Lib.hid hE
        have HH := Lib.hid hH
        clear hbo hio hOo hOA hE hH
        go_wp2_with (fail)
        generalize wo.alloc (.cells #[.int .u64 GH, .slice ao PH.length co] 60) = wp at HOA HBO HIO ⊢
        generalize wo.heap.size = r6 at HOA ⊢
        refine (own_ropen HOA.out 2 rfl).mono ?_
        rw [← HE.out, HH.out]
        rintro e wq ⟨vq, rfl, ⟨xq, rfl, hbq, hiq⟩, hOq, hkq⟩
        obtain ⟨aq, cq, rfl, _, _⟩ := hbq.shape
        have hu := ((Upd.refl [] wq).alloc (.cells #[.int .u64 GH, .slice aq PH.length cq] 68))
        have HBO2 := Lib.hid ((HBO.out.keep HIO.out hkq).upd hu (by simp))
        have HBQ := Lib.hid (hbq.upd hu (by simp))
        have c60 := cell_of_heap (own_row hOq 0 rfl) (o := 0) rfl
        have c61 := cell_of_heap (own_row hOq 0 rfl) (o := 1) rfl
        have hl6 := lt_of_heap (own_row hOq 0 rfl)
        have HOB : Hid (Owns w [row r6 #[.int .u64 GH, .slice ao PH.length co] 60 (by decide), disk b5 D5.opened, rdisk c5 D5.opened] (wq.alloc (.cells #[.int .u64 GH, .slice aq PH.length cq] 68))) := Lib.hid (hOq.upd hu)
        clear hu hbq hiq hOq hkq
        go_wp2_with (fail)
        generalize wq.alloc (.cells #[.int .u64 GH, .slice aq PH.length cq] 68) = ws at HOB HBO2 HBQ ⊢
        refine (own_returns HOB.out (same8_any HBO2.out HBQ.out)).mono ?_
        rw [decide_eq_true (Eq.refl (GH, PH))]
        rintro e wt ⟨rfl, hOt, -⟩
        have HOt := Lib.hid hOt
        clear hOt c60 c61
        go_wp2_with (fail)
        refine (own_pending HOt.out 1 rfl).mono ?_
        rintro e w' ⟨rfl, rfl⟩
        go_wp2_with (fail)
        refine (own_rpending HOt.out 2 rfl).mono ?_
        rintro e w' ⟨rfl, rfl⟩
        have HOu : Hid (Owns w [disk b5 D5.opened, rdisk c5 D5.opened] wt.drew) := Lib.hid ((HOt.out.upd (Upd.refl [] wt).drew).pick (fun i => i + 1) (by intro i T h; simpa using h) (by intro i j _ _ h; omega))
        have HL6 : Hid (D5.opened.all.length ≤ k + 1) := Lib.hid (by rw [Dk.opened_len]; exact HL5.out)
        go_wp2_with (fail)
        go_roundw
        case rel => exact ⟨k + 1, b5, c5, D5.opened, by omega, by go_num, rfl, rfl, HL6.out, HOu.out⟩
        case measure => simp only [intOf]; omega
      · obtain rfl : k = ops.length := by omega
        have HB := Lib.hid hO.below
        clear hO hlen
        go_wp2_with (fail)
        go_ret
        exact ⟨rfl, HB.out⟩

end Go.Proofs.Ytkpoladbabhdmaa
