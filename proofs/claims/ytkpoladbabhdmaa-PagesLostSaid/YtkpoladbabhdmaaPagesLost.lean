/- PagesLost. Conditions: none. -/
import Derived.Test.YtkpoladbabhdmaaPg14
import Derived.Test.YtkpoladbabhdmaaPgN
import Derived.Test.YtkpoladbabhdmaaPgP
import Derived.Test.YtkpoladbabhdmaaLaw10
import Derived.Deep.RegionHeld3
namespace Go.Proofs.Ytkpoladbabhdmaa
open Go.RowKit

theorem over_alloc {C : PC} {S S' : PS} {n en : Int} (hr : AllocR C S S' n en) (h : S.over = true) : en = 7 := by
  rcases hr with ⟨_, _, _, h1⟩ | ⟨h0, _⟩ | ⟨h0, _⟩
  · exact h1
  all_goals rw [h] at h0; cases h0
theorem over_puts {C : PC} {S S' : PS} {n en : Int} {b : Bytes} (hr : PutR C S S' n b en) (h : S.over = true) : en = 7 := by
  rcases hr with ⟨_, _, h1⟩ | ⟨h0, _⟩ | ⟨h0, _⟩
  · exact h1
  all_goals rw [h] at h0; cases h0
theorem over_gets {C : PC} {S S' : PS} {n en : Int} {b : Bytes} (hr : GetR C S S' n b en) (h : S.over = true) : en = 7 := by
  rcases hr with ⟨_, _, _, h1⟩ | ⟨h0, _⟩ | ⟨h0, _⟩
  · exact h1
  all_goals rw [h] at h0; cases h0
theorem over_frees {S S' : PS} {n en : Int} (hr : FreeR S S' n en) (h : S.over = true) : en = 7 := by
  rcases hr with ⟨_, _, h1⟩ | ⟨h0, _⟩ | ⟨h0, _⟩
  · exact h1
  all_goals rw [h] at h0; cases h0
theorem over_flush {C : PC} {S : PS} (h : S.over = true) : (S.flush C).2 = 7 := by unfold PS.flush; rw [h]; rfl

set_option maxRecDepth 100000 in
set_option maxHeartbeats 8000000 in
theorem plost_walk (w : World) {v : Value} {L : List Op10} (hv : Ops10V w v L) {fu : Int} (f0 : 0 ≤ fu) (f1 : fu ≤ 255) :
    Calls Try.prog 17 #[v, .int .u8 fu] w (Returns (.bool true) (Below w.heap.size w)) := by
  have hnot : ∀ (x : Bool) (w : World), (Op.unary .not (.bool x)).run Try.prog w = .ok (.bool (!x)) w := fun _ _ => rfl
  obtain ⟨va, vc, rfl, hvc, hvm⟩ := hv.shape
  have hvl : L.length ≤ 9223372036854775807 := by unfold maxLen at hvm; omega
  have HV := Lib.hid hv
  clear hv hvc hvm
  by_cases h60 : 60 < L.length
  · go_enter Try.func17, Try.ntmps17
    go_wp2_with (fail)
    refine (own_returns (Owns.none w) (awake10_any w)).mono ?_
    rintro e w1 ⟨rfl, hO1, -⟩
    have HO1 := Lib.hid hO1
    clear hO1
    go_wp2_with (fail)
    refine (own_returns HO1.out (awake10_any w1)).mono ?_
    rintro e w2 ⟨rfl, hO2, -⟩
    have HO2 := Lib.hid hO2
    clear hO2
    go_wp2_with (fail)
    go_ret
    exact ⟨rfl, HO2.out.below⟩
  · have hl60 : L.length ≤ 60 := by omega
    go_enter Try.func17, Try.ntmps17
    go_wp2_with (fail)
    refine (own_returns (Owns.none w) (awake10_any w)).mono ?_
    rintro e w1 ⟨rfl, hO1, -⟩
    have HO1 := Lib.hid hO1
    clear hO1
    go_wp2_with (fail)
    refine (own_new HO1.out 40).mono ?_
    rintro e w2 ⟨d, rfl, hO2, -⟩
    have hO3 := hO2.upd ((Upd.refl [] w2).alloc (.cells #[.int .i64 0, .int .i64 1, .int .i64 2] 3))
    have hk : KeepV (w2.alloc (.cells #[.int .i64 0, .int .i64 1, .int .i64 2] 3)) (.slice (some ⟨w2.heap.size, 0, none⟩) 3 3) [0, 1, 2] := by
      refine .inr ⟨w2.heap.size, 3, rfl, fun j y hj => ?_⟩
      match j, hj with
      | 0, hj => simp at hj; subst hj; exact cell_of_heap (heap_alloc_new' _ _) rfl
      | 1, hj => simp at hj; subst hj; exact cell_of_heap (heap_alloc_new' _ _) rfl
      | 2, hj => simp at hj; subst hj; exact cell_of_heap (heap_alloc_new' _ _) rfl
      | j + 3, hj => simp at hj
    have hop := own_popen (from_ := 0) (count := 10) (pool := 2) hO3 (by decide) (by decide) (by omega) hk (by simp) (by simp) (by
      intro j n hj
      match j, hj with
      | 0, hj => simp at hj; omega
      | 1, hj => simp at hj; omega
      | 2, hj => simp at hj; omega
      | j + 3, hj => simp at hj)
    have HOP := Lib.hid hop
    clear hO2 hO3 hk hop
    go_wp2_with (fail)
    refine HOP.out.mono ?_
    rintro e w3 ⟨C, us, hCd, hCf, hCp, rfl, hO, -⟩
    subst hCd
    have hsf := own_setFuse hO 4 rfl fu (by omega)
    have HSF := Lib.hid hsf
    clear hO hsf
    go_wp2_with (fail)
    refine HSF.out.mono ?_
    rintro e w4 ⟨rfl, hO4, -⟩
    have hO5 : Owns w (pth C ⟨(Dk.new 40).fused fu, keepIs 10 [0, 1, 2] 3, [], false⟩ us []) w4 := hO4
    have hI0 : LostI C ⟨(Dk.new 40).fused fu, keepIs 10 [0, 1, 2] 3, [], false⟩ := ⟨PW.new (by rw [hCf]; exact (by decide : ((0 : Nat) : Int) + 4 * 10 ≤ 40)) (show (40 : Int) ≤ 65536 by decide) (by omega) (by omega), rfl, rfl, hCf, fun h => by cases h⟩
    have HO5 := Lib.hid hO5
    have HI0 := Lib.hid hI0
    have HCP := Lib.hid hCp
    clear hO4 hO5 hI0 hCf hCp
    go_wp2_with (fail)
    go_loopw [8, 9] (fun o i wr => ∃ (k : Nat) (S : PS) (us : Value), k ≤ L.length ∧ i = .int .i64 (k : Int) ∧ o = .bool S.over ∧ LostI C S ∧ Owns w (pth C S us []) wr ∧ S.len ≤ 8 * k) (fun _ i _ => L.length - (intOf i).toNat)
    case atStart => exact ⟨0, _, us, Nat.zero_le _, rfl, rfl, HI0.out, HO5.out, Nat.le_refl _⟩
    case round =>
      clear HI0 HO5
      obtain ⟨k, S, us, hk, rfl, rfl, hI, hO, hln⟩ := hrel
      have hmine := hO.mine
      have hfl : S.fs.length ≤ 2 := by rw [← HCP.out]; exact hI.pw.full
      have hb12 : S.D.all.length + 4 * S.fs.length + 4 < Big := by
        have : S.D.all.length ≤ 8 * k := hln
        unfold Big; omega
      have HO := Lib.hid hO
      have HI := Lib.hid hI
      have HLN := Lib.hid hln
      have HB12 := Lib.hid hb12
      have HB4 : Hid (S.D.all.length + 4 < Big) := Lib.hid (by omega)
      have HF2 := Lib.hid hfl
      clear hI hO hln hb12 hfl
      by_cases hlt : k < L.length
      · obtain ⟨⟨kd, pn, pm⟩, hop⟩ : ∃ op, L[k]? = some op := ⟨L[k], List.getElem?_eq_getElem hlt⟩
        obtain ⟨g, off, rfl, hk1, hk2, hk3, x0, x1, x2⟩ := (HV.out.upd hmine).at_ hop
        have HOP := Lib.hid hop
        simp only at hk1 hk2 hk3 x0 x1 x2
        clear hop hmine
        by_cases k1 : kd = 1
        · subst k1
          have HAL := Lib.hid (own_alloc HO.out HI.out.pw HB4.out)
          go_wp2_with (fail)
          refine HAL.out.mono ?_
          rintro e w5 ⟨S', n5, en, ⟨rfl, ⟨us', hO5⟩, -⟩, hR⟩
          obtain ⟨hI5, hov5⟩ := HI.out.alloc hR
          have hln5 : S'.len ≤ S.len + 8 := Nat.le_trans (len_alloc hR) (by omega)
          have hoe := over_alloc hR
          clear hR HAL
          have HI5 := Lib.hid hI5
          have HOV5 := Lib.hid hov5
          have HO5 := Lib.hid hO5
          have HLN5 : Hid (S'.len ≤ 8 * (k + 1)) := Lib.hid (by have := HLN.out; omega)
          have hdn := own_down HO5.out 4 rfl
          clear hI5 hov5 hO5 hln5
          cases hov : S.over with
          | true =>
            have hen := hoe hov
            subst hen
            have hov5 : S'.over = true := HOV5.out
            rw [(HI5.out).down hov5] at hdn
            have HD := Lib.hid hdn
            have HV5 := Lib.hid hov5
            clear hdn hov hov5 hoe
            go_wp2_with (fail)
            refine HD.out.mono ?_
            rintro e w6 ⟨rfl, rfl⟩
            go_wp2_with (fail)
            go_roundw
            case rel => exact ⟨k + 1, S', us', by omega, by go_num, by rw [HV5.out], HI5.out, HO5.out, HLN5.out⟩
            case measure => simp only [intOf]; omega
          | false =>
            clear hoe
            by_cases h7 : en = 7
            · subst h7
              have hov5 : S'.over = true := HOV5.out
              rw [(HI5.out).down hov5] at hdn
              have HD := Lib.hid hdn
              have HV5 := Lib.hid hov5
              clear hdn hov hov5
              go_wp2_with (fail)
              refine HD.out.mono ?_
              rintro e w6 ⟨rfl, rfl⟩
              go_wp2_with (fail)
              go_roundw
              case rel => exact ⟨k + 1, S', us', by omega, by go_num, by rw [HV5.out], HI5.out, HO5.out, HLN5.out⟩
              case measure => simp only [intOf]; omega
            · have hov5 : S'.over = false := by rw [HOV5.out]; exact decide_eq_false h7
              have h7' : (en == 7) = false := by rw [beq_eq_false_iff_ne]; exact h7
              have HV5 := Lib.hid hov5
              clear hdn hov hov5 h7
              go_wp2_with (fail)
              go_roundw
              case rel => exact ⟨k + 1, S', us', by omega, by go_num, by rw [HV5.out], HI5.out, HO5.out, HLN5.out⟩
              case measure => simp only [intOf]; omega
        by_cases k2 : kd = 2
        · subst k2
          clear k1
          have hOd : Owns w (pth C S us []) wr.drew := HO.out.upd (Upd.refl [] wr).drew
          have HOD := Lib.hid hOd
          have hcl : ∀ (S : PS) (us : Value) (w' : World), Owns w (pth C S us []) w' → w'.cell? ⟨g, off + k * 3 + 1, none⟩ = some (.int .i64 pn) := fun S us w' ho => by
            obtain ⟨_, _, he, _, _, _, _, y1, _⟩ := (HV.out.upd ho.mine).at_ HOP.out
            cases he
            exact y1
          have HCL := Lib.hid hcl
          clear hOd hcl
          go_wp2_with (fail)
          go_region_held3 (fun w' => w'.cell? ⟨g, off + k * 3 + 1, none⟩ = some (.int .i64 pn)) (first | exact x1 | exact HCL.out _ _ _ (by assumption))
            (first | (go_at_call 61; refine (own_bytes HOD.out (page_any _ 1)).mono ?_; rintro e w4 ⟨v4, rfl, hb4, hO4, hk4, -⟩; obtain ⟨a4, c4, rfl, _, _⟩ := hb4.view.shape) | (go_at_call 60; refine (own_pagesPut hO4 HI.out.pw HB4.out pn hb4.view (pageOf_len 1)).mono ?_; rintro e w5 ⟨S', en, ⟨rfl, ⟨us', hO5⟩, -⟩, hR⟩))
          obtain ⟨hI5, hov5⟩ := HI.out.puts (pageOf_len 1) hR
          have hln5 : S'.len ≤ S.len + 8 := Nat.le_trans (len_puts hR) (by omega)
          have hoe := over_puts hR
          clear hR hO4 hb4 hk4 HOD HCL
          have HI5 := Lib.hid hI5
          have HOV5 := Lib.hid hov5
          have HO5 := Lib.hid hO5
          have HLN5 : Hid (S'.len ≤ 8 * (k + 1)) := Lib.hid (by have := HLN.out; omega)
          have hdn := own_down HO5.out 4 rfl
          clear hI5 hov5 hO5 hln5
          cases hov : S.over with
          | true =>
            have hen := hoe hov
            subst hen
            have hov5 : S'.over = true := HOV5.out
            rw [(HI5.out).down hov5] at hdn
            have HD := Lib.hid hdn
            have HV5 := Lib.hid hov5
            clear hdn hov hov5 hoe
            go_wp2_with (fail)
            refine HD.out.mono ?_
            rintro e w6 ⟨rfl, rfl⟩
            go_wp2_with (fail)
            go_roundw
            case rel => exact ⟨k + 1, S', us', by omega, by go_num, by rw [HV5.out], HI5.out, HO5.out, HLN5.out⟩
            case measure => simp only [intOf]; omega
          | false =>
            clear hoe
            by_cases h7 : en = 7
            · subst h7
              have hov5 : S'.over = true := HOV5.out
              rw [(HI5.out).down hov5] at hdn
              have HD := Lib.hid hdn
              have HV5 := Lib.hid hov5
              clear hdn hov hov5
              go_wp2_with (fail)
              refine HD.out.mono ?_
              rintro e w6 ⟨rfl, rfl⟩
              go_wp2_with (fail)
              go_roundw
              case rel => exact ⟨k + 1, S', us', by omega, by go_num, by rw [HV5.out], HI5.out, HO5.out, HLN5.out⟩
              case measure => simp only [intOf]; omega
            · have hov5 : S'.over = false := by rw [HOV5.out]; exact decide_eq_false h7
              have h7' : (en == 7) = false := by rw [beq_eq_false_iff_ne]; exact h7
              have HV5 := Lib.hid hov5
              clear hdn hov hov5 h7
              go_wp2_with (fail)
              go_roundw
              case rel => exact ⟨k + 1, S', us', by omega, by go_num, by rw [HV5.out], HI5.out, HO5.out, HLN5.out⟩
              case measure => simp only [intOf]; omega
        by_cases k3 : kd = 3
        · subst k3
          clear k1 k2
          have HGE := Lib.hid (own_get HO.out HI.out.pw HB4.out pn)
          go_wp2_with (fail)
          refine HGE.out.mono ?_
          rintro e w5 ⟨S', v5, b5, en, ⟨rfl, ⟨us', hO5⟩, -⟩, hb5, -, hR⟩
          obtain ⟨a5, c5, rfl, _, _⟩ := hb5.shape
          obtain ⟨hI5, hov5⟩ := HI.out.gets (own_wf HO.out 4 rfl) hR
          have hln5 : S'.len ≤ S.len + 8 := Nat.le_trans (len_gets hR) (by omega)
          have hoe := over_gets hR
          clear hR HGE hb5
          have HI5 := Lib.hid hI5
          have HOV5 := Lib.hid hov5
          have HO5 := Lib.hid hO5
          have HLN5 : Hid (S'.len ≤ 8 * (k + 1)) := Lib.hid (by have := HLN.out; omega)
          have hdn := own_down HO5.out 4 rfl
          clear hI5 hov5 hO5 hln5
          cases hov : S.over with
          | true =>
            have hen := hoe hov
            subst hen
            have hov5 : S'.over = true := HOV5.out
            rw [(HI5.out).down hov5] at hdn
            have HD := Lib.hid hdn
            have HV5 := Lib.hid hov5
            clear hdn hov hov5 hoe
            go_wp2_with (fail)
            refine HD.out.mono ?_
            rintro e w6 ⟨rfl, rfl⟩
            go_wp2_with (fail)
            go_roundw
            case rel => exact ⟨k + 1, S', us', by omega, by go_num, by rw [HV5.out], HI5.out, HO5.out, HLN5.out⟩
            case measure => simp only [intOf]; omega
          | false =>
            clear hoe
            by_cases h7 : en = 7
            · subst h7
              have hov5 : S'.over = true := HOV5.out
              rw [(HI5.out).down hov5] at hdn
              have HD := Lib.hid hdn
              have HV5 := Lib.hid hov5
              clear hdn hov hov5
              go_wp2_with (fail)
              refine HD.out.mono ?_
              rintro e w6 ⟨rfl, rfl⟩
              go_wp2_with (fail)
              go_roundw
              case rel => exact ⟨k + 1, S', us', by omega, by go_num, by rw [HV5.out], HI5.out, HO5.out, HLN5.out⟩
              case measure => simp only [intOf]; omega
            · have hov5 : S'.over = false := by rw [HOV5.out]; exact decide_eq_false h7
              have h7' : (en == 7) = false := by rw [beq_eq_false_iff_ne]; exact h7
              have HV5 := Lib.hid hov5
              clear hdn hov hov5 h7
              go_wp2_with (fail)
              go_roundw
              case rel => exact ⟨k + 1, S', us', by omega, by go_num, by rw [HV5.out], HI5.out, HO5.out, HLN5.out⟩
              case measure => simp only [intOf]; omega
        by_cases k4 : kd = 4
        · subst k4
          clear k1 k2 k3
          have HFR := Lib.hid (own_free HO.out HI.out.pw pn)
          go_wp2_with (fail)
          refine HFR.out.mono ?_
          rintro e w5 ⟨S', en, ⟨rfl, ⟨us', hO5⟩, -⟩, hR⟩
          obtain ⟨hI5, hov5⟩ := HI.out.frees hR
          have hln5 : S'.len ≤ S.len + 8 := Nat.le_trans (len_frees hR) (by omega)
          have hoe := over_frees hR
          clear hR HFR
          have HI5 := Lib.hid hI5
          have HOV5 := Lib.hid hov5
          have HO5 := Lib.hid hO5
          have HLN5 : Hid (S'.len ≤ 8 * (k + 1)) := Lib.hid (by have := HLN.out; omega)
          have hdn := own_down HO5.out 4 rfl
          clear hI5 hov5 hO5 hln5
          cases hov : S.over with
          | true =>
            have hen := hoe hov
            subst hen
            have hov5 : S'.over = true := HOV5.out
            rw [(HI5.out).down hov5] at hdn
            have HD := Lib.hid hdn
            have HV5 := Lib.hid hov5
            clear hdn hov hov5 hoe
            go_wp2_with (fail)
            refine HD.out.mono ?_
            rintro e w6 ⟨rfl, rfl⟩
            go_wp2_with (fail)
            go_roundw
            case rel => exact ⟨k + 1, S', us', by omega, by go_num, by rw [HV5.out], HI5.out, HO5.out, HLN5.out⟩
            case measure => simp only [intOf]; omega
          | false =>
            clear hoe
            by_cases h7 : en = 7
            · subst h7
              have hov5 : S'.over = true := HOV5.out
              rw [(HI5.out).down hov5] at hdn
              have HD := Lib.hid hdn
              have HV5 := Lib.hid hov5
              clear hdn hov hov5
              go_wp2_with (fail)
              refine HD.out.mono ?_
              rintro e w6 ⟨rfl, rfl⟩
              go_wp2_with (fail)
              go_roundw
              case rel => exact ⟨k + 1, S', us', by omega, by go_num, by rw [HV5.out], HI5.out, HO5.out, HLN5.out⟩
              case measure => simp only [intOf]; omega
            · have hov5 : S'.over = false := by rw [HOV5.out]; exact decide_eq_false h7
              have h7' : (en == 7) = false := by rw [beq_eq_false_iff_ne]; exact h7
              have HV5 := Lib.hid hov5
              clear hdn hov hov5 h7
              go_wp2_with (fail)
              go_roundw
              case rel => exact ⟨k + 1, S', us', by omega, by go_num, by rw [HV5.out], HI5.out, HO5.out, HLN5.out⟩
              case measure => simp only [intOf]; omega
        by_cases k5 : kd = 5
        · subst k5
          clear k1 k2 k3 k4
          have HFL := Lib.hid (own_flush HO.out HI.out.pw HB12.out)
          go_wp2_with (fail)
          refine HFL.out.mono ?_
          rintro e w5 ⟨rfl, ⟨us', hO5⟩, -⟩
          obtain ⟨hI5, hov5⟩ := HI.out.flushes
          have hln5 : (S.flush C).1.len ≤ S.len + 8 := Nat.le_trans (len_flushes C S) (by have := HF2.out; omega)
          have hoe := over_flush (C := C) (S := S)
          generalize (S.flush C).2 = en at hO5 hov5 hoe ⊢
          generalize (S.flush C).1 = S' at hO5 hI5 hov5 hln5
          clear HFL
          have HI5 := Lib.hid hI5
          have HOV5 := Lib.hid hov5
          have HO5 := Lib.hid hO5
          have HLN5 : Hid (S'.len ≤ 8 * (k + 1)) := Lib.hid (by have := HLN.out; omega)
          have hdn := own_down HO5.out 4 rfl
          clear hI5 hov5 hO5 hln5
          cases hov : S.over with
          | true =>
            have hen := hoe hov
            subst hen
            have hov5 : S'.over = true := HOV5.out
            rw [(HI5.out).down hov5] at hdn
            have HD := Lib.hid hdn
            have HV5 := Lib.hid hov5
            clear hdn hov hov5 hoe
            go_wp2_with (fail)
            refine HD.out.mono ?_
            rintro e w6 ⟨rfl, rfl⟩
            go_wp2_with (fail)
            go_roundw
            case rel => exact ⟨k + 1, S', us', by omega, by go_num, by rw [HV5.out], HI5.out, HO5.out, HLN5.out⟩
            case measure => simp only [intOf]; omega
          | false =>
            clear hoe
            by_cases h7 : en = 7
            · subst h7
              have hov5 : S'.over = true := HOV5.out
              rw [(HI5.out).down hov5] at hdn
              have HD := Lib.hid hdn
              have HV5 := Lib.hid hov5
              clear hdn hov hov5
              go_wp2_with (fail)
              refine HD.out.mono ?_
              rintro e w6 ⟨rfl, rfl⟩
              go_wp2_with (fail)
              go_roundw
              case rel => exact ⟨k + 1, S', us', by omega, by go_num, by rw [HV5.out], HI5.out, HO5.out, HLN5.out⟩
              case measure => simp only [intOf]; omega
            · have hov5 : S'.over = false := by rw [HOV5.out]; exact decide_eq_false h7
              have h7' : (en == 7) = false := by rw [beq_eq_false_iff_ne]; exact h7
              have HV5 := Lib.hid hov5
              clear hdn hov hov5 h7
              go_wp2_with (fail)
              go_roundw
              case rel => exact ⟨k + 1, S', us', by omega, by go_num, by rw [HV5.out], HI5.out, HO5.out, HLN5.out⟩
              case measure => simp only [intOf]; omega
        have q1 : (kd == 1) = false := by rw [beq_eq_false_iff_ne]; exact k1
        have q2 : (kd == 2) = false := by rw [beq_eq_false_iff_ne]; exact k2
        have q3 : (kd == 3) = false := by rw [beq_eq_false_iff_ne]; exact k3
        have q4 : (kd == 4) = false := by rw [beq_eq_false_iff_ne]; exact k4
        have q5 : (kd == 5) = false := by rw [beq_eq_false_iff_ne]; exact k5
        clear k1 k2 k3 k4 k5
        go_wp2_with (fail)
        go_roundw
        case rel => exact ⟨k + 1, S, us, by omega, by go_num, rfl, HI.out, HO.out, by have := HLN.out; omega⟩
        case measure => simp only [intOf]; omega
      · have hge : L.length ≤ k := by omega
        have HBL := Lib.hid HO.out.mine
        clear hmine hlt HO HI HLN HB12 HB4 HF2
        go_wp2_with (fail)
        refine (psettle_nil wr).mono ?_
        rintro e w6 ⟨rfl, rfl⟩
        go_wp2_with (fail)
        refine (alloc_nil wr).mono ?_
        rintro e w6 ⟨rfl, rfl⟩
        go_wp2_with (fail)
        refine (pget_nil 0 wr).mono ?_
        rintro e w6 ⟨rfl, rfl⟩
        go_wp2_with (fail)
        refine (page_any wr 0).mono ?_
        rintro e w7 ⟨v7, rfl, hb7, hu7, -⟩
        obtain ⟨a7, c7, rfl, _, _⟩ := hb7.view.shape
        have HU := Lib.hid (HBL.out.trans hu7 (by simp))
        clear hb7 hu7
        go_wp2_with (fail)
        refine (pput_nil 0 _ w7).mono ?_
        rintro e w6 ⟨rfl, rfl⟩
        go_wp2_with (fail)
        refine (pfree_nil 0 w7).mono ?_
        rintro e w6 ⟨rfl, rfl⟩
        go_wp2_with (fail)
        refine (pflush_nil w7).mono ?_
        rintro e w6 ⟨rfl, rfl⟩
        go_wp2_with (fail)
        refine (proom_nil w7).mono ?_
        rintro e w6 ⟨rfl, rfl⟩
        go_wp2_with (fail)
        refine (pused_nil w7).mono ?_
        rintro e w6 ⟨rfl, rfl⟩
        go_wp2_with (fail)
        refine (pcached_nil w7).mono ?_
        rintro e w6 ⟨rfl, rfl⟩
        go_wp2_with (fail)
        refine (pfresh_nil 0 w7).mono ?_
        rintro e w6 ⟨rfl, rfl⟩
        go_wp2_with (fail)
        go_ret
        exact ⟨rfl, HU.out.below (Nat.le_refl _) (by simp)⟩

end Go.Proofs.Ytkpoladbabhdmaa
