/- PagesPlay, the walk: whatever is done to the pages, all is answered as the reference answers. Conditions: none. -/
import Derived.Test.YtkpoladbabhdmaaPl5
import Derived.Test.YtkpoladbabhdmaaPg12
import Derived.Deep.QuietTactic
import Derived.BigQuiet
namespace Go.Proofs.Ytkpoladbabhdmaa
open Go.RowKit

theorem PlayI.start {C : PC} {n : Nat} (hf : C.from_ = 3) (hp : 1 ≤ C.pool) (hq : C.pool ≤ 6) (hn : n ≤ 11) : PlayI C ⟨Dk.new (3 + 4 * (n : Int)), List.replicate n 0, [], false⟩ (List.replicate n z1k) := by
  have hs : (Dk.new (3 + 4 * (n : Int))).size = 3 + 4 * (n : Int) := by simp [Dk.new]; omega
  refine ⟨PW.new (by rw [hf, hs, List.length_replicate]; omega) (by rw [hs]; omega) hp (by omega), ⟨rfl, rfl⟩, rfl, by simp, fun b hb => ?_, by simp, by simp, fun k hk _ => ?_⟩
  · rw [List.eq_of_mem_replicate hb]; exact z1k_len
  · exfalso
    have h0 : ∀ x : Int, (List.replicate n (0 : Int))[k]? = some x → x = 0 := fun x hx => by
      rw [List.getElem?_replicate] at hx
      split at hx
      · exact (Option.some.inj hx).symm
      · cases hx
    rcases hk with hk | hk
    · have := h0 _ hk; omega
    · have := h0 _ hk; omega

theorem drewN_upd (w : World) (n : Nat) : Upd [] w (w.drewN n) := ⟨rfl, rfl, rfl, Nat.le_refl _, fun _ _ _ => rfl, fun _ _ _ _ => rfl⟩

theorem at_is (S : PS) (n : Int) : S.at_ n = atI S.is n := rfl

set_option maxRecDepth 100000 in
set_option maxHeartbeats 8000000 in
theorem pplay_walk (w : World) {cn pn : Int} (c0 : 0 ≤ cn) (_ : cn ≤ 255) (p0 : 0 ≤ pn) (_ : pn ≤ 255) {v : Value} {L : List Op10} (hv : Ops10V w v L) :
    Calls Try.prog 18 #[.int .u8 cn, .int .u8 pn, v] w (Returns (.bool true) (Below w.heap.size w)) := by
  have hnot : ∀ (x : Bool) (w : World), (Op.unary .not (.bool x)).run Try.prog w = .ok (.bool (!x)) w := fun _ _ => rfl
  obtain ⟨va, vc, rfl, hvc, hvm⟩ := hv.shape
  have hvl : L.length ≤ 9223372036854775807 := by unfold maxLen at hvm; omega
  have HV := Lib.hid hv
  clear hv hvc hvm
  by_cases h60 : 60 < L.length
  · go_enter Try.func18, Try.ntmps18
    go_wp2_with (fail)
    refine (own_returns (Owns.none w) (awake10_any w)).mono ?_
    rintro e w1 ⟨rfl, hO1, -⟩
    have HO1 := Lib.hid hO1
    clear hO1
    go_wp2_with (fail)
    refine (own_returns HO1.out (awake10_any w1)).mono ?_
    rintro e w2 ⟨rfl, hO2, -⟩
    have HO2 := Lib.hid hO2
    clear hO2
    go_wp2_with (fail)
    go_ret
    exact ⟨rfl, HO2.out.below⟩
  · have hl60 : L.length ≤ 60 := by omega
    obtain ⟨n, hn⟩ : ∃ n : Nat, (n : Int) = cn.tmod 12 := ⟨(cn.tmod 12).toNat, by have := Int.tmod_eq_emod_of_nonneg (b := 12) c0; omega⟩
    obtain ⟨q, hq⟩ : ∃ q : Nat, (q : Int) = pn.tmod 6 := ⟨(pn.tmod 6).toNat, by have := Int.tmod_eq_emod_of_nonneg (b := 6) p0; omega⟩
    have hn11 : n ≤ 11 := by have := Int.tmod_eq_emod_of_nonneg (b := 12) c0; omega
    have hq5 : q ≤ 5 := by have := Int.tmod_eq_emod_of_nonneg (b := 6) p0; omega
    have hn' := hn.symm
    have hq' := hq.symm
    clear hn hq
    go_enter Try.func18, Try.ntmps18
    go_wp2_with (fail)
    refine (own_returns (Owns.none w) (awake10_any w)).mono ?_
    rintro e w1 ⟨rfl, hO1, -⟩
    have HO1 := Lib.hid hO1
    clear hO1
    go_wp2_with (fail)
    have hsz : (Dk.new (3 + 4 * (n : Int))).size = 3 + 4 * (n : Int) := by simp [Dk.new]; omega
    refine (own_new HO1.out (3 + 4 * (n : Int))).mono ?_
    rintro e w2 ⟨d, rfl, hO2, -⟩
    have hop := own_popen (from_ := 3) (count := n) (pool := 1 + q) hO2 (by rw [hsz]; omega) (by rw [hsz]; omega) (by omega) (.inl ⟨rfl, rfl⟩) (by simp) (by simp) (by simp)
    rw [show ((1 + q : Nat) : Int) = 1 + (q : Int) by omega] at hop
    have HOP := Lib.hid hop
    clear hO2 hop hsz
    go_wp2_with (fail)
    refine HOP.out.mono ?_
    rintro e w3 ⟨C, us, hCd, hCf, hCp, rfl, hO3, -⟩
    subst hCd
    have hro := own_ropen hO3 (size := 3 + 4 * n) (from_ := 3) (n := n) (pool := 1 + q) (by omega) (by omega) (by omega) (by omega)
    rw [show ((1 + q : Nat) : Int) = 1 + (q : Int) by omega, show ((3 + 4 * n : Nat) : Int) = 3 + 4 * (n : Int) by omega] at hro
    have HRO := Lib.hid hro
    clear hO3 hro HOP
    go_wp2_with (fail)
    refine HRO.out.mono ?_
    rintro e w4 ⟨R, rfl, hO4, -⟩
    have HO4 := Lib.hid (own_flop hO4)
    have HI0 := Lib.hid (PlayI.start (C := C) (n := n) hCf (by omega) (by omega) hn11)
    have HCP : Hid (C.pool = 1 + q) := Lib.hid hCp
    clear hO4 HRO hCf hCp
    go_wp2_with (fail)
    go_loopw [13] (fun i wr => ∃ (k : Nat) (S : PS) (B : List Bytes) (us : Value), k ≤ L.length ∧ i = .int .i64 (k : Int) ∧ PlayI C S B ∧ Owns w (pth C S us (rth R S.is B [])) wr ∧ S.len ≤ 24 * k ∧ S.is.length = n) (fun i _ => L.length - (intOf i).toNat)
    case atStart => exact ⟨0, _, _, us, Nat.zero_le _, rfl, HI0.out, HO4.out, Nat.le_refl _, List.length_replicate⟩
    case round =>
      clear HI0 HO4
      obtain ⟨k, S, B, us, hk, rfl, hI, hO, hln, hil⟩ := hrel
      by_cases hlt : k < L.length
      · obtain ⟨⟨kd, on, om⟩, hop⟩ : ∃ op, L[k]? = some op := ⟨L[k], List.getElem?_eq_getElem hlt⟩
        obtain ⟨g, off, rfl, hk1, hk2, hk3, x0, x1, x2⟩ := (HV.out.upd hO.mine).at_ hop
        simp only at hk1 hk2 hk3 x0 x1 x2
        have hact := act10_any hO hI (by rw [HCP.out]; omega) (by omega) (by omega) ⟨kd, on, om⟩ hk2
        have HACT := Lib.hid hact
        have HLN := Lib.hid hln
        have HIL := Lib.hid hil
        have HOPK := Lib.hid hop
        clear hact hO hI hln hil hop
        go_wp2_with (fail)
        refine HACT.out.mono ?_
        rintro e w5 ⟨rfl, S5, B5, us5, hI5, hO5, hln5, hil5⟩
        rw [HIL.out] at hil5
        obtain ⟨g', off', he', -, -, -, -, y1, -⟩ := (HV.out.upd hO5.mine).at_ HOPK.out
        cases he'
        have HO5 := Lib.hid hO5
        have HI5 := Lib.hid hI5
        have HLN5 : Hid (S5.len ≤ 24 * (k + 1)) := Lib.hid (by have := HLN.out; omega)
        have HIL5 := Lib.hid hil5
        clear hO5 hI5 hln5 hil5 HACT x0 x1 x2
        have hrm := own_proom HO5.out (by rw [HIL5.out]; omega)
        have hrc := own_rcount (own_flip HO5.out) (by rw [HIL5.out]; omega) 0
        generalize S5.is.count 0 = cz at hrm hrc
        have HRM := Lib.hid hrm
        have HRC := Lib.hid hrc
        have HPU := Lib.hid (own_pused HO5.out (by rw [HIL5.out]; omega))
        clear hrm hrc y1
        go_wp2_with (fail)
        refine HRM.out.mono ?_
        rintro e w' ⟨rfl, rfl⟩
        go_wp2_with (fail)
        refine HRC.out.mono ?_
        rintro e w' ⟨rfl, rfl⟩
        have hcz : ((cz : Int) != (cz : Int)) = false := by simp
        go_wp2_with (fail)
        refine HPU.out.mono ?_
        rintro e w6 ⟨a6, n6, c6, rfl, hi6, hu6⟩
        have hO6 := HO5.out.upd hu6
        have HRU := Lib.hid (own_rused (own_flip hO6) (by rw [HIL5.out]; omega))
        have HI6 := Lib.hid hi6
        have HO6 := Lib.hid hO6
        clear hO6 hi6 hu6 HPU HRM HRC hcz
        go_wp2_with (fail)
        refine HRU.out.mono ?_
        rintro e w7 ⟨a7, n7, c7, rfl, hi7, hu7⟩
        have hO7 := HO6.out.upd hu7
        have hsi := ints_same (HI6.out.upd hu7 (by simp)) hi7 (Nat.le_trans (usedTo_len _ _) (by rw [HIL5.out]; omega))
        have HSI := Lib.hid hsi
        have HO7 := Lib.hid hO7
        clear hO7 hi7 hu7 hsi HRU HI6
        go_wp2_with (fail)
        refine HSI.out.mono ?_
        rintro e w8 ⟨rfl, hu8⟩
        have hO8 := HO7.out.upd hu8
        have HCA := Lib.hid (own_pcached hO8 HI5.out.pw.nodup)
        have hfull : ((S5.fs.length : Nat) : Int) ≤ 1 + (q : Int) := by have := HI5.out.pw.full; rw [HCP.out] at this; omega
        obtain ⟨g', off', he', -, -, -, -, y1, -⟩ := (HV.out.upd hO8.mine).at_ HOPK.out
        cases he'
        obtain ⟨r0, -, -, -, -⟩ := own_rp (own_flip hO8)
        rw [HIL5.out] at r0
        have hat : ∀ x, S5.at_ on = x → ∀ j, Calls Try.prog 69 #[.pointer (some ⟨C.p, 0, none⟩), .int .i64 on] (w8.drewN j) fun e w' => e = .returned (.bool (x == 2)) ∧ w' = w8.drewN j := fun x hx j => by
          refine (own_pfresh (hO8.upd (drewN_upd w8 j)) on).mono ?_
          rintro e w' ⟨he, hw⟩
          rw [hx] at he
          exact ⟨he, hw.symm⟩
        have hcell : ∀ (j : Nat) (x : Int), S5.is[j]? = some x → w8.cell? ⟨R.ib, j, none⟩ = some (.int .i64 x) := fun j x hx => own_ris (own_flip hO8) hx
        have HAT := Lib.hid hat
        have HCE := Lib.hid hcell
        have HO9 : Hid (∀ j, Owns w (pth C S5 us5 (rth R S5.is B5 [])) (w8.drewN j)) := Lib.hid (fun j => hO8.upd (drewN_upd w8 j))
        clear hO8 hu8 HSI HO7 HO6 hat hcell HO5
        generalize S5.fs.length = fl at hfull HCA
        go_wp2_with (fail)
        refine HCA.out.mono ?_
        rintro e w' ⟨rfl, rfl⟩
        by_cases hlo : 0 ≤ on
        · by_cases hhi : on < (n : Int)
          · obtain ⟨j, rfl⟩ : ∃ j : Nat, on = (j : Int) := ⟨on.toNat, by omega⟩
            obtain ⟨x, hx⟩ : ∃ x, S5.is[j]? = some x := ⟨_, List.getElem?_eq_getElem (by rw [HIL5.out]; omega)⟩
            have hxc := HCE.out j x hx
            have hax : S5.at_ (j : Int) = x := at_of rfl hx
            have HFR := Lib.hid (HAT.out x hax)
            have hz : ((x == 2) != (x == 2)) = false := by simp
            clear hx hax HAT HCE HCA
            go_wp2_with (fail)
            go_quiet (first | (go_at_call 69; refine Calls.quiet_of_same (HFR.out _)))
            go_wp2_with (fail)
            go_roundw
            case rel => exact ⟨k + 1, S5, B5, us5, by omega, by go_num, HI5.out, HO9.out _, HLN5.out, HIL5.out⟩
            case measure => simp only [intOf]; omega
          · have hax : S5.at_ on = 0 := by unfold PS.at_; rw [if_neg (by rw [HIL5.out]; omega)]
            have HFR := Lib.hid (HAT.out 0 hax)
            have hd1 : decide (on < (n : Int)) = false := decide_eq_false hhi
            clear hax HAT HCE HCA hhi
            go_wp2_with (fail)
            go_quiet (first | (go_at_call 69; refine Calls.quiet_of_same (HFR.out _)))
            go_wp2_with (fail)
            go_roundw
            case rel => exact ⟨k + 1, S5, B5, us5, by omega, by go_num, HI5.out, HO9.out _, HLN5.out, HIL5.out⟩
            case measure => simp only [intOf]; omega
        · have hax : S5.at_ on = 0 := by unfold PS.at_; rw [if_neg (by omega)]
          have HFR := Lib.hid (HAT.out 0 hax)
          have hd0 : decide (0 ≤ on) = false := decide_eq_false hlo
          clear hax HAT HCE HCA hlo
          go_wp2_with (fail)
          go_quiet (first | (go_at_call 69; refine Calls.quiet_of_same (HFR.out _)))
          go_wp2_with (fail)
          go_roundw
          case rel => exact ⟨k + 1, S5, B5, us5, by omega, by go_num, HI5.out, HO9.out _, HLN5.out, HIL5.out⟩
          case measure => simp only [intOf]; omega
      · obtain rfl : k = L.length := by omega
        have HB := Lib.hid hO.below
        clear hO hI hln hil
        go_wp2_with (fail)
        go_ret
        exact ⟨rfl, HB.out⟩

end Go.Proofs.Ytkpoladbabhdmaa
