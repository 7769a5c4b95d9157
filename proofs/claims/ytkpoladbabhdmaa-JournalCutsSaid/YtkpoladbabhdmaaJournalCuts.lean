/- JournalCuts. Conditions: none. -/
import Derived.Test.YtkpoladbabhdmaaJrn11
namespace Go.Proofs.Ytkpoladbabhdmaa
open Go.RowKit

theorem take_len {α : Type} (L : List α) {j sy : Nat} (h : sy ≤ j) (hl : sy ≤ L.length) : sy ≤ (L.take j).length := by rw [List.length_take]; omega

set_option maxRecDepth 100000 in
set_option maxHeartbeats 4000000 in
theorem jcuts_walk (w : World) {v kv : Value} {ops : List Op7} (hops : Ops7V w v ops) {keep : List Bool} (hk : BoolsV w kv keep) {E : Int} (_hE0 : 0 ≤ E) (_hE1 : E ≤ 18446744073709551615) :
    Calls Try.prog 15 #[v, kv, .int .u64 E] w (Returns (.bool true) (Below w.heap.size w)) := by
  have hnot : ∀ (x : Bool) (w : World), (Op.unary .not (.bool x)).run Try.prog w = .ok (.bool (!x)) w := fun _ _ => rfl
  obtain ⟨ka, kc, rfl, hkc, hkm⟩ := hk.shape
  have hkl : keep.length ≤ 9223372036854775807 := by unfold maxLen at hkm; omega
  have HOP := Lib.hid hops
  have HKV := Lib.hid hk
  clear hops hk hkc hkm
  go_enter Try.func15, Try.ntmps15
  go_wp2_with (fail)
  refine (own_returns (Owns.none w) (awake7_any w)).mono ?_
  rintro e w1 ⟨rfl, hO1, -⟩
  have HO1 := Lib.hid hO1
  clear hO1
  go_wp2_with (fail)
  refine (few7_any (HOP.out.upd HO1.out.mine)).mono ?_
  rintro e w' ⟨x, rfl, hx, rfl⟩
  cases x with
  | false =>
    clear hx
    go_wp2_with (fail)
    refine (own_returns HO1.out (awake7_any w1)).mono ?_
    rintro e w2 ⟨rfl, hO2, -⟩
    have HO2 := Lib.hid hO2
    clear hO2
    go_wp2_with (fail)
    go_ret
    exact ⟨rfl, HO2.out.below⟩
  | true =>
    obtain ⟨h30, hsh⟩ := hx rfl
    have HSH := Lib.hid hsh
    clear hx hsh
    by_cases hk1 : 1000 < keep.length
    · go_wp2_with (fail)
      refine (own_returns HO1.out (awake7_any w1)).mono ?_
      rintro e w2 ⟨rfl, hO2, -⟩
      have HO2 := Lib.hid hO2
      clear hO2
      go_wp2_with (fail)
      go_ret
      exact ⟨rfl, HO2.out.below⟩
    · have hk2 : keep.length ≤ 1000 := by omega
      clear hk1
      have hs90 : (Dk.new 90).size = 90 := by decide
      have HS := Lib.hid hs90
      clear hs90
      go_wp2_with (fail)
      refine (own_new HO1.out 90).mono ?_
      rintro e w2 ⟨d, rfl, hO2, -⟩
      have HO2 := Lib.hid hO2
      clear hO2
      go_wp2_with (fail)
      refine (own_jnew HO2.out 0 rfl (by unfold int64; omega) (by unfold int64; omega) (by rw [HS.out]; decide)).mono ?_
      rintro e w3 ⟨q, rfl, hO3, -⟩
      have HO3 : Hid (Owns w (jthings q d 5 ((80 : Nat) : Int) E ⟨Dk.new 90, 0, 0, false⟩ []) w3) := Lib.hid hO3
      clear hO3
      go_wp2_with (fail)
      refine (own_play (base := []) (size := 90) (c := 80) HO3.out (by have := PlayI.start (base := []) (f := 5) (E := E) (c := 80) (D := Dk.new 90) rfl rfl; rwa [HS.out] at this) (by unfold Big; simp) (by omega) (by omega) (by omega) HOP.out h30 HSH.out).mono ?_
      rintro e w4 ⟨S, L, sy, v4, rfl, hP, hL30, hbig, hO4, -⟩
      have hcut := hP.cut (fun i _ => by rw [show last [] (5 + (i : Int)) = none from rfl]; exact foreign_zeros E) keep
      have hsz : (S.D.cut keep).size = 90 := by
        show min (max S.D.size 0) 65536 = 90
        rw [hP.size]; decide
      have hsy := hP.synced.1
      have HO4 := Lib.hid hO4
      have HBG : Hid (S.D.all.length < Big) := Lib.hid (by omega)
      have HCUT := Lib.hid hcut
      have HSZ := Lib.hid hsz
      clear hP hbig hO4 hcut hsz
      go_wp2_with (fail)
      refine (own_cut HO4.out 1 rfl (HKV.out.upd HO4.out.mine (by simp)) HBG.out).mono ?_
      rintro e w5 ⟨x, rfl, hO5, -⟩
      have HO5 := Lib.hid hO5
      clear hO5
      go_wp2_with (fail)
      have hsc := own_scan HO5.out 0 rfl rfl (f := 5) (E := E) (c := 80) (by omega) (by rw [HSZ.out]; omega)
      obtain ⟨j, hj1, hj2⟩ := HCUT.out
      rw [hj2] at hsc
      have hlen := take_len L hj1 hsy
      obtain ⟨n, hn⟩ : ∃ n, n = (L.take j).length := ⟨_, rfl⟩
      rw [← hn] at hlen
      have hn30 : n ≤ 30 := by rw [hn, List.length_take]; omega
      have HSC := Lib.hid hsc
      have HN := Lib.hid hn
      clear hsc hj1 hj2 hn HCUT
      refine HSC.out.mono ?_
      rintro e w6 ⟨v6, x6, rfl, hO6, -⟩
      obtain ⟨a6, c6, hv6, _, _⟩ := (own_rows hO6 0 rfl).shape
      rw [← HN.out] at hv6
      subst hv6
      have hvL := own_rows hO6 4 rfl
      have HFR := Lib.hid (front_true hvL.view (own_rows hO6 0 rfl).view (by rw [List.length_take]; omega) (fun i b hb => by rw [List.getElem?_take] at hb; split at hb; exact hb; cases hb))
      have HO6 := Lib.hid hO6
      clear hO6 hvL
      go_wp2_with (fail)
      refine (own_returns HO6.out HFR.out).mono ?_
      rintro e w7 ⟨rfl, hO7, -⟩
      have HF := Lib.hid hO7.below
      clear hO7
      go_wp2_with (fail)
      go_ret
      exact ⟨rfl, HF.out⟩

end Go.Proofs.Ytkpoladbabhdmaa
