/- The law's awake (layer 10). Conditions: none. -/
import Derived.Test.YtkpoladbabhdmaaPg11
namespace Go.Proofs.Ytkpoladbabhdmaa
open Go.RowKit

theorem PW.new {C : PC} {D : Dk} {is : List Int} (hf : (C.from_ : Int) + 4 * (is.length : Int) ≤ D.size) (hs : D.size ≤ 65536) (hp : 1 ≤ C.pool) (hq : C.pool ≤ 1000) : PW C ⟨D, is, [], false⟩ :=
  ⟨by simp [FNodup], by simp, by simp, hf, hs, hp, by simp, hq⟩

set_option maxRecDepth 100000 in
set_option maxHeartbeats 1000000 in
theorem awake10_any (w : World) : Calls Try.prog 57 #[] w (Returns (.bool true) (Upd [] w)) := by
  go_enter Try.func57, Try.ntmps57
  go_wp2_with (fail)
  refine (own_new (Owns.none w) 8).mono ?_
  rintro e w1 ⟨d, rfl, hO1, -⟩
  have hO2 := hO1.upd ((Upd.refl [] w1).alloc (.cells #[.int .i64 0] 3))
  have hk : KeepV (w1.alloc (.cells #[.int .i64 0] 3)) (.slice (some ⟨w1.heap.size, 0, none⟩) 1 1) [0] := by
    refine .inr ⟨w1.heap.size, 1, rfl, fun j y hj => ?_⟩
    match j, hj with
    | 0, hj => simp at hj; subst hj; exact cell_of_heap (heap_alloc_new' _ _) rfl
    | j + 1, hj => simp at hj
  have hop := own_popen (from_ := 0) (count := 2) (pool := 1) hO2 (by decide) (by decide) (by omega) hk (by simp) (by simp) (by
    intro j n hj
    match j, hj with
    | 0, hj => simp at hj; omega
    | j + 1, hj => simp at hj)
  have HOP := Lib.hid hop
  clear hO1 hO2 hk hop
  go_wp2_with (fail)
  refine HOP.out.mono ?_
  rintro e w2 ⟨C, us, hCd, hCf, hCp, rfl, hO, -⟩
  have hw : PW C ⟨Dk.new 8, keepIs 2 [0] 1, [], false⟩ := PW.new (by rw [hCf]; decide) (by decide) (by omega) (by omega)
  have hal := own_alloc hO hw (by decide)
  have HAL := Lib.hid hal
  have HCP := Lib.hid hCp
  clear hO hw hal hCd hCf hCp
  go_wp2_with (fail)
  refine HAL.out.mono ?_
  rintro e w3 ⟨S', n, en, ⟨rfl, ⟨us', hO3⟩, -⟩, hR⟩
  have hne : n = 1 ∧ en = 0 := by
    have his : keepIs 2 [0] 1 = [1, 0] := rfl
    rcases hR with ⟨h, _⟩ | ⟨_, hno, _⟩ | ⟨_, k, f, hk1, hk2, _, _, _, hput⟩
    · cases h
    · exact absurd rfl (hno 1)
    · have hk : k = 1 := by
        match k, hk1 with
        | 0, h => cases h
        | 1, _ => rfl
        | k + 2, h => cases h
      have h2 : (PS.put C ⟨Dk.new 8, keepIs 2 [0] 1, [], false⟩ f).2 = true := by
        unfold PS.put PS.drop fdrop
        simp only [List.filter_nil, List.length_nil]
        have hc : ¬ C.pool ≤ 0 := by rw [HCP.out]; omega
        simp [hc]
      rcases hput with ⟨h, _⟩ | ⟨_, _, hn, he⟩
      · have h3 := h2.symm.trans h; cases h3
      · exact ⟨by rw [hn, hk]; rfl, he⟩
  obtain ⟨rfl, rfl⟩ := hne
  have HM := Lib.hid hO3.mine
  clear hO3 hR
  go_wp2_with (fail)
  go_ret
  exact ⟨rfl, HM.out⟩

end Go.Proofs.Ytkpoladbabhdmaa
