/- MetaLimits. Conditions: none. -/
import Derived.Test.YtkpoladbabhdmaaMeta9
namespace Go.Proofs.Ytkpoladbabhdmaa
open Go.RowKit

theorem Dk.open_new (n : Int) : (Dk.new n).openH = (0, []) ∧ (2 ≤ (Dk.new n).size → (Dk.new n).openE = 0) ∧ ((Dk.new n).size < 2 → (Dk.new n).openE = 1) := by
  have hd : (Dk.new n).down = false := rfl
  have hz : ∀ k, (Dk.new n).sec k = zeros := fun _ => rfl
  refine ⟨?_, fun h => ?_, fun h => ?_⟩
  · simp only [Dk.openH, hd, hz, headOf_zeros]
    split <;> simp
  · simp only [Dk.openE, if_neg (by omega : ¬ (Dk.new n).size < 2), hd]; simp
  · simp only [Dk.openE, if_pos h]

/-- what MetaLimits asks of the four answers -/
def Limit (m : Nat) (G t E F H : Int) (k : Nat) : Prop :=
  (t < 2 ∧ E = 1 ∧ F = 1) ∨ (2 ≤ t ∧ G = 0 ∧ E = 1 ∧ F = 0 ∧ H = 0) ∨ (2 ≤ t ∧ G ≠ 0 ∧ 200 < m ∧ E = 3 ∧ H = 0) ∨ (2 ≤ t ∧ G ≠ 0 ∧ m ≤ 200 ∧ E = 0 ∧ F = 0 ∧ H = G ∧ k = m)

theorem limit_new (m : Nat) (G t : Int) (h0 : 0 ≤ G) (h1 : G ≤ 18446744073709551615) (t0 : 0 ≤ t) (t1 : t ≤ 3) :
    Limit m G t ((Dk.new t).saveE G (List.replicate m 0)) ((Dk.new t).saved G (List.replicate m 0)).openE ((Dk.new t).saved G (List.replicate m 0)).openH.1 ((Dk.new t).saved G (List.replicate m 0)).openH.2.length := by
  have hs : (Dk.new t).size = t := by simp only [Dk.new]; omega
  obtain ⟨o1, o2, o3⟩ := Dk.open_new t
  rw [hs] at o2 o3
  by_cases c1 : t < 2
  · have hb : (Dk.new t).size < 2 ∨ G = 0 := .inl (by omega)
    refine .inl ⟨c1, by simp only [Dk.saveE, if_pos hb], by simp only [Dk.saved, if_pos hb]; exact o3 c1⟩
  · by_cases c2 : G = 0
    · have hb : (Dk.new t).size < 2 ∨ G = 0 := .inr c2
      refine .inr (.inl ⟨by omega, c2, by simp only [Dk.saveE, if_pos hb], by simp only [Dk.saved, if_pos hb]; exact o2 (by omega), by simp only [Dk.saved, if_pos hb, o1]⟩)
    · have hb : ¬ ((Dk.new t).size < 2 ∨ G = 0) := by omega
      by_cases c3 : 200 < m
      · have hl : 200 < (List.replicate m (0 : UInt8)).length := by rw [List.length_replicate]; exact c3
        refine .inr (.inr (.inl ⟨by omega, c2, c3, by simp only [Dk.saveE, if_neg hb, if_pos hl], by simp only [Dk.saved, if_neg hb, if_pos hl, o1]⟩))
      · have hl : (List.replicate m (0 : UInt8)).length ≤ 200 := by rw [List.length_replicate]; omega
        obtain ⟨p1, p2⟩ := Dk.open_saved_new (n := t) (G := G) (p := List.replicate m 0) (by omega) (by omega) (by omega) hl
        obtain ⟨q1, _⟩ := Dk.saved_new (n := t) (G := G) (p := List.replicate m 0) (by omega) (by omega) hl
        refine .inr (.inr (.inr ⟨by omega, c2, by omega, q1, p1, by rw [p2], by rw [p2]; exact List.length_replicate⟩))

set_option maxRecDepth 100000 in
set_option maxHeartbeats 1000000 in
theorem limits_walk (w : World) {n G s : Int} (n0 : 0 ≤ n) (n1 : n ≤ 255) (g0 : 0 ≤ G) (g1 : G ≤ 18446744073709551615) (s0 : 0 ≤ s) (s1 : s ≤ 255) :
    Calls Try.prog 8 #[.int .u8 n, .int .u64 G, .int .u8 s] w (Returns (.bool true) (Below w.heap.size w)) := by
  have hnot : ∀ (x : Bool) (w : World), (Op.unary .not (.bool x)).run Try.prog w = .ok (.bool (!x)) w := fun _ _ => rfl
  have hmk := fun w => makeN w n n0 (by omega)
  obtain ⟨m, rfl⟩ : ∃ m : Nat, n = m := ⟨n.toNat, by omega⟩
  simp only [Int.toNat_natCast] at hmk
  go_enter Try.func8, Try.ntmps8
  go_wp2_with (fail)
  refine (own_returns (Owns.none w) (awake8_any w)).mono ?_
  rintro e w1 ⟨rfl, hO1, -⟩
  have HO1 := Lib.hid hO1
  clear hO1
  go_wp2_with (fail)
  refine (own_new HO1.out _).mono ?_
  rintro e w2 ⟨b, rfl, hO2, -⟩
  have HO2 := Lib.hid hO2
  clear hO2
  go_wp2_with (fail)
  have hOA := HO2.out.upd ((Upd.refl [] w2).alloc (.cells (bcells (List.replicate m 0)) 5))
  have hbv : BytesO (w2.alloc (.cells (bcells (List.replicate m 0)) 5)) (.slice (some ⟨w2.heap.size, 0, none⟩) m m) (List.replicate m 0) := by
    have := bytesO_new w2 (List.replicate m 0) (by rw [List.length_replicate]; unfold maxLen; omega)
    rwa [List.length_replicate] at this
  generalize w2.alloc (.cells (bcells (List.replicate m 0)) 5) = w3 at hOA hbv ⊢
  have hla : Lasting w w3 (.slice (some ⟨w2.heap.size, 0, none⟩) m m) (List.replicate m 0) := fun w' l' _ hk => (hbv.keep hk).view
  have hlim := limit_new m G (s % 4) g0 g1 (by omega) (by omega)
  refine (own_save_up hOA 0 rfl hla g0 (by omega) (by unfold Big; simp [Dk.new]) Dk.new_ok).mono ?_
  rintro e w4 ⟨rfl, hO4, -⟩
  have HO4 : Hid (Owns w [disk b ((Dk.new (s % 4)).saved G (List.replicate m 0))] w4) := Lib.hid hO4
  clear hO4 hla hbv hOA
  generalize hE : (Dk.new (s % 4)).saveE G (List.replicate m 0) = E at hlim ⊢
  go_wp2_with (fail)
  refine (own_open HO4.out 0 rfl).mono ?_
  rintro e w5 ⟨v5, rfl, ⟨x5, rfl, hb5, hi5⟩, hO5, -⟩
  generalize ((Dk.new (s % 4)).saved G (List.replicate m 0)).openE = F at hlim ⊢
  obtain ⟨a5, c5, rfl, _, hm5⟩ := hb5.shape
  clear hb5 hi5
  generalize ((Dk.new (s % 4)).saved G (List.replicate m 0)).openH.1 = H at hlim ⊢
  generalize ((Dk.new (s % 4)).saved G (List.replicate m 0)).openH.2.length = k at hlim ⊢
  have hB := (hO5.upd ((Upd.refl [] w5).alloc (.cells #[.int .u64 H, .slice a5 k c5] 60))).below
  have HB := Lib.hid hB
  clear hB hO5 hE hmk
  rcases hlim with ⟨l1, rfl, rfl⟩ | ⟨l1, rfl, rfl, rfl, rfl⟩ | ⟨l1, l2, l3, rfl, rfl⟩ | ⟨l1, l2, l3, rfl, rfl, rfl, rfl⟩
  · go_wp2_with (fail)
    go_ret
    exact ⟨rfl, HB.out⟩
  · go_wp2_with (fail)
    go_ret
    exact ⟨rfl, HB.out⟩
  · have l2' : (G == 0) = false := by simpa using l2
    go_wp2_with (fail)
    go_ret
    exact ⟨rfl, HB.out⟩
  · have l2' : (H == 0) = false := by simpa using l2
    go_wp2_with (fail)
    go_ret
    exact ⟨rfl, HB.out⟩

end Go.Proofs.Ytkpoladbabhdmaa
