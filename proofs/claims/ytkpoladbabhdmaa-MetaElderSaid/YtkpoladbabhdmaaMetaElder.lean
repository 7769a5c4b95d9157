/- MetaElder. Conditions: none. -/
import Derived.Test.YtkpoladbabhdmaaMeta10
namespace Go.Proofs.Ytkpoladbabhdmaa
open Go.RowKit

theorem last_two (k k' : Int) (x x' : Bytes) (n : Int) : last [(k, x), (k', x')] n = if n = k' then some x' else if n = k then some x else none := rfl

theorem elder_plain {a b : Int} {x y : UInt8} (a0 : 0 < a) (a1 : a ≤ 18446744073709551615) (b0 : 0 < b) (b1 : b ≤ 18446744073709551615) :
    (Dk.new 2).saveE a [x] = 0 ∧ Calm ((Dk.new 2).saved a [x]) ∧ ((Dk.new 2).saved a [x]).size = 2 ∧ ((Dk.new 2).saved a [x]).all.length = 1 ∧
    ((Dk.new 2).saved a [x]).saveE b [y] = 0 ∧ (((Dk.new 2).saved a [x]).saved b [y]).openE = 0 ∧
    (((Dk.new 2).saved a [x]).saved b [y]).openH = if a % 2 = b % 2 ∨ a < b then (b, [y]) else (a, [x]) := by
  have hs : (Dk.new 2).size = 2 := rfl
  obtain ⟨p1, p2, p3, p4, -⟩ := (Calm.new 2).save (G := a) (p := [x]) (by rw [hs]; omega) a0 (by simp)
  rw [hs] at p3
  have p4 : ((Dk.new 2).saved a [x]).all = [(a % 2, headSec a [x])] := p4
  obtain ⟨q1, q2, q3, q4, -⟩ := p2.save (G := b) (p := [y]) (by rw [p3]; omega) b0 (by simp)
  rw [p4] at q4
  have q4 : (((Dk.new 2).saved a [x]).saved b [y]).all = [(a % 2, headSec a [x]), (b % 2, headSec b [y])] := q4
  have ha := headOf_headSec a [x] a0 (by omega) (by simp)
  have hb := headOf_headSec b [y] b0 (by omega) (by simp)
  refine ⟨p1, p2, p3, by rw [p4]; rfl, q1, ?_⟩
  have hsec : ∀ n : Int, headOf ((((Dk.new 2).saved a [x]).saved b [y]).sec n) = if n = b % 2 then (b, [y]) else if n = a % 2 then (a, [x]) else (0, []) := by
    intro n
    simp only [Dk.sec, q4, last_two]
    split
    · exact hb
    · split
      · exact ha
      · exact headOf_zeros
  obtain ⟨o1, o2⟩ := q2.open (by rw [q3, p3]; omega) (hsec 0) (hsec 1)
  refine ⟨o1, ?_⟩
  rw [o2]
  by_cases ea : a % 2 = 0
  · by_cases eb : b % 2 = 0
    · rw [if_pos (by omega : (0 : Int) = b % 2), if_neg (by omega : ¬ (1 : Int) = b % 2), if_neg (by omega : ¬ (1 : Int) = a % 2), if_neg (by show ¬ b < 0; omega), if_pos (by omega)]
    · rw [if_neg (by omega : ¬ (0 : Int) = b % 2), if_pos (by omega : (0 : Int) = a % 2), if_pos (by omega : (1 : Int) = b % 2)]
      by_cases hab : a < b
      · rw [if_pos hab, if_pos (by omega)]
      · rw [if_neg hab, if_neg (by omega)]
  · by_cases eb : b % 2 = 0
    · rw [if_pos (by omega : (0 : Int) = b % 2), if_neg (by omega : ¬ (1 : Int) = b % 2), if_pos (by omega : (1 : Int) = a % 2)]
      by_cases hab : a < b
      · rw [if_neg (by show ¬ b < a; omega), if_pos (by omega)]
      · rw [if_pos (by show b < a; omega), if_neg (by omega)]
    · rw [if_neg (by omega : ¬ (0 : Int) = b % 2), if_neg (by omega : ¬ (0 : Int) = a % 2), if_pos (by omega : (1 : Int) = b % 2), if_pos (by show (0 : Int) < b; omega), if_pos (by omega)]

/-- one byte in a block of its own -/
theorem byteO_new (w : World) (x : UInt8) : BytesO (w.alloc (.cells #[.int .u8 (x.toNat : Int)] 5)) (.slice (some ⟨w.heap.size, 0, none⟩) 1 1) [x] := by
  have := bytesO_new w [x] (by simp [maxLen])
  exact this

set_option maxRecDepth 100000 in
set_option maxHeartbeats 2000000 in
theorem elder_walk (w : World) {a b : Int} {x y : UInt8} (a0 : 0 ≤ a) (a1 : a ≤ 18446744073709551615) (b0 : 0 ≤ b) (b1 : b ≤ 18446744073709551615) :
    Calls Try.prog 9 #[.int .u64 a, .int .u64 b, .agg #[.int .u8 (x.toNat : Int), .int .u8 (y.toNat : Int)]] w (Returns (.bool true) (Below w.heap.size w)) := by
  have hnot : ∀ (x : Bool) (w : World), (Op.unary .not (.bool x)).run Try.prog w = .ok (.bool (!x)) w := fun _ _ => rfl
  have hR := own_row_new (Owns.none w) #[.int .u8 (x.toNat : Int), .int .u8 (y.toNat : Int)] 64 (by decide)
  have hlt := lt_of_heap (own_row hR 0 rfl)
  have HLT := Lib.hid hlt
  have HR := Lib.hid hR
  clear hR hlt
  by_cases hz : a = 0 ∨ b = 0
  · rcases hz with rfl | rfl
    · go_enter Try.func9, Try.ntmps9
      go_wp2_with (fail)
      generalize w.alloc (.cells #[.int .u8 (x.toNat : Int), .int .u8 (y.toNat : Int)] 64) = w1 at HR HLT ⊢
      refine (own_returns HR.out (awake8_any w1)).mono ?_
      rintro e w2 ⟨rfl, hO2, -⟩
      have HO2 := Lib.hid hO2
      clear hO2
      go_wp2_with (fail)
      refine (own_returns HO2.out (awake8_any w2)).mono ?_
      rintro e w3 ⟨rfl, hO3, -⟩
      have HO3 := Lib.hid hO3
      clear hO3
      go_wp2_with (fail)
      go_ret
      exact ⟨rfl, HO3.out.below⟩
    · by_cases ha : a = 0
      · subst ha
        go_enter Try.func9, Try.ntmps9
        go_wp2_with (fail)
        generalize w.alloc (.cells #[.int .u8 (x.toNat : Int), .int .u8 (y.toNat : Int)] 64) = w1 at HR HLT ⊢
        refine (own_returns HR.out (awake8_any w1)).mono ?_
        rintro e w2 ⟨rfl, hO2, -⟩
        have HO2 := Lib.hid hO2
        clear hO2
        go_wp2_with (fail)
        refine (own_returns HO2.out (awake8_any w2)).mono ?_
        rintro e w3 ⟨rfl, hO3, -⟩
        have HO3 := Lib.hid hO3
        clear hO3
        go_wp2_with (fail)
        go_ret
        exact ⟨rfl, HO3.out.below⟩
      · have ha' : (a == 0) = false := by simpa using ha
        clear ha
        go_enter Try.func9, Try.ntmps9
        go_wp2_with (fail)
        generalize w.alloc (.cells #[.int .u8 (x.toNat : Int), .int .u8 (y.toNat : Int)] 64) = w1 at HR HLT ⊢
        refine (own_returns HR.out (awake8_any w1)).mono ?_
        rintro e w2 ⟨rfl, hO2, -⟩
        have HO2 := Lib.hid hO2
        clear hO2
        go_wp2_with (fail)
        refine (own_returns HO2.out (awake8_any w2)).mono ?_
        rintro e w3 ⟨rfl, hO3, -⟩
        have HO3 := Lib.hid hO3
        clear hO3
        go_wp2_with (fail)
        go_ret
        exact ⟨rfl, HO3.out.below⟩
  · have ha' : (a == 0) = false := by rw [beq_eq_false_iff_ne]; omega
    have hb' : (b == 0) = false := by rw [beq_eq_false_iff_ne]; omega
    have ap : 0 < a := by omega
    have bp : 0 < b := by omega
    obtain ⟨p1, p2, p3, p4, p5, p6, p7⟩ := elder_plain (x := x) (y := y) ap a1 bp b1
    have P1 := Lib.hid p1
    have P2 := Lib.hid p2
    have P3 := Lib.hid p3
    have P4 := Lib.hid p4
    have P5 := Lib.hid p5
    have P6 := Lib.hid p6
    have P7 := Lib.hid p7
    clear p1 p2 p3 p4 p5 p6 p7 hz
    go_enter Try.func9, Try.ntmps9
    go_wp2_with (fail)
    generalize w.alloc (.cells #[.int .u8 (x.toNat : Int), .int .u8 (y.toNat : Int)] 64) = w1 at HR HLT ⊢
    refine (own_returns HR.out (awake8_any w1)).mono ?_
    rintro e w2 ⟨rfl, hO2, -⟩
    have hrow2 := own_row hO2 0 rfl
    have hlt := lt_of_heap hrow2
    have c0 : w2.cell? ⟨w.heap.size, 0, none⟩ = some (.int .u8 (x.toNat : Int)) := cell_of_heap hrow2 rfl
    have c1 : w2.cell? ⟨w.heap.size, 1, none⟩ = some (.int .u8 (y.toNat : Int)) := cell_of_heap hrow2 rfl
    have hO2 : Owns w [] w2 := hO2.pick (fun _ => 0) (by intro i T h; simp at h) (by intro i j hi; simp at hi)
    have HO2 := Lib.hid hO2
    clear hO2 hrow2
    go_wp2_with (fail)
    go_region
    have hO2d := HO2.out.upd (Upd.refl [] w2).drew
    have HO2d := Lib.hid hO2d
    clear hO2d
    go_wp2_with (fail)
    refine (own_new HO2d.out 2).mono ?_
    rintro e w3 ⟨d, rfl, hO3, -⟩
    have HO3 := Lib.hid hO3
    clear hO3 c0 c1
    go_wp2_with (fail)
    have hOA := HO3.out.upd ((Upd.refl [] w3).alloc (.cells #[.int .u8 (x.toNat : Int)] 5))
    have hbv := byteO_new w3 x
    generalize w3.alloc (.cells #[.int .u8 (x.toNat : Int)] 5) = w4 at hOA hbv ⊢
    have hla : Lasting w w4 (.slice (some ⟨w3.heap.size, 0, none⟩) 1 1) [x] := fun w' l' _ hk => (hbv.keep hk).view
    refine (own_save_up hOA 0 rfl hla a0 (by omega) (by unfold Big; simp [Dk.new]) Dk.new_ok).mono ?_
    rw [P1.out]
    rintro e w5 ⟨rfl, hO5, -⟩
    have HO5 : Hid (Owns w [disk d ((Dk.new 2).saved a [x])] w5) := Lib.hid hO5
    clear hO5 hla hbv hOA
    go_wp2_with (fail)
    have hOB := HO5.out.upd ((Upd.refl [] w5).alloc (.cells #[.int .u8 (y.toNat : Int)] 5))
    have hbv := byteO_new w5 y
    generalize w5.alloc (.cells #[.int .u8 (y.toNat : Int)] 5) = w6 at hOB hbv ⊢
    have hla : Lasting w w6 (.slice (some ⟨w5.heap.size, 0, none⟩) 1 1) [y] := fun w' l' _ hk => (hbv.keep hk).view
    refine (own_save_up hOB 0 rfl hla b0 (by omega) (by rw [P4.out]; unfold Big; omega) P2.out.ok).mono ?_
    rw [P5.out]
    rintro e w7 ⟨rfl, hO7, -⟩
    have HO7 : Hid (Owns w [disk d (((Dk.new 2).saved a [x]).saved b [y])] w7) := Lib.hid hO7
    clear hO7 hla hbv hOB
    go_wp2_with (fail)
    refine (own_open HO7.out 0 rfl).mono ?_
    rw [P6.out, P7.out]
    rintro e w8 ⟨v8, rfl, hv8, hO8, -⟩
    have HO8 := Lib.hid hO8
    clear hO8
    by_cases hab : a % 2 = b % 2 ∨ a < b
    · rw [if_pos hab] at hv8
      obtain ⟨x8, rfl, hb8, hi8⟩ := hv8
      obtain ⟨g8, o8, c8, hx8, hc8⟩ := hb8.at_ (k := 0) (x := y) rfl
      subst hx8
      rw [Nat.add_zero] at hc8
      have hlt8 := World.block_lt_of_cell? w8 _ hc8
      have HF : Hid (Owns w [disk d ((((Dk.new 2).saved a [x]).saved b [y]).opened)] (w8.alloc (.cells #[.int .u64 b, .slice (some ⟨g8, o8, none⟩) 1 c8] 60))) := Lib.hid (HO8.out.upd ((Upd.refl [] w8).alloc _))
      clear hb8 hi8
      by_cases hm : a % 2 = b % 2
      · have hm' : (a % 2 == b % 2) = true := by simpa using hm
        clear hab hm
        go_wp2_with (fail)
        go_ret
        exact ⟨rfl, HF.out.below⟩
      · have hl : a < b := by rcases hab with h | h; exact absurd h hm; exact h
        have hm' : (a % 2 == b % 2) = false := by simpa using hm
        clear hab hm
        go_wp2_with (fail)
        go_ret
        exact ⟨rfl, HF.out.below⟩
    · rw [if_neg hab] at hv8
      obtain ⟨x8, rfl, hb8, hi8⟩ := hv8
      obtain ⟨g8, o8, c8, hx8, hc8⟩ := hb8.at_ (k := 0) (x := x) rfl
      subst hx8
      rw [Nat.add_zero] at hc8
      have hlt8 := World.block_lt_of_cell? w8 _ hc8
      have HF : Hid (Owns w [disk d ((((Dk.new 2).saved a [x]).saved b [y]).opened)] (w8.alloc (.cells #[.int .u64 a, .slice (some ⟨g8, o8, none⟩) 1 c8] 60))) := Lib.hid (HO8.out.upd ((Upd.refl [] w8).alloc _))
      clear hb8 hi8
      have hm' : (a % 2 == b % 2) = false := by rw [beq_eq_false_iff_ne]; omega
      have hl : ¬ a < b := by omega
      clear hab
      go_wp2_with (fail)
      go_ret
      exact ⟨rfl, HF.out.below⟩

end Go.Proofs.Ytkpoladbabhdmaa
