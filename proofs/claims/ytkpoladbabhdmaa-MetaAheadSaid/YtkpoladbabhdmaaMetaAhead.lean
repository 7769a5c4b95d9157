/- MetaAhead. Conditions: none. -/
import Derived.Test.YtkpoladbabhdmaaMeta11
namespace Go.Proofs.Ytkpoladbabhdmaa
open Go.RowKit

/-- the first k sectors behind the two of the heads -/
def aheadTo (L : List Bytes) (k : Nat) : List (Int × Bytes) := (List.range k).map fun (i : Nat) => (2 + (i : Int), padded (L.getD i []))
theorem aheadTo_succ (L : List Bytes) (k : Nat) : aheadTo L (k + 1) = aheadTo L k ++ [(2 + (k : Int), padded (L.getD k []))] := by simp [aheadTo, List.range_succ]
theorem last_ahead (L : List Bytes) (i : Nat) : ∀ (k : Nat), i < k → last (aheadTo L k) (2 + (i : Int)) = some (padded (L.getD i []))
  | 0, h => by omega
  | k + 1, h => by
    rw [aheadTo_succ, last_snoc]
    unfold put
    split
    · rename_i he
      have : i = k := by simp only at he; omega
      rw [this]
    · rename_i he
      exact last_ahead L i k (by simp only at he; omega)

structure Ahead (L : List Bytes) (k : Nat) (D : Dk) : Prop where
  calm : Calm D
  size : D.size = 42
  all : D.all = aheadTo L k

theorem Ahead.start (L : List Bytes) : Ahead L 0 (Dk.new 42) := ⟨Calm.new 42, by decide, rfl⟩
theorem Ahead.len {L : List Bytes} {k : Nat} {D : Dk} (h : Ahead L k D) : D.all.length = k := by rw [h.all]; simp [aheadTo]

theorem Ahead.step {L : List Bytes} {k : Nat} {D : Dk} (h : Ahead L k D) (hk : k < 40) {l : Bytes} (hl : L[k]? = some l) :
    D.writeE (2 + (k : Int)) (padded l) = 0 ∧ Ahead L (k + 1) (D.write (2 + (k : Int)) (padded l)) := by
  obtain ⟨w1, w2, w3, w4, _⟩ := h.calm.write (n := 2 + (k : Int)) (l := padded l) (by omega) (by rw [h.size]; omega) (padded_len l)
  refine ⟨w1, w2, by rw [w3, h.size], ?_⟩
  rw [w4, h.all, aheadTo_succ]
  simp [List.getD, hl]

/-- what is there behind the cut -/
structure AheadC (L : List Bytes) (C : Dk) : Prop where
  down : C.down = false
  size : C.size = 42
  sec : ∀ (i : Nat) (l : Bytes), L[i]? = some l → C.sec (2 + (i : Int)) = padded l

theorem Ahead.save {L : List Bytes} {D : Dk} (h : Ahead L L.length D) {G : Int} (h0 : 0 < G) :
    D.saveE G [] = 0 ∧ AheadC L ((D.saved G []).cut [false]) ∧ (D.saved G []).all.length = L.length + 1 := by
  obtain ⟨s1, s2, s3, s4, s5⟩ := h.calm.save (G := G) (p := []) (by rw [h.size]; omega) h0 (by simp)
  have hln := h.len
  have hall : ((D.saved G []).cut [false]).all = D.all ++ [(G % 2, headSec G [])] := by
    have e : (D.saved G []).lasts = (D.saved G []).all.length := by rw [s5, s4]; simp
    show (D.saved G []).all.take (D.saved G []).lasts ++ kept [false] 0 ((D.saved G []).all.drop (D.saved G []).lasts) = _
    rw [e, List.take_length, List.drop_length, s4]; simp [kept]
  have hsz : (D.saved G []).size = 42 := by rw [s3, h.size]
  refine ⟨s1, ⟨rfl, ?_, fun i l hl => ?_⟩, by rw [s4]; simp [hln]⟩
  · show min (max (D.saved G []).size 0) 65536 = 42
    rw [hsz]; decide
  · unfold Dk.sec
    rw [hall, last_snoc]
    unfold put
    have hi : i < L.length := (List.getElem?_eq_some_iff.1 hl).1
    rw [if_neg (by simp only; omega), h.all, last_ahead L i _ hi]
    simp [List.getD, hl]

theorem AheadC.read {L : List Bytes} {C : Dk} (h : AheadC L C) {i : Nat} {l : Bytes} (hl : L[i]? = some l) (hi : i < 40) :
    C.readE (2 + (i : Int)) = 0 ∧ C.readB (2 + (i : Int)) = padded l ∧ AheadC L (C.read (2 + (i : Int))) := by
  have hr : 0 ≤ 2 + (i : Int) ∧ 2 + (i : Int) < C.size := by rw [h.size]; omega
  refine ⟨by simp only [Dk.readE, h.down, if_pos hr]; rfl, by simp only [Dk.readB, h.down, if_pos hr, h.sec i l hl]; rfl, ?_, ?_, fun j m hm => ?_⟩
  · rw [Dk.read_down]; exact h.down
  · rw [Dk.read_size]; exact h.size
  · rw [Dk.read_sec]; exact h.sec j m hm

theorem bools_one (w : World) (x : Bool) : BoolsV (w.alloc (.cells #[.bool x] 4)) (.slice (some ⟨w.heap.size, 0, none⟩) 1 1) [x] :=
  .inr ⟨w.heap.size, 0, 1, rfl, Nat.le_refl _, by unfold maxLen; omega, fun i b hi => by
    cases i with
    | zero => simp at hi; subst hi; exact cell_of_heap (heap_alloc_new' _ _) rfl
    | succ i => simp at hi⟩

set_option maxRecDepth 100000 in
set_option maxHeartbeats 2000000 in
theorem ahead_walk (w : World) {v : Value} {L : List Bytes} (hv : RowsV w v L) {n : Int} (n0 : 0 ≤ n) (n1 : n ≤ 255) :
    Calls Try.prog 10 #[v, .int .u8 n] w (Returns (.bool true) (Below w.heap.size w)) := by
  have hnot : ∀ (x : Bool) (w : World), (Op.unary .not (.bool x)).run Try.prog w = .ok (.bool (!x)) w := fun _ _ => rfl
  have hmk := make256
  obtain ⟨va, vc, hve, hvc, hvm⟩ := hv.shape
  subst hve
  have hvl : L.length ≤ 9223372036854775807 := by unfold maxLen at hvm; omega
  have HV := Lib.hid hv
  clear hv hvc hvm
  by_cases h40 : 40 < L.length
  · go_enter Try.func10, Try.ntmps10
    go_wp2_with (fail)
    refine (own_returns (Owns.none w) (awake8_any w)).mono ?_
    rintro e w1 ⟨rfl, hO1, -⟩
    have HO1 := Lib.hid hO1
    clear hO1
    go_wp2_with (fail)
    refine (own_returns HO1.out (awake8_any w1)).mono ?_
    rintro e w2 ⟨rfl, hO2, -⟩
    have HO2 := Lib.hid hO2
    clear hO2
    go_wp2_with (fail)
    go_ret
    exact ⟨rfl, HO2.out.below⟩
  · have h40' : L.length ≤ 40 := by omega
    clear h40
    go_enter Try.func10, Try.ntmps10
    go_wp2_with (fail)
    refine (own_returns (Owns.none w) (awake8_any w)).mono ?_
    rintro e w1 ⟨rfl, hO1, -⟩
    have HO1 := Lib.hid hO1
    clear hO1
    go_wp2_with (fail)
    refine (own_new HO1.out 42).mono ?_
    rintro e w2 ⟨b, rfl, hO2, -⟩
    have HO2 := Lib.hid hO2
    clear hO2
    go_wp2_with (fail)
    go_loopw [6] (fun i wr => ∃ k : Nat, k ≤ L.length ∧ i = .int .i64 k ∧ ∃ D, Ahead L k D ∧ Owns w [disk b D] wr) (fun i _ => L.length - (intOf i).toNat)
    case atStart => exact ⟨0, Nat.zero_le _, rfl, _, Ahead.start L, HO2.out⟩
    case round =>
      obtain ⟨k, hk, rfl, D, hD, hO⟩ := hrel
      by_cases hlt : k < L.length
      · obtain ⟨l, hl⟩ : ∃ l, L[k]? = some l := ⟨L[k], List.getElem?_eq_getElem hlt⟩
        obtain ⟨g, off, x, c, rfl, hcx, hbx, hlm⟩ := (HV.out.upd hO.mine).at_ hl
        obtain ⟨hE, hD'⟩ := hD.step (by omega) hl
        have hlen := hD.len
        have hgl := World.block_lt_of_cell? wr _ hcx
        have hx0 : l.length ≤ 9223372036854775807 := by unfold maxLen at hlm; omega
        have HBX := Lib.hid (hbx.upd ((Upd.refl [] wr).alloc (.cells (bcells zeros) 5)) (by simp))
        have HU := Lib.hid ((Upd.refl [] wr).alloc (.cells (bcells zeros) 5))
        have HG := Lib.hid (heap_alloc_new' wr (.cells (bcells zeros) 5))
        have HO := Lib.hid hO
        have HE := Lib.hid hE
        have HD' := Lib.hid hD'
        have HLN : Hid (D.all.length < Big) := Lib.hid (by rw [hlen]; unfold Big; omega)
        clear hbx hO hE hD' hlen hD hl
        go_wp2_with (with_reducible refine wpList_pad rfl (.tmp 29) (.tmp 33) rfl HU.out HG.out (Nat.le_refl _) HBX.out rfl rfl ?_)
        intro w3 hb3 hu3
        have HB3 := Lib.hid hb3
        have HO3 := Lib.hid (HO.out.upd hu3)
        clear hb3 hu3
        go_wp2_with (fail)
        refine (own_write HO3.out 0 rfl HB3.out HLN.out).mono ?_
        rw [HE.out]
        rintro e w4 ⟨rfl, hO4, -⟩
        have HO4 : Hid (Owns w [disk b (D.write (2 + (k : Int)) (padded l))] w4) := Lib.hid hO4
        clear hO4
        go_wp2_with (fail)
        go_roundw
        case rel => exact ⟨k + 1, by omega, by go_num, _, HD'.out, HO4.out⟩
        case measure => simp [intOf]; omega
      · obtain rfl : k = L.length := by omega
        obtain ⟨p1, p2, p3⟩ := hD.save (G := 1 + n) (by omega)
        have hln := hD.len
        have hok := hD.calm.ok (G := 1 + n) (p := [])
        have HP1 := Lib.hid p1
        have HP2 := Lib.hid p2
        have HP3 : Hid ((D.saved (1 + n) []).all.length < Big) := Lib.hid (by rw [p3]; unfold Big; omega)
        have HLN : Hid (D.all.length + 1 < Big) := Lib.hid (by rw [hln]; unfold Big; omega)
        have HOK := Lib.hid hok
        have HO := Lib.hid hO
        clear p1 p2 p3 hln hok hO hD
        go_wp2_with (fail)
        refine (own_save_up HO.out 0 rfl (v := .slice none 0 0) (p := []) (fun _ _ _ _ => .inl ⟨.nil, rfl⟩) (G := 1 + n) (by omega) (by omega) HLN.out HOK.out).mono ?_
        rw [HP1.out]
        rintro e w3 ⟨rfl, hO3, -⟩
        have HO3 : Hid (Owns w [disk b (D.saved (1 + n) [])] w3) := Lib.hid hO3
        clear hO3
        go_wp2_with (fail)
        have HOA := Lib.hid (HO3.out.upd ((Upd.refl [] w3).alloc (.cells #[.bool false] 4)))
        have HBO := Lib.hid (bools_one w3 false)
        generalize w3.alloc (.cells #[.bool false] 4) = w4 at HOA HBO ⊢
        refine (own_cut HOA.out 0 rfl HBO.out HP3.out).mono ?_
        rintro e w5 ⟨x, rfl, hO5, -⟩
        have hO5 : Owns w [disk x ((D.saved (1 + n) []).cut [false])] w5 := hO5.pick (fun _ => 0) (by intro i T h; match i, h with | 0, h => simpa using h) (by intro i j hi hj _; simp at hi hj; omega)
        have HO5 := Lib.hid hO5
        clear hO5
        go_wp2_with (fail)
        obtain ⟨wo, hwo⟩ : ∃ wo : World, wo = wr := ⟨_, rfl⟩
        go_loopw [9] (fun i wr => ∃ k : Nat, k ≤ L.length ∧ i = .int .i64 k ∧ ∃ C, AheadC L C ∧ Owns w [disk x C] wr) (fun i _ => L.length - (intOf i).toNat)
        case atStart => exact ⟨0, Nat.zero_le _, rfl, _, HP2.out, HO5.out⟩
        case round =>
          obtain ⟨k, hk, rfl, C, hC, hO⟩ := hrel
          by_cases hlt : k < L.length
          · obtain ⟨l, hl⟩ : ∃ l, L[k]? = some l := ⟨L[k], List.getElem?_eq_getElem hlt⟩
            obtain ⟨g, off, x1, c, rfl, hcx, hbx, hlm⟩ := (HV.out.upd hO.mine).at_ hl
            obtain ⟨hE, hB, hC'⟩ := hC.read hl (by omega)
            have hgl := World.block_lt_of_cell? wr _ hcx
            have hx0 : l.length ≤ 9223372036854775807 := by unfold maxLen at hlm; omega
            have HBX := Lib.hid (hbx.upd ((Upd.refl [] wr).alloc (.cells (bcells zeros) 5)) (by simp))
            have HU := Lib.hid ((Upd.refl [] wr).alloc (.cells (bcells zeros) 5))
            have HG := Lib.hid (heap_alloc_new' wr (.cells (bcells zeros) 5))
            have HO := Lib.hid hO
            have HE := Lib.hid hE
            have HB := Lib.hid hB
            have HC' := Lib.hid hC'
            clear hbx hO hE hB hC' hC hl
            go_wp2_with (with_reducible refine wpList_pad rfl (.tmp 58) (.tmp 62) rfl HU.out HG.out (Nat.le_refl _) HBX.out rfl rfl ?_)
            intro w6 hb6 hu6
            have HB6 := Lib.hid hb6
            have HO6 := Lib.hid (HO.out.upd hu6)
            clear hb6 hu6
            go_wp2_with (fail)
            refine (own_read HO6.out 0 rfl (2 + (k : Int))).mono ?_
            rw [HE.out, HB.out]
            rintro e w7 ⟨v7, rfl, hb7, hO7, hk7, -⟩
            obtain ⟨a7, c7, rfl, _, _⟩ := hb7.view.shape
            have HO7 : Hid (Owns w [disk x (C.read (2 + (k : Int)))] w7) := Lib.hid hO7
            have HB7 := Lib.hid hb7
            have HB6' := Lib.hid (HB6.out.keep hk7)
            clear hO7 hb7 hk7
            go_wp2_with (fail)
            refine (own_returns HO7.out (same_any HB7.out.view HB6'.out.view)).mono ?_
            rw [decide_eq_true (Eq.refl (padded l))]
            rintro e w8 ⟨rfl, hO8, -⟩
            have HO8 := Lib.hid hO8
            clear hO8
            go_wp2_with (fail)
            go_roundw
            case rel => exact ⟨k + 1, by omega, by go_num, _, HC'.out, HO8.out⟩
            case measure => simp [intOf]; omega
          · have HB := Lib.hid hO.below
            clear hO hC
            go_wp2_with (fail)
            go_ret
            exact ⟨rfl, HB.out⟩

end Go.Proofs.Ytkpoladbabhdmaa
