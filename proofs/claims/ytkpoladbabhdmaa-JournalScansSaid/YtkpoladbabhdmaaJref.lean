/- The reference's numbers, sectors and Scan of layer 7. Conditions: as each says. -/
import Derived.Test.YtkpoladbabhdmaaJrn8
import Derived.Test.YtkpoladbabhdmaaMeta14
namespace Go.Proofs.Ytkpoladbabhdmaa
open Go.RowKit

set_option maxRecDepth 100000 in
set_option maxHeartbeats 1000000 in
/-- what two bytes read as a number -/
theorem number_any {w : World} {v : Value} {l : Bytes} (hv : BytesV w v l) (hl : l.length = 2) : Calls Try.prog 89 #[v] w fun e w' => e = .returned (.int .i64 (beNum l : Int)) ∧ w = w' := by
  rcases hv with ⟨_, h00⟩ | ⟨g, off, cap, rfl, hlc, hcm, hcell⟩
  · rw [h00] at hl; simp at hl
  rw [hl]
  have HC := Lib.hid hcell
  have HL := Lib.hid hl
  clear hcell hlc hcm hl
  go_enter Try.func89, Try.ntmps89
  go_wp2_with (fail)
  go_loopw [3, 4] (fun x i wr => ∃ (k m : Nat), k ≤ 2 ∧ i = .int .i64 (k : Int) ∧ x = .int .i64 (m : Int) ∧ m = beNum (l.take k) ∧ m ≤ 65535 ∧ wr = w) (fun _ i _ => 2 - (intOf i).toNat)
  case atStart => exact ⟨0, 0, by omega, rfl, rfl, by simp [beNum], by omega, rfl⟩
  case round =>
    obtain ⟨k, m, hk, rfl, rfl, hm, hm16, rfl⟩ := hrel
    by_cases hlt : k < 2
    · obtain ⟨b, hbk⟩ : ∃ b, l[k]? = some b := ⟨l[k]'(by rw [HL.out]; omega), List.getElem?_eq_getElem _⟩
      have hcb : wr.cell? ⟨g, off + k, none⟩ = some (.int .u8 (b.toNat : Int)) := HC.out k b hbk
      have hbl := b.toNat_lt
      have hsn : beNum (l.take (k + 1)) = m * 256 + b.toNat := by
        rw [List.take_add_one, hbk, Option.toList_some, beNum_snoc, ← hm]
      have h16 : m * 256 + b.toNat ≤ 65535 := by
        have h1 := beNum_lt (l.take (k + 1))
        have h2 : (l.take (k + 1)).length ≤ 2 := by rw [List.length_take]; omega
        have h3 : 256 ^ (l.take (k + 1)).length ≤ 256 ^ 2 := Nat.pow_le_pow_right (by omega) h2
        omega
      have HSN := Lib.hid hsn
      clear hsn hm hbk
      go_wp2_with (fail)
      go_roundw
      case rel => exact ⟨k + 1, m * 256 + b.toNat, by omega, by go_num, by congr 1, HSN.out.symm, h16, trivial⟩
      case measure => simp only [intOf]; omega
    · obtain rfl : k = 2 := by omega
      rw [List.take_of_length_le (by rw [HL.out]; omega)] at hm
      have HM := Lib.hid hm
      clear hm
      go_wp2_with (fail)
      go_ret
      exact ⟨by rw [← HM.out]; rfl, rfl⟩

def ViewTo (l : Bytes) (n : Nat) (w : World) (e : Ending) (w' : World) : Prop := ∃ a c, e = .returned (.slice a n c) ∧ BytesV w' (.slice a n c) l ∧ Upd [] w w'

theorem be64_drop4 (x : Int) : (be64 x).drop 4 = be32 x := by
  simp [be64, beUp, be32, List.range_succ]
theorem be64_drop6 (x : Int) : (be64 x).drop 6 = be16 x := by
  simp [be64, beUp, be16, List.range_succ]

set_option maxRecDepth 100000 in
set_option maxHeartbeats 1000000 in
/-- the last four bytes of a number -/
theorem rbig4_any (w : World) {x : Int} (h0 : 0 ≤ x) (h1 : x ≤ 4294967295) : Calls Try.prog 112 #[.int .i64 x, .int .i64 4] w (ViewTo (be32 x) 4 w) := by
  go_enter Try.func112, Try.ntmps112
  go_wp2_with (fail)
  refine (big_any w h0 (by omega)).mono ?_
  rintro e w2 ⟨v2, rfl, hb2, hu2, -⟩
  obtain ⟨g, c, rfl⟩ := hb2.head (by rw [be64_len]; omega)
  have hc : 8 ≤ c ∧ c ≤ maxLen := by
    obtain ⟨_, _, he, q1, q2⟩ := hb2.view.shape
    rw [be64_len] at he q1
    cases he; exact ⟨q1, q2⟩
  rw [be64_len] at hb2 ⊢
  obtain ⟨hc1, hc2⟩ := hc
  have hv : BytesV w2 (.slice (some ⟨g, 4, none⟩) 4 (c - 4)) (be32 x) := by
    have h8 : BytesV w2 (.slice (some ⟨g, 0, none⟩) 8 c) (be64 x) := by have := BytesO.view hb2; exact this
    have := h8.sub (i := 4) (k := 4) (by rw [be64_len]; omega)
    rw [Nat.zero_add, be64_drop4] at this
    exact this
  have hci : (c : Int) ≤ 9223372036854775807 := by unfold maxLen at hc2; omega
  have HF : Hid (ViewTo (be32 x) 4 w (.returned (.slice (some ⟨g, 4, none⟩) 4 (c - 4))) w2) := Lib.hid ⟨_, _, rfl, hv, hu2⟩
  clear hv hu2 hb2 hc2
  go_wp2_with (fail)
  go_ret
  exact HF.out

set_option maxRecDepth 100000 in
set_option maxHeartbeats 1000000 in
/-- the last two bytes of a number -/
theorem rbig2_any (w : World) {x : Int} (h0 : 0 ≤ x) (h1 : x ≤ 4294967295) : Calls Try.prog 112 #[.int .i64 x, .int .i64 2] w (ViewTo (be16 x) 2 w) := by
  go_enter Try.func112, Try.ntmps112
  go_wp2_with (fail)
  refine (big_any w h0 (by omega)).mono ?_
  rintro e w2 ⟨v2, rfl, hb2, hu2, -⟩
  obtain ⟨g, c, rfl⟩ := hb2.head (by rw [be64_len]; omega)
  have hc : 8 ≤ c ∧ c ≤ maxLen := by
    obtain ⟨_, _, he, q1, q2⟩ := hb2.view.shape
    rw [be64_len] at he q1
    cases he; exact ⟨q1, q2⟩
  rw [be64_len] at hb2 ⊢
  obtain ⟨hc1, hc2⟩ := hc
  have hv : BytesV w2 (.slice (some ⟨g, 6, none⟩) 2 (c - 6)) (be16 x) := by
    have h8 : BytesV w2 (.slice (some ⟨g, 0, none⟩) 8 c) (be64 x) := by have := BytesO.view hb2; exact this
    have := h8.sub (i := 6) (k := 2) (by rw [be64_len]; omega)
    rw [Nat.zero_add, be64_drop6] at this
    exact this
  have hci : (c : Int) ≤ 9223372036854775807 := by unfold maxLen at hc2; omega
  have HF : Hid (ViewTo (be16 x) 2 w (.returned (.slice (some ⟨g, 6, none⟩) 2 (c - 6))) w2) := Lib.hid ⟨_, _, rfl, hv, hu2⟩
  clear hv hu2 hb2 hc2
  go_wp2_with (fail)
  go_ret
  exact HF.out

theorem Grows.upd {w0 w w' : World} {v : Value} {l : Bytes} (h : Grows w0 w v l) (hu : Upd [] w w') : Grows w0 w' v l := ⟨h.1.upd hu, h.2.1.trans hu (by simp), h.2.2⟩

theorem Grows.append_n {w0 w : World} {v x : Value} {l m : Bytes} (h : Grows w0 w v l) (hx : BytesV w x m) (ty : TypeId) {n : Nat} (hn : (l ++ m).length = n) (hb : n ≤ 100000000) :
    ∃ a' c' w', (Builtin.append_ #[33, 33] ty #[v, x]).run Try.prog w = .ok (.slice a' n c') w' ∧ Grows w0 w' (.slice a' n c') (l ++ m) := by
  obtain ⟨a', c', w', h1, h2⟩ := h.append hx ty (by rw [← List.length_append, hn]; exact hb)
  rw [hn] at h1 h2
  exact ⟨a', c', w', h1, h2⟩

/-- the first r sectors of a record -/
def rsecs (E : Int) (a num : Nat) (b : Bytes) (r : Nat) : List Bytes := (List.range r).map fun p : Nat => jsec E ((a : Int) + (p : Int)) (num : Int) p b
theorem rsecs_len (E : Int) (a num : Nat) (b : Bytes) (r : Nat) : (rsecs E a num b r).length = r := by simp [rsecs]
theorem rsecs_at (E : Int) (a num : Nat) (b : Bytes) {r p : Nat} (h : p < r) : (rsecs E a num b r)[p]? = some (jsec E ((a : Int) + (p : Int)) (num : Int) p b) := by simp [rsecs, h]
theorem rsecs_succ (E : Int) (a num : Nat) (b : Bytes) (r : Nat) : rsecs E a num b (r + 1) = rsecs E a num b r ++ [jsec E ((a : Int) + (r : Int)) (num : Int) r b] := by simp [rsecs, List.range_succ]

/-- what the sectors' function leaves -/
def SecsTo (L : List Bytes) (n : Nat) (w : World) (e : Ending) (w' : World) : Prop :=
  ∃ a c, e = .returned (.slice a n c) ∧ RowsV w' (.slice a n c) L ∧ Upd [] w w'

set_option maxRecDepth 100000 in
set_option maxHeartbeats 4000000 in
theorem rsectors_any {w : World} {v : Value} {b : Bytes} {E : Int} {A N : Nat} (e0 : 0 ≤ E) (e1 : E ≤ 18446744073709551615) (hv : BytesV w v b) (hl : b.length ≤ 8000) (hA : A ≤ 100000) (hN : N ≤ 100000) :
    Calls Try.prog 91 #[.int .u64 E, .int .i64 (A : Int), .int .i64 (N : Int), v] w (SecsTo (rsecs E A N b (jparts b.length)) (jparts b.length) w) := by
  obtain ⟨a, c, rfl, hc, hm⟩ := hv.shape
  have hcm : (c : Int) ≤ 9223372036854775807 := by unfold maxLen at hm; omega
  obtain ⟨q, hq⟩ : ∃ q, q = jparts b.length := ⟨_, rfl⟩
  rw [← hq]
  have hq35 : q ≤ 35 := by rw [hq]; exact jparts_le hl
  have HV := Lib.hid hv
  have HQ := Lib.hid hq
  clear hv hq hm
  go_enter Try.func91, Try.ntmps91
  go_wp2_with (fail)
  go_loopw [9, 10] (fun o i wr => ∃ (p : Nat) (oa : Option Addr) (oc : Nat), p ≤ q ∧ i = .int .i64 (p : Int) ∧ o = .slice oa p oc ∧ Owns w [rowsT (.slice oa p oc) (rsecs E A N b p)] wr) (fun _ i _ => q - (intOf i).toNat)
  case atStart => exact ⟨0, none, 0, Nat.zero_le _, rfl, rfl, own_rows_nil (Owns.none w)⟩
  case round =>
    obtain ⟨p, oa, oc, hp, rfl, rfl, hO⟩ := hrel
    rename World => wo
    have hp35 : p ≤ 35 := by omega
    have HO := Lib.hid hO
    clear hO
    by_cases hlt : p < q
    · have hpl : p * 234 < b.length := jparts_lt (by rw [← HQ.out]; exact hlt)
      obtain ⟨g, off, rfl⟩ : ∃ g off, a = some ⟨g, off, none⟩ := by
        rcases HV.out with ⟨_, hb0⟩ | ⟨g, off, cap, he, _, _, _⟩
        · rw [hb0] at hpl; simp at hpl
        · cases he; exact ⟨g, off, rfl⟩
      have hpv : BytesV wo (.slice (some ⟨g, off + 234 * p, none⟩) (jpiece b p).length (c - 234 * p)) (jpiece b p) := by
        have h1 := (HV.out.upd HO.out.mine (by simp)).sub (i := 234 * p) (k := (jpiece b p).length) (by rw [jpiece_len]; omega)
        have e : (b.drop (234 * p)).take (jpiece b p).length = jpiece b p := by
          rw [jpiece_len, Nat.mul_comm 234 p]
          unfold jpiece
          rcases Nat.le_total 234 (b.length - p * 234) with h | h
          · rw [Nat.min_eq_left h]
          · rw [Nat.min_eq_right h, List.take_of_length_le (by simp), List.take_of_length_le (by simp; omega)]
        rwa [e] at h1
      have hjl := jpiece_len b p
      obtain ⟨m, hm⟩ : ∃ m, m = (jpiece b p).length := ⟨_, rfl⟩
      rw [← hm] at hjl hpv
      have hm234 : m ≤ 234 := by omega
      have HPV := Lib.hid hpv
      have HM := Lib.hid hm
      have HJ := Lib.hid hjl
      clear hpv hm hjl
      by_cases hmn : 234 * (p : Int) + 234 < (b.length : Int)
      · have hm1 : 234 * p + 234 - 234 * p = m := by have := HJ.out; omega
        have HM1 := Lib.hid hm1
        clear hm1
        go_wp2_with (fail)
        refine (rparts_any b.length (by omega) _).mono ?_
        rintro e w' ⟨rfl, rfl⟩
        rw [← HQ.out]
        go_wp2_with (fail)
        rw [HM1.out]
        refine (big_any wo e0 e1).mono ?_
        rintro e w1 ⟨v1, rfl, hb1, hu1, -⟩
        obtain ⟨sa1, sc1, w1', r1, g1⟩ := ((Grows.nil wo).upd hu1).append_n hb1.view 33 (n := 8) rfl (by decide)
        rw [List.nil_append] at g1
        have R1 := Lib.hid r1
        have G1 := Lib.hid g1
        clear r1 g1 hb1 hu1
        go_wp2_with (at_builtin; refine wpList_append_ran _ rfl _ _ 33 33 rfl rfl rfl R1.out ?_)
        refine (rbig4_any w1' (x := (A : Int) + (p : Int)) (by omega) (by omega)).mono ?_
        rintro e w2 ⟨va2, vc2, rfl, hb2, hu2⟩
        obtain ⟨sa2, sc2, w2', r2, g2⟩ := (G1.out.upd hu2).append_n hb2 33 (n := 12) rfl (by decide)
        have R2 := Lib.hid r2
        have G2 := Lib.hid g2
        clear r2 g2 hb2 hu2
        go_wp2_with (at_builtin; refine wpList_append_ran _ rfl _ _ 33 33 rfl rfl rfl R2.out ?_)
        refine (rbig4_any w2' (x := (N : Int)) (by omega) (by omega)).mono ?_
        rintro e w3 ⟨va3, vc3, rfl, hb3, hu3⟩
        obtain ⟨sa3, sc3, w3', r3, g3⟩ := (G2.out.upd hu3).append_n hb3 33 (n := 16) rfl (by decide)
        have R3 := Lib.hid r3
        have G3 := Lib.hid g3
        clear r3 g3 hb3 hu3
        go_wp2_with (at_builtin; refine wpList_append_ran _ rfl _ _ 33 33 rfl rfl rfl R3.out ?_)
        refine (rbig2_any w3' (x := (p : Int)) (by omega) (by omega)).mono ?_
        rintro e w4 ⟨va4, vc4, rfl, hb4, hu4⟩
        obtain ⟨sa4, sc4, w4', r4, g4⟩ := (G3.out.upd hu4).append_n hb4 33 (n := 18) rfl (by decide)
        have R4 := Lib.hid r4
        have G4 := Lib.hid g4
        clear r4 g4 hb4 hu4
        go_wp2_with (at_builtin; refine wpList_append_ran _ rfl _ _ 33 33 rfl rfl rfl R4.out ?_)
        refine (rparts_any b.length (by omega) _).mono ?_
        rintro e w' ⟨rfl, rfl⟩
        rw [← HQ.out]
        go_wp2_with (fail)
        refine (rbig2_any w4' (x := (q : Int)) (by omega) (by omega)).mono ?_
        rintro e w5 ⟨va5, vc5, rfl, hb5, hu5⟩
        obtain ⟨sa5, sc5, w5', r5, g5⟩ := (G4.out.upd hu5).append_n hb5 33 (n := 20) rfl (by decide)
        have R5 := Lib.hid r5
        have G5 := Lib.hid g5
        clear r5 g5 hb5 hu5
        go_wp2_with (at_builtin; refine wpList_append_ran _ rfl _ _ 33 33 rfl rfl rfl R5.out ?_)
        refine (rbig2_any w5' (x := (m : Int)) (by omega) (by omega)).mono ?_
        rintro e w6 ⟨va6, vc6, rfl, hb6, hu6⟩
        obtain ⟨sa6, sc6, w6', r6, g6⟩ := (G5.out.upd hu6).append_n hb6 33 (n := 22) rfl (by decide)
        have R6 := Lib.hid r6
        have G6 := Lib.hid g6
        clear r6 g6 hb6 hu6
        have hp6 := HPV.out.upd G6.out.2.1 (by simp)
        have hl6 : (be64 E ++ be32 ((A : Int) + (p : Int)) ++ be32 (N : Int) ++ be16 (p : Int) ++ be16 (q : Int) ++ be16 (m : Int)).length = 22 := by simp [be64_len, be32_len, be16_len]
        have hl7 : (be64 E ++ be32 ((A : Int) + (p : Int)) ++ be32 (N : Int) ++ be16 (p : Int) ++ be16 (q : Int) ++ be16 (m : Int) ++ jpiece b p).length = 22 + m := by rw [List.length_append, hl6, ← HM.out]
        obtain ⟨a7, c7, w7, r7, g7⟩ := G6.out.append_n hp6 33 hl7 (by omega)
        obtain ⟨T, hT⟩ : ∃ T, T = be64 E ++ be32 ((A : Int) + (p : Int)) ++ be32 (N : Int) ++ be16 (p : Int) ++ be16 (q : Int) ++ be16 (m : Int) ++ jpiece b p := ⟨_, rfl⟩
        rw [← hT] at g7 hl7
        obtain ⟨n7, hn7⟩ : ∃ n7, n7 = 22 + m := ⟨_, rfl⟩
        rw [← hn7] at r7 g7 hl7
        have hn256 : n7 ≤ 256 := by omega
        have hJS : T ++ List.replicate (256 - n7) 0 = jsec E ((A : Int) + (p : Int)) (N : Int) p b := by
          rw [hT, hn7, HM.out, HQ.out]; rfl
        have HJS := Lib.hid hJS
        have HL7 := Lib.hid hl7
        have R7 := Lib.hid r7
        have G7 := Lib.hid g7
        have g70 : Grows wo w7 (.slice a7 n7 c7) (T ++ List.replicate (n7 - n7) 0) := by simpa using g7
        have G70 := Lib.hid g70
        clear r7 g7 hl7 hJS hT hn7 hl6 hp6 g70
        go_wp2_with (at_builtin; first | (refine wpList_append_ran _ rfl _ _ 33 33 rfl rfl rfl R6.out ?_; clear R6) | (refine wpList_append_ran _ rfl _ _ 33 33 rfl rfl rfl R7.out ?_; clear R7))
        go_loopw [12] (fun s wk => ∃ (k : Nat) (sa : Option Addr) (sc : Nat), k ≤ 256 ∧ n7 ≤ k ∧ s = .slice sa k sc ∧ Grows wo wk (.slice sa k sc) (T ++ List.replicate (k - n7) 0)) (fun s _ => match s with | .slice _ n _ => 256 - n | _ => 0)
        case atStart => exact ⟨n7, a7, c7, hn256, Nat.le_refl _, rfl, G70.out⟩
        case round =>
          obtain ⟨k, sa, sc, hk, hk1, rfl, hg⟩ := hrel
          by_cases hlk : k < 256
          · obtain ⟨a8, c8, w8, r8, g8⟩ := hg.append1 0 33 (by rw [List.length_append, HL7.out, List.length_replicate]; omega)
            have hl8 : ((T ++ List.replicate (k - n7) 0) ++ [0]).length = k + 1 := by simp [HL7.out]; omega
            have he8 : (T ++ List.replicate (k - n7) 0) ++ [0] = T ++ List.replicate (k + 1 - n7) 0 := by
              rw [List.append_assoc, show k + 1 - n7 = (k - n7) + 1 by omega, List.replicate_succ']
            rw [hl8] at r8 g8
            rw [he8] at g8
            have R8 : Hid ((Builtin.append_ #[33, 33] 33 #[.slice sa k sc, .slice (some ⟨wr.heap.size, 0, none⟩) 1 1]).run Try.prog (wr.alloc (.cells #[.int .u8 0] 5)) = .ok (.slice a8 (k + 1) c8) w8) := Lib.hid r8
            have G8 := Lib.hid g8
            clear r8 g8 hl8 he8 hg
            go_wp2_with (at_builtin; refine wpList_append_ran _ rfl _ _ 33 33 rfl rfl rfl R8.out ?_)
            go_roundw
            case rel => exact ⟨k + 1, a8, c8, by omega, by omega, rfl, G8.out⟩
            case measure => simp only []; omega
          · obtain rfl : k = 256 := by omega
            rw [HJS.out] at hg
            obtain ⟨oa9, oc9, w9, r9, ho9, hk9⟩ := own_rows_push (HO.out.upd hg.2.1) 0 rfl hg.1.view hg.1.inBytes (by rw [rsecs_len]; omega) 66
            rw [rsecs_len, ← rsecs_succ] at ho9
            rw [rsecs_len] at r9
            unfold Pushes at r9
            have R9 := Lib.hid r9
            have HO9 : Hid (Owns w [rowsT (.slice oa9 (p + 1) oc9) (rsecs E A N b (p + 1))] w9) := Lib.hid ho9
            clear r9 ho9 hk9 hg
            go_wp2_with (at_builtin; refine wpList_append_ran _ rfl _ _ 66 66 rfl rfl rfl R9.out ?_)
            go_roundw
            case rel => exact ⟨p + 1, oa9, oc9, by omega, by go_num, rfl, HO9.out⟩
            case measure => simp only [intOf]; omega
      · have hm1 : b.length - 234 * p = m := by have := HJ.out; omega
        have HM1 := Lib.hid hm1
        clear hm1
        go_wp2_with (fail)
        refine (rparts_any b.length (by omega) _).mono ?_
        rintro e w' ⟨rfl, rfl⟩
        rw [← HQ.out]
        go_wp2_with (fail)
        rw [HM1.out]
        refine (big_any wo e0 e1).mono ?_
        rintro e w1 ⟨v1, rfl, hb1, hu1, -⟩
        obtain ⟨sa1, sc1, w1', r1, g1⟩ := ((Grows.nil wo).upd hu1).append_n hb1.view 33 (n := 8) rfl (by decide)
        rw [List.nil_append] at g1
        have R1 := Lib.hid r1
        have G1 := Lib.hid g1
        clear r1 g1 hb1 hu1
        go_wp2_with (at_builtin; refine wpList_append_ran _ rfl _ _ 33 33 rfl rfl rfl R1.out ?_)
        refine (rbig4_any w1' (x := (A : Int) + (p : Int)) (by omega) (by omega)).mono ?_
        rintro e w2 ⟨va2, vc2, rfl, hb2, hu2⟩
        obtain ⟨sa2, sc2, w2', r2, g2⟩ := (G1.out.upd hu2).append_n hb2 33 (n := 12) rfl (by decide)
        have R2 := Lib.hid r2
        have G2 := Lib.hid g2
        clear r2 g2 hb2 hu2
        go_wp2_with (at_builtin; refine wpList_append_ran _ rfl _ _ 33 33 rfl rfl rfl R2.out ?_)
        refine (rbig4_any w2' (x := (N : Int)) (by omega) (by omega)).mono ?_
        rintro e w3 ⟨va3, vc3, rfl, hb3, hu3⟩
        obtain ⟨sa3, sc3, w3', r3, g3⟩ := (G2.out.upd hu3).append_n hb3 33 (n := 16) rfl (by decide)
        have R3 := Lib.hid r3
        have G3 := Lib.hid g3
        clear r3 g3 hb3 hu3
        go_wp2_with (at_builtin; refine wpList_append_ran _ rfl _ _ 33 33 rfl rfl rfl R3.out ?_)
        refine (rbig2_any w3' (x := (p : Int)) (by omega) (by omega)).mono ?_
        rintro e w4 ⟨va4, vc4, rfl, hb4, hu4⟩
        obtain ⟨sa4, sc4, w4', r4, g4⟩ := (G3.out.upd hu4).append_n hb4 33 (n := 18) rfl (by decide)
        have R4 := Lib.hid r4
        have G4 := Lib.hid g4
        clear r4 g4 hb4 hu4
        go_wp2_with (at_builtin; refine wpList_append_ran _ rfl _ _ 33 33 rfl rfl rfl R4.out ?_)
        refine (rparts_any b.length (by omega) _).mono ?_
        rintro e w' ⟨rfl, rfl⟩
        rw [← HQ.out]
        go_wp2_with (fail)
        refine (rbig2_any w4' (x := (q : Int)) (by omega) (by omega)).mono ?_
        rintro e w5 ⟨va5, vc5, rfl, hb5, hu5⟩
        obtain ⟨sa5, sc5, w5', r5, g5⟩ := (G4.out.upd hu5).append_n hb5 33 (n := 20) rfl (by decide)
        have R5 := Lib.hid r5
        have G5 := Lib.hid g5
        clear r5 g5 hb5 hu5
        go_wp2_with (at_builtin; refine wpList_append_ran _ rfl _ _ 33 33 rfl rfl rfl R5.out ?_)
        refine (rbig2_any w5' (x := (m : Int)) (by omega) (by omega)).mono ?_
        rintro e w6 ⟨va6, vc6, rfl, hb6, hu6⟩
        obtain ⟨sa6, sc6, w6', r6, g6⟩ := (G5.out.upd hu6).append_n hb6 33 (n := 22) rfl (by decide)
        have R6 := Lib.hid r6
        have G6 := Lib.hid g6
        clear r6 g6 hb6 hu6
        have hp6 := HPV.out.upd G6.out.2.1 (by simp)
        have hl6 : (be64 E ++ be32 ((A : Int) + (p : Int)) ++ be32 (N : Int) ++ be16 (p : Int) ++ be16 (q : Int) ++ be16 (m : Int)).length = 22 := by simp [be64_len, be32_len, be16_len]
        have hl7 : (be64 E ++ be32 ((A : Int) + (p : Int)) ++ be32 (N : Int) ++ be16 (p : Int) ++ be16 (q : Int) ++ be16 (m : Int) ++ jpiece b p).length = 22 + m := by rw [List.length_append, hl6, ← HM.out]
        obtain ⟨a7, c7, w7, r7, g7⟩ := G6.out.append_n hp6 33 hl7 (by omega)
        obtain ⟨T, hT⟩ : ∃ T, T = be64 E ++ be32 ((A : Int) + (p : Int)) ++ be32 (N : Int) ++ be16 (p : Int) ++ be16 (q : Int) ++ be16 (m : Int) ++ jpiece b p := ⟨_, rfl⟩
        rw [← hT] at g7 hl7
        obtain ⟨n7, hn7⟩ : ∃ n7, n7 = 22 + m := ⟨_, rfl⟩
        rw [← hn7] at r7 g7 hl7
        have hn256 : n7 ≤ 256 := by omega
        have hJS : T ++ List.replicate (256 - n7) 0 = jsec E ((A : Int) + (p : Int)) (N : Int) p b := by
          rw [hT, hn7, HM.out, HQ.out]; rfl
        have HJS := Lib.hid hJS
        have HL7 := Lib.hid hl7
        have R7 := Lib.hid r7
        have G7 := Lib.hid g7
        have g70 : Grows wo w7 (.slice a7 n7 c7) (T ++ List.replicate (n7 - n7) 0) := by simpa using g7
        have G70 := Lib.hid g70
        clear r7 g7 hl7 hJS hT hn7 hl6 hp6 g70
        go_wp2_with (at_builtin; first | (refine wpList_append_ran _ rfl _ _ 33 33 rfl rfl rfl R6.out ?_; clear R6) | (refine wpList_append_ran _ rfl _ _ 33 33 rfl rfl rfl R7.out ?_; clear R7))
        go_loopw [12] (fun s wk => ∃ (k : Nat) (sa : Option Addr) (sc : Nat), k ≤ 256 ∧ n7 ≤ k ∧ s = .slice sa k sc ∧ Grows wo wk (.slice sa k sc) (T ++ List.replicate (k - n7) 0)) (fun s _ => match s with | .slice _ n _ => 256 - n | _ => 0)
        case atStart => exact ⟨n7, a7, c7, hn256, Nat.le_refl _, rfl, G70.out⟩
        case round =>
          obtain ⟨k, sa, sc, hk, hk1, rfl, hg⟩ := hrel
          by_cases hlk : k < 256
          · obtain ⟨a8, c8, w8, r8, g8⟩ := hg.append1 0 33 (by rw [List.length_append, HL7.out, List.length_replicate]; omega)
            have hl8 : ((T ++ List.replicate (k - n7) 0) ++ [0]).length = k + 1 := by simp [HL7.out]; omega
            have he8 : (T ++ List.replicate (k - n7) 0) ++ [0] = T ++ List.replicate (k + 1 - n7) 0 := by
              rw [List.append_assoc, show k + 1 - n7 = (k - n7) + 1 by omega, List.replicate_succ']
            rw [hl8] at r8 g8
            rw [he8] at g8
            have R8 : Hid ((Builtin.append_ #[33, 33] 33 #[.slice sa k sc, .slice (some ⟨wr.heap.size, 0, none⟩) 1 1]).run Try.prog (wr.alloc (.cells #[.int .u8 0] 5)) = .ok (.slice a8 (k + 1) c8) w8) := Lib.hid r8
            have G8 := Lib.hid g8
            clear r8 g8 hl8 he8 hg
            go_wp2_with (at_builtin; refine wpList_append_ran _ rfl _ _ 33 33 rfl rfl rfl R8.out ?_)
            go_roundw
            case rel => exact ⟨k + 1, a8, c8, by omega, by omega, rfl, G8.out⟩
            case measure => simp only []; omega
          · obtain rfl : k = 256 := by omega
            rw [HJS.out] at hg
            obtain ⟨oa9, oc9, w9, r9, ho9, hk9⟩ := own_rows_push (HO.out.upd hg.2.1) 0 rfl hg.1.view hg.1.inBytes (by rw [rsecs_len]; omega) 66
            rw [rsecs_len, ← rsecs_succ] at ho9
            rw [rsecs_len] at r9
            unfold Pushes at r9
            have R9 := Lib.hid r9
            have HO9 : Hid (Owns w [rowsT (.slice oa9 (p + 1) oc9) (rsecs E A N b (p + 1))] w9) := Lib.hid ho9
            clear r9 ho9 hk9 hg
            go_wp2_with (at_builtin; refine wpList_append_ran _ rfl _ _ 66 66 rfl rfl rfl R9.out ?_)
            go_roundw
            case rel => exact ⟨p + 1, oa9, oc9, by omega, by go_num, rfl, HO9.out⟩
            case measure => simp only [intOf]; omega
    · obtain rfl : p = q := by omega
      have hF : SecsTo (rsecs E A N b p) p w (.returned (.slice oa p oc)) wo := ⟨_, _, rfl, (own_rows HO.out 0 rfl).view, HO.out.mine⟩
      have HF := Lib.hid hF
      clear hF
      go_wp2_with (fail)
      refine (rparts_any b.length (by omega) _).mono ?_
      rintro e w' ⟨rfl, rfl⟩
      rw [← HQ.out]
      go_wp2_with (fail)
      go_ret
      exact HF.out

/-- the records that the reference finds -/
def RScanTo (R : List Bytes) (w : World) (e : Ending) (w' : World) : Prop := ∃ va, e = .returned va ∧ Owns w [rowsT va R] w'

set_option maxRecDepth 100000 in
set_option maxHeartbeats 8000000 in
theorem rscan_any {w : World} {v : Value} {Ar : List Bytes} {E : Int} {c : Nat} (e0 : 0 ≤ E) (e1 : E ≤ 18446744073709551615) (hv : RowsV w v Ar) (hc : Ar.length = c) (hcm : c ≤ 1000) (h256 : ∀ (i : Nat) (b : Bytes), Ar[i]? = some b → b.length = 256) {s : Nat → Bytes} (hs : ∀ i, i < c → s i = Ar.getD i []) :
    Calls Try.prog 48 #[v, .int .u64 E] w (RScanTo (scanAll s c E) w) := by
  obtain ⟨a, cap, rfl, _, _⟩ := hv.shape
  obtain ⟨R, hR⟩ : ∃ R, R = scanAll s c E := ⟨_, rfl⟩
  rw [← hR]
  have hel : ∀ j, j < c → ∃ g off gx ox d, a = some ⟨g, off, none⟩ ∧ w.cell? ⟨g, off + j, none⟩ = some (.slice (some ⟨gx, ox, none⟩) 256 d) ∧ BytesV w (.slice (some ⟨gx, ox, none⟩) 256 d) (s j) ∧ 256 ≤ d ∧ d ≤ maxLen := by
    intro j hj
    obtain ⟨b, hb⟩ : ∃ b, Ar[j]? = some b := ⟨Ar[j]'(by omega), List.getElem?_eq_getElem (by omega)⟩
    have hl := h256 j b hb
    have hsj : s j = b := by rw [hs j hj]; simp [List.getD, hb]
    obtain ⟨g, off, x, d, rfl, h1, h2, h3⟩ := hv.at_ hb
    rw [hl] at h1 h2
    rw [hsj]
    have h2' := h2
    rcases h2' with ⟨_, h0⟩ | ⟨gx, ox, d', he, h4, h5, _⟩
    · rw [h0] at hl; simp at hl
    · rw [hl] at he
      cases he
      exact ⟨g, off, gx, ox, d, rfl, h1, h2, by omega, h5⟩
  have hsl : ∀ j, j < c → (s j).length = 256 := by
    intro j hj
    obtain ⟨_, _, _, _, _, _, _, h2, _⟩ := hel j hj
    obtain ⟨_, _, he, _, _⟩ := h2.shape
    injection he with q1 q2 q3
    exact q2.symm
  rw [hc]
  have HEL := Lib.hid hel
  have HSL := Lib.hid hsl
  have HR := Lib.hid hR
  clear hel hsl hs hR hv h256
  have hci : (c : Int) ≤ 1000 := by omega
  go_enter Try.func48, Try.ntmps48
  go_wp2_with (fail)
  go_loopw [5, 6] (fun o x wr => ∃ (A n fu : Nat) (L : List Bytes) (oa : Option Addr) (oc : Nat), x = .int .i64 (A : Int) ∧ A ≤ c ∧ n ≤ A ∧ n = L.length ∧ c - A ≤ fu ∧ o = .slice oa n oc ∧ R = L ++ scanFrom s c E fu A n ∧ Owns w [rowsT (.slice oa n oc) L] wr) (fun _ x _ => c - (intOf x).toNat)
  case atStart => exact ⟨0, 0, c, [], none, 0, rfl, Nat.zero_le _, Nat.le_refl _, rfl, by omega, rfl, HR.out, own_rows_nil (Owns.none w)⟩
  case round =>
    clear HR
    obtain ⟨A, n, fu, L, oa, oc, rfl, hA, hnA, hn, hfu, rfl, hRe, hO⟩ := hrel
    rename World => wo
    have hout : ∀ wk, Upd [] wo wk → scanFrom s c E fu A n = [] → RScanTo R w (.returned (.slice oa n oc)) wk := by
      intro wk hu he
      rw [he, List.append_nil] at hRe
      exact ⟨_, rfl, by rw [hRe]; exact hO.upd hu⟩
    by_cases hlt : A < c
    · obtain ⟨fu', rfl⟩ : ∃ fu', fu = fu' + 1 := ⟨fu - 1, by omega⟩
      obtain ⟨rd, hrd⟩ : ∃ rd : Nat → Bytes, rd = fun p => s (A + p) := ⟨_, rfl⟩
      have hnone : ∀ wk, Upd [] wo wk → (∀ b, ¬ IsRec rd (c - A) E A n b) → RScanTo R w (.returned (.slice oa n oc)) wk := by
        intro wk hu hno
        refine hout wk hu ?_
        unfold scanFrom
        rw [← hrd, recAt_none hno]
      have hsome : ∀ b, IsRec rd (c - A) E A n b → R = (L ++ [b]) ++ scanFrom s c E fu' (A + jparts b.length) (n + 1) := by
        intro b hb
        have h1 := hRe
        have he : scanFrom s c E (fu' + 1) A n = b :: scanFrom s c E fu' (A + jparts b.length) (n + 1) := by
          conv => lhs; unfold scanFrom; rw [← hrd, recAt_some hb]
        rw [he] at h1
        rw [h1]; simp
      obtain ⟨P, hP⟩ : ∃ P, P = num16 (rd 0) 18 := ⟨_, rfl⟩
      have hP16 : P ≤ 65535 := by rw [hP]; have := num16_lt (rd 0) 18; omega
      have hcells : ∀ k, A + k < c → ∃ g off gx ox d, a = some ⟨g, off, none⟩ ∧ (∀ wk, Upd [] w wk → wk.cell? ⟨g, off + (A + k), none⟩ = some (.slice (some ⟨gx, ox, none⟩) 256 d)) ∧ (∀ wk, Upd [] w wk → BytesV wk (.slice (some ⟨gx, ox, none⟩) 256 d) (rd k)) ∧ 256 ≤ d ∧ (d : Int) ≤ 9223372036854775807 := by
        intro k hk
        obtain ⟨g, off, gx, ox, d, he, h1, h2, h3, h4⟩ := HEL.out (A + k) hk
        refine ⟨g, off, gx, ox, d, he, fun wk hu => ?_, fun wk hu => ?_, h3, by unfold maxLen at h4; omega⟩
        · rw [World.cell?_of_block (w := w) (a := ⟨g, off + (A + k), none⟩) (hu.block g (World.block_lt_of_cell? w _ h1) (by simp))]; exact h1
        · rw [hrd]; exact h2.upd hu (by simp)
      have hrl : ∀ k, A + k < c → (rd k).length = 256 := by intro k hk; rw [hrd]; exact HSL.out (A + k) hk
      obtain ⟨g, off, gx, ox, d, rfl, hc0, hb0, hd1, hd2⟩ := hcells 0 (by omega)
      have hc0' := hc0 wo hO.mine
      rw [Nat.add_zero] at hc0'
      have hv18 : BytesV wo (.slice (some ⟨gx, ox + 18, none⟩) 2 (d - 18)) (((rd 0).drop 18).take 2) := (hb0 wo hO.mine).sub (i := 18) (k := 2) (by rw [hrl 0 (by omega)]; omega)
      have hv18l : (((rd 0).drop 18).take 2).length = 2 := by rw [List.length_take, List.length_drop, hrl 0 (by omega)]; rfl
      have hn18 := number_any hv18 hv18l
      have hPe : (beNum (((rd 0).drop 18).take 2) : Int) = (P : Int) := by rw [hP]; rfl
      rw [hPe] at hn18
      have HN := Lib.hid hn
      have HRE := Lib.hid hRe
      have HO := Lib.hid hO
      have HNO := Lib.hid hnone
      have HSO := Lib.hid hsome
      have HPP := Lib.hid hP
      have HC := Lib.hid hcells
      have HRL := Lib.hid hrl
      have HN18 := Lib.hid hn18
      clear hn hRe hO hnone hsome hP hcells hrl hn18 hPe hv18 hv18l hc0 hb0 hout hrd
      go_wp2_with (fail)
      refine HN18.out.mono ?_
      rintro e w' ⟨rfl, rfl⟩
      by_cases b1 : P < 1
      · have HF := Lib.hid (HNO.out wo (Upd.refl [] wo) (by
          intro b hb
          have h3 := hb.parts
          rw [← HPP.out] at h3
          have := hb.pos
          omega))
        go_wp2_with (fail)
        go_ret
        exact HF.out
      · by_cases b2 : 35 < P
        · have HF := Lib.hid (HNO.out wo (Upd.refl [] wo) (by
            intro b hb
            have h3 := hb.parts
            rw [← HPP.out] at h3
            have := hb.pos
            omega))
          go_wp2_with (fail)
          refine (rparts_any 8000 (by omega) _).mono ?_
          rw [parts8000]
          rintro e w' ⟨rfl, rfl⟩
          go_wp2_with (fail)
          go_ret
          exact HF.out
        · by_cases b3 : c < A + P
          · have HF := Lib.hid (HNO.out wo (Upd.refl [] wo) (by
              intro b hb
              have h3 := hb.parts
              rw [← HPP.out] at h3
              have := hb.fits
              omega))
            go_wp2_with (fail)
            refine (rparts_any 8000 (by omega) _).mono ?_
            rw [parts8000]
            rintro e w' ⟨rfl, rfl⟩
            go_wp2_with (fail)
            go_ret
            exact HF.out
          · go_wp2_with (fail)
            refine (rparts_any 8000 (by omega) _).mono ?_
            rw [parts8000]
            rintro e w' ⟨rfl, rfl⟩
            go_wp2_with (fail)
            go_loopw [8, 9] (fun x p wr => ∃ (k bl : Nat) (ba : Option Addr) (bc : Nat), p = .int .i64 (k : Int) ∧ k ≤ P ∧ bl = (jcol rd k).length ∧ x = .slice ba bl bc ∧ Grows wo wr (.slice ba bl bc) (jcol rd k)) (fun _ p _ => P - (intOf p).toNat)
            case atStart => exact ⟨0, 0, none, 0, rfl, Nat.zero_le _, rfl, rfl, Grows.nil wo⟩
            case round =>
              obtain ⟨k, bl, ba, bc, rfl, hkP, hbl, rfl, hg⟩ := hrel
              have hbl2 : bl ≤ k * 65535 := by rw [hbl]; exact jcol_len rd k
              have hmine : Upd [] w wr := HO.out.mine.trans hg.2.1 (by simp)
              by_cases hk : k < P
              · obtain ⟨g', off', gk, ok, dk, hae, hck, hbk, hdk1, hdk2⟩ := HC.out k (by omega)
                cases hae
                have hck' := hck wr hmine
                have hbk' := hbk wr hmine
                have hrlk := HRL.out k (by omega)
                have hv20 := hbk'.sub (i := 20) (k := 2) (by rw [hrlk]; omega)
                have hv20l : (((rd k).drop 20).take 2).length = 2 := by rw [List.length_take, List.length_drop, hrlk]; rfl
                have hn20 := number_any hv20 hv20l
                obtain ⟨nk, hnk⟩ : ∃ nk, nk = num16 (rd k) 20 := ⟨_, rfl⟩
                have hnk16 : nk ≤ 65535 := by rw [hnk]; have := num16_lt (rd k) 20; omega
                have hnke : (beNum (((rd k).drop 20).take 2) : Int) = (nk : Int) := by rw [hnk]; rfl
                rw [hnke] at hn20
                have HN20 := Lib.hid hn20
                have HNK := Lib.hid hnk
                have HG := Lib.hid hg
                have HBL := Lib.hid hbl
                have HBK := Lib.hid hbk'
                have HRK := Lib.hid hrlk
                clear hn20 hnk hnke hg hbl hbk hbk' hrlk hv20 hv20l hck hmine
                go_wp2_with (fail)
                refine HN20.out.mono ?_
                rintro e w' ⟨rfl, rfl⟩
                by_cases b4 : 234 < nk
                · have HF := Lib.hid (HNO.out wr HG.out.2.1 (by
                    intro b hb
                    have h3 := hb.parts
                    rw [← HPP.out] at h3
                    have := (hb.n (p := k) (by omega)).2
                    rw [← HNK.out] at this; omega))
                  go_wp2_with (fail)
                  go_ret
                  exact HF.out
                · have hxv : BytesV wr (.slice (some ⟨gk, ok + 22, none⟩) nk (dk - 22)) (secPiece (rd k)) := by
                    have h2 := HBK.out.sub (i := 22) (k := nk) (by rw [HRK.out]; omega)
                    unfold secPiece
                    rw [← HNK.out]; exact h2
                  have hpl : (secPiece (rd k)).length = nk := by
                    obtain ⟨_, _, he, _, _⟩ := hxv.shape
                    cases he; rfl
                  have hnl : (jcol rd k ++ secPiece (rd k)).length = bl + nk := by rw [List.length_append, hpl, ← HBL.out]
                  obtain ⟨a6, c6, w6, r6, g6⟩ := HG.out.append_n hxv 33 hnl (by omega)
                  rw [← jcol_succ] at g6 hnl
                  have R6 := Lib.hid r6
                  have G6 := Lib.hid g6
                  have HNL := Lib.hid hnl
                  clear r6 g6 hnl hpl hxv
                  go_wp2_with (at_builtin; refine wpList_append_ran _ rfl _ _ 33 33 rfl rfl (by first | rfl | (go_simp; done) | (go_simp; omega)) R6.out ?_)
                  go_roundw
                  case rel => exact ⟨k + 1, bl + nk, a6, c6, by go_num, by omega, HNL.out.symm, rfl, G6.out⟩
                  case measure => simp only [intOf]; omega
              · obtain rfl : k = P := by omega
                obtain ⟨b, hb⟩ : ∃ b, b = jcol rd k := ⟨_, rfl⟩
                rw [← hb] at hg hbl
                have hrec : ∀ b', IsRec rd (c - A) E A n b' → b' = b := by
                  intro b' hb'
                  rw [hb, HPP.out]
                  exact hb'.eq
                have HREC := Lib.hid hrec
                have HG := Lib.hid hg
                have HBL := Lib.hid hbl
                have HB := Lib.hid hb
                clear hrec hg hbl hb
                by_cases b5 : 8000 < bl
                · have HF := Lib.hid (HNO.out wr HG.out.2.1 (by
                    intro b' hb'
                    have h1 := hb'.le
                    rw [HREC.out b' hb', ← HBL.out] at h1
                    omega))
                  go_wp2_with (fail)
                  go_ret
                  exact HF.out
                · by_cases b6 : jparts bl = k
                  · have hbe : jparts b.length = k := by rw [← HBL.out]; exact b6
                    have hsq := rsectors_any (E := E) (A := A) (N := n) e0 e1 HG.out.1.view (by rw [← HBL.out]; omega) (by omega) (by omega)
                    rw [hbe] at hsq
                    have HSQ := Lib.hid hsq
                    have HBE := Lib.hid hbe
                    clear hsq hbe
                    go_wp2_with (fail)
                    refine (rparts_any bl (by omega) _).mono ?_
                    rintro e w' ⟨rfl, rfl⟩
                    rw [b6]
                    clear b6
                    go_wp2_with (fail)
                    refine HSQ.out.mono ?_
                    rintro e w7 ⟨a7, c7, rfl, hr7, hu7⟩
                    have hcap7 : k ≤ c7 ∧ c7 ≤ maxLen := by
                      obtain ⟨_, _, he, q1, q2⟩ := hr7.shape
                      rw [rsecs_len] at he q1
                      cases he; exact ⟨q1, q2⟩
                    have HR7 := Lib.hid hr7
                    have HG7 := Lib.hid (HG.out.upd hu7)
                    clear hr7 hu7 hcap7 HG HSQ
                    go_wp2_with (fail)
                    go_loopw [12] (fun x wr => ∃ p : Nat, p ≤ k ∧ x = .int .i64 (p : Int) ∧ Upd [] w7 wr ∧ ∀ j, j < p → rd j = jsec E ((A : Int) + (j : Int)) (n : Int) j b) (fun x _ => k - (intOf x).toNat)
                    case atStart => exact ⟨0, Nat.zero_le _, rfl, Upd.refl [] _, by omega⟩
                    case round =>
                      obtain ⟨p, hp, rfl, hu, hsec⟩ := hrel
                      have HSEC := Lib.hid hsec
                      clear hsec
                      by_cases hpk : p < k
                      · have hmine : Upd [] w wr := (HO.out.mine.trans HG7.out.2.1 (by simp)).trans hu (by simp)
                        obtain ⟨g', off', gk, ok, dk, hae, hck, hbk, hdk1, hdk2⟩ := HC.out p (by omega)
                        cases hae
                        obtain ⟨g1, o1, x1, d1, rfl, q1, r1, m1⟩ := (HR7.out.upd hu).at_ (rsecs_at E A n b hpk)
                        rw [jsec_len] at q1 r1
                        have q2 := hck wr hmine
                        have r2 := hbk wr hmine
                        have hl1 := World.block_lt_of_cell? wr _ q1
                        have hl2 := World.block_lt_of_cell? wr _ q2
                        have HUd := Lib.hid (hu.trans (Upd.refl [] wr).drew (by simp))
                        have hsm := same_any (r1.upd (Upd.refl [] wr).drew (by simp)) (r2.upd (Upd.refl [] wr).drew (by simp))
                        have hS : ∀ w' : World, Upd [] wr w' → w'.cell? ⟨g1, o1 + p, none⟩ = some (.slice x1 256 d1) ∧ w'.cell? ⟨g, off + (A + p), none⟩ = some (.slice (some ⟨gk, ok, none⟩) 256 dk) := fun w' hu =>
                          ⟨by rw [World.cell?_of_block (w := wr) (a := ⟨g1, o1 + p, none⟩) (hu.block g1 hl1 (by simp))]; exact q1, by rw [World.cell?_of_block (w := wr) (a := ⟨g, off + (A + p), none⟩) (hu.block g hl2 (by simp))]; exact q2⟩
                        have HS := Lib.hid hS
                        have hi1 : A + p < c := by omega
                        have hi2 : (A : Int) + (p : Int) < (c : Int) := by omega
                        have hi3 : 0 ≤ (A : Int) + (p : Int) := by omega
                        have hi4 : ((A : Int) + (p : Int)).toNat = A + p := by omega
                        have hi5 : IntKind.i64.wrap ((A : Int) + (p : Int)) = (A : Int) + (p : Int) := by simp [IntKind.wrap, IntKind.signed, IntKind.bits]; omega
                        by_cases heq : jsec E ((A : Int) + (p : Int)) (n : Int) p b = rd p
                        · rw [decide_eq_true heq] at hsm
                          have HSM := Lib.hid hsm
                          have HEQ := Lib.hid heq
                          clear hu r1 r2 m1 hsm hS heq hck hbk hmine
                          go_wp2_with (fail)
                          go_region_held3 (fun w' => w'.cell? ⟨g1, o1 + p, none⟩ = some (.slice x1 256 d1) ∧ w'.cell? ⟨g, off + (A + p), none⟩ = some (.slice (some ⟨gk, ok, none⟩) 256 dk)) (first | exact ⟨q1, q2⟩ | exact HS.out _ (by assumption))
                            (first | (go_at_call 27; refine HSM.out.mono ?_; rintro e w4 ⟨rfl, hu4⟩; have hu5 : Upd [] wr w4 := ((Upd.refl [] wr).drew).trans hu4 (by simp)))
                          have HU4 := Lib.hid (HUd.out.trans hu4 (by simp))
                          have HSEC' : Hid (∀ j, j < p + 1 → rd j = jsec E ((A : Int) + (j : Int)) (n : Int) j b) := Lib.hid (by
                            intro j hj
                            by_cases hjp : j = p
                            · subst hjp; exact HEQ.out.symm
                            · exact HSEC.out j (by omega))
                          clear hu4 hu5 q1 q2
                          go_wp2_with (fail)
                          go_roundw
                          case rel => exact ⟨p + 1, by omega, by go_num, HU4.out, HSEC'.out⟩
                          case measure => simp only [intOf]; omega
                        · rw [decide_eq_false heq] at hsm
                          have HSM := Lib.hid hsm
                          have hno : ∀ b', ¬ IsRec rd (c - A) E A n b' := by
                            intro b' hb'
                            have h1 := hb'.secs p (by rw [← hb'.parts, ← HPP.out]; exact hpk)
                            rw [HREC.out b' hb'] at h1
                            exact heq h1.symm
                          have HNN := Lib.hid hno
                          clear hu r1 r2 m1 hsm hS heq hck hbk hmine hno
                          go_wp2_with (fail)
                          go_region_held3 (fun w' => w'.cell? ⟨g1, o1 + p, none⟩ = some (.slice x1 256 d1) ∧ w'.cell? ⟨g, off + (A + p), none⟩ = some (.slice (some ⟨gk, ok, none⟩) 256 dk)) (first | exact ⟨q1, q2⟩ | exact HS.out _ (by assumption))
                            (first | (go_at_call 27; refine HSM.out.mono ?_; rintro e w4 ⟨rfl, hu4⟩; have hu5 : Upd [] wr w4 := ((Upd.refl [] wr).drew).trans hu4 (by simp)))
                          have HF := Lib.hid (HNO.out w4 ((HG7.out.2.1.trans HUd.out (by simp)).trans hu4 (by simp)) HNN.out)
                          clear hu4 hu5 q1 q2
                          go_wp2_with (fail)
                          go_ret
                          exact HF.out
                      · obtain rfl : p = k := by omega
                        have hisr : IsRec rd (c - A) E A n b := by
                          refine ⟨?_, by rw [← HBL.out]; omega, by rw [HBE.out]; omega, fun j hj => HSEC.out j (by rw [HBE.out] at hj; exact hj)⟩
                          by_cases h0 : b.length = 0
                          · have := HBE.out
                            rw [h0] at this
                            simp [jparts] at this; omega
                          · omega
                        have hg9 := HG7.out.upd hu
                        obtain ⟨oa9, oc9, w9, r9, ho9, -⟩ := own_rows_push (HO.out.upd (HG7.out.2.1.trans hu (by simp))) 0 rfl hg9.1.view hg9.1.inBytes (by rw [← HN.out]; omega) 66
                        rw [← HN.out] at r9 ho9
                        unfold Pushes at r9
                        have hre9 := HSO.out b hisr
                        rw [HBE.out] at hre9
                        have R9 := Lib.hid r9
                        have HO9 : Hid (Owns w [rowsT (.slice oa9 (n + 1) oc9) (L ++ [b])] w9) := Lib.hid ho9
                        have HRE9 := Lib.hid hre9
                        have HN9 : Hid (n + 1 = (L ++ [b]).length) := Lib.hid (by rw [List.length_append, ← HN.out]; rfl)
                        clear r9 ho9 hg9 hisr hre9 hu
                        go_wp2_with (at_builtin; refine wpList_append_ran _ rfl _ _ 66 66 rfl rfl rfl R9.out ?_)
                        go_roundw
                        case rel => exact ⟨A + p, n + 1, fu', L ++ [b], oa9, oc9, by go_num, by omega, by omega, HN9.out, by omega, rfl, HRE9.out, HO9.out⟩
                        case measure => simp only [intOf]; omega
                  · have HF := Lib.hid (HNO.out wr HG.out.2.1 (by
                      intro b' hb'
                      have h1 := hb'.parts
                      rw [HREC.out b' hb', ← HPP.out, ← HBL.out] at h1
                      omega))
                    go_wp2_with (fail)
                    refine (rparts_any bl (by omega) _).mono ?_
                    rintro e w' ⟨rfl, rfl⟩
                    have HB6 := Lib.hid b6
                    generalize jparts bl = qq at HB6 ⊢
                    have hbq : ((qq : Int) != (k : Int)) = true := by rw [bne_iff_ne]; have := HB6.out; omega
                    clear b6
                    go_wp2_with (fail)
                    go_ret
                    exact HF.out
    · have HF := Lib.hid (hout wo (Upd.refl [] wo) (scanFrom_end fu A n (by omega)))
      clear hout hRe hO hn
      go_wp2_with (fail)
      go_ret
      exact HF.out

end Go.Proofs.Ytkpoladbabhdmaa
