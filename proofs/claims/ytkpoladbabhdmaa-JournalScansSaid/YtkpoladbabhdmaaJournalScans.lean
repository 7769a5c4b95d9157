/- JournalScans. Conditions: none. -/
import Derived.Test.YtkpoladbabhdmaaJref
import Derived.Test.YtkpoladbabhdmaaJrn9
import Derived.Deep.RegionHeld3
namespace Go.Proofs.Ytkpoladbabhdmaa
open Go.RowKit

set_option maxRecDepth 100000 in
set_option maxHeartbeats 1000000 in
/-- a list that begins with another one -/
theorem rfront_true {w : World} {v1 v2 : Value} {A B : List Bytes} (h1 : RowsV w v1 A) (h2 : RowsV w v2 B) (hle : B.length ≤ A.length) (hfr : ∀ (i : Nat) (b : Bytes), B[i]? = some b → A[i]? = some b) :
    Calls Try.prog 56 #[v1, v2] w (Returns (.bool true) (Upd [] w)) := by
  obtain ⟨a1, c1, rfl, hc1, hm1⟩ := h1.shape
  obtain ⟨a2, c2, rfl, hc2, hm2⟩ := h2.shape
  have hb1 : A.length ≤ 9223372036854775807 := by unfold maxLen at hm1; omega
  have H1 := Lib.hid h1
  have H2 := Lib.hid h2
  have HFR := Lib.hid hfr
  have hdd : decide (A.length < B.length) = false := decide_eq_false (by omega)
  clear h1 h2 hfr hc1 hm1 hc2 hm2
  go_enter Try.func56, Try.ntmps56
  go_wp2_with (fail)
  go_loopw [5] (fun i wr => ∃ k : Nat, k ≤ B.length ∧ i = .int .i64 (k : Int) ∧ Upd [] w wr) (fun i _ => B.length - (intOf i).toNat)
  case atStart => exact ⟨0, Nat.zero_le _, rfl, Upd.refl [] w⟩
  case round =>
    obtain ⟨k, hk, rfl, hU⟩ := hrel
    by_cases hlt : k < B.length
    · obtain ⟨b, hb⟩ : ∃ b, B[k]? = some b := ⟨B[k], List.getElem?_eq_getElem hlt⟩
      obtain ⟨g1, o1, x1, d1, rfl, q1, r1, m1⟩ := (H1.out.upd hU).at_ (HFR.out k b hb)
      obtain ⟨g2, o2, x2, d2, rfl, q2, r2, m2⟩ := (H2.out.upd hU).at_ hb
      have hl1 := World.block_lt_of_cell? wr _ q1
      have hl2 := World.block_lt_of_cell? wr _ q2
      have hka : k < A.length := by omega
      have HUd := Lib.hid (hU.trans (Upd.refl [] wr).drew (by simp))
      have hsm := same_any (r1.upd (Upd.refl [] wr).drew (by simp)) (r2.upd (Upd.refl [] wr).drew (by simp))
      rw [decide_eq_true (Eq.refl b)] at hsm
      have HSM := Lib.hid hsm
      have hS : ∀ w' : World, Upd [] wr w' → w'.cell? ⟨g1, o1 + k, none⟩ = some (.slice x1 b.length d1) ∧ w'.cell? ⟨g2, o2 + k, none⟩ = some (.slice x2 b.length d2) := fun w' hu =>
        ⟨by rw [World.cell?_of_block (w := wr) (a := ⟨g1, o1 + k, none⟩) (hu.block g1 hl1 (by simp))]; exact q1, by rw [World.cell?_of_block (w := wr) (a := ⟨g2, o2 + k, none⟩) (hu.block g2 hl2 (by simp))]; exact q2⟩
      have HS := Lib.hid hS
      clear hU r1 r2 m1 m2 hsm hb hS
      go_wp2_with (fail)
      go_region_held3 (fun w' => w'.cell? ⟨g1, o1 + k, none⟩ = some (.slice x1 b.length d1) ∧ w'.cell? ⟨g2, o2 + k, none⟩ = some (.slice x2 b.length d2)) (first | exact ⟨q1, q2⟩ | exact HS.out _ (by assumption))
        (first | (go_at_call 27; refine HSM.out.mono ?_; rintro e w4 ⟨rfl, hu4⟩; have hu5 : Upd [] wr w4 := ((Upd.refl [] wr).drew).trans hu4 (by simp)))
      have HU4 := Lib.hid (HUd.out.trans hu4 (by simp))
      clear hu4 hu5 q1 q2
      go_wp2_with (fail)
      go_roundw
      case rel => exact ⟨k + 1, by omega, by go_num, HU4.out⟩
      case measure => simp [intOf]; omega
    · have HU := Lib.hid hU
      clear hU
      go_wp2_with (fail)
      go_ret
      exact ⟨rfl, HU.out⟩


set_option maxRecDepth 100000 in
set_option maxHeartbeats 1000000 in
/-- two equal lists are the same -/
theorem rsame_true {w : World} {v1 v2 : Value} {A : List Bytes} (h1 : RowsV w v1 A) (h2 : RowsV w v2 A) : Calls Try.prog 47 #[v1, v2] w (Returns (.bool true) (Upd [] w)) := by
  have HF := Lib.hid (rfront_true h1 h2 (Nat.le_refl _) (fun _ _ h => h))
  obtain ⟨a1, c1, rfl, hc1, hm1⟩ := h1.shape
  obtain ⟨a2, c2, rfl, hc2, hm2⟩ := h2.shape
  have hb1 : A.length ≤ 9223372036854775807 := by unfold maxLen at hm1; omega
  clear h1 h2 hc1 hm1 hc2 hm2
  go_enter Try.func47, Try.ntmps47
  go_wp2_with (fail)
  refine HF.out.mono ?_
  rintro e w' ⟨rfl, hu⟩
  have HU := Lib.hid hu
  clear hu
  go_wp2_with (fail)
  go_ret
  exact ⟨rfl, HU.out⟩

/-- the sectors that are laid -/
def layTo (f : Int) (L : List Bytes) (k : Nat) : List (Int × Bytes) := (List.range k).map fun (i : Nat) => (f + (i : Int), padded (L.getD i []))
theorem layTo_succ (f : Int) (L : List Bytes) (k : Nat) : layTo f L (k + 1) = layTo f L k ++ [(f + (k : Int), padded (L.getD k []))] := by simp [layTo, List.range_succ]
theorem last_lay (f : Int) (L : List Bytes) (i : Nat) : ∀ (k : Nat), i < k → last (layTo f L k) (f + (i : Int)) = some (padded (L.getD i []))
  | 0, h => by omega
  | k + 1, h => by
    rw [layTo_succ, last_snoc]
    unfold put
    split
    · rename_i he
      have : i = k := by simp only at he; omega
      rw [this]
    · rename_i he
      exact last_lay f L i k (by simp only at he; omega)

structure Laid (f : Int) (L : List Bytes) (k : Nat) (D : Dk) : Prop where
  calm : Calm D
  size : D.size = f + (L.length : Int)
  all : D.all = layTo f L k

theorem Laid.start {f : Int} {L : List Bytes} (h0 : 0 ≤ f) (h1 : f ≤ 255) (hl : L.length ≤ 20) : Laid f L 0 (Dk.new (f + (L.length : Int))) := ⟨Calm.new _, by simp [Dk.new]; omega, rfl⟩
theorem Laid.len {f : Int} {L : List Bytes} {k : Nat} {D : Dk} (h : Laid f L k D) : D.all.length = k := by rw [h.all]; simp [layTo]
theorem Laid.step {f : Int} {L : List Bytes} {k : Nat} {D : Dk} (h : Laid f L k D) (h0 : 0 ≤ f) {l : Bytes} (hl : L[k]? = some l) :
    D.writeE (f + (k : Int)) (padded l) = 0 ∧ Laid f L (k + 1) (D.write (f + (k : Int)) (padded l)) := by
  have hk := (List.getElem?_eq_some_iff.1 hl).1
  obtain ⟨p1, p2, p3, p4, _⟩ := h.calm.write (n := f + (k : Int)) (l := padded l) (by omega) (by rw [h.size]; omega) (padded_len l)
  refine ⟨p1, p2, by rw [p3, h.size], ?_⟩
  rw [p4, h.all, layTo_succ]
  simp [List.getD, hl]
theorem Laid.sec {f : Int} {L : List Bytes} {D : Dk} (h : Laid f L L.length D) (i : Nat) (hi : i < L.length) : D.sec (f + (i : Int)) = (L.map padded).getD i [] := by
  unfold Dk.sec
  rw [h.all, last_lay f L i _ hi]
  simp [List.getD, hi]

set_option maxRecDepth 100000 in
set_option maxHeartbeats 2000000 in
theorem jscans_walk (w : World) {v : Value} {L : List Bytes} (hv : RowsV w v L) {f E : Int} (f0 : 0 ≤ f) (f1 : f ≤ 255) (e0 : 0 ≤ E) (e1 : E ≤ 18446744073709551615) :
    Calls Try.prog 13 #[v, .int .u8 f, .int .u64 E] w (Returns (.bool true) (Below w.heap.size w)) := by
  obtain ⟨va, vc, rfl, hvc, hvm⟩ := hv.shape
  have hvl : L.length ≤ 9223372036854775807 := by unfold maxLen at hvm; omega
  have hmk := make256
  have HV := Lib.hid hv
  clear hv hvc hvm
  by_cases h20 : 20 < L.length
  · go_enter Try.func13, Try.ntmps13
    go_wp2_with (fail)
    refine (own_returns (Owns.none w) (awake7_any w)).mono ?_
    rintro e w1 ⟨rfl, hO1, -⟩
    have HO1 := Lib.hid hO1
    clear hO1
    go_wp2_with (fail)
    refine (own_returns HO1.out (awake7_any w1)).mono ?_
    rintro e w2 ⟨rfl, hO2, -⟩
    have HO2 := Lib.hid hO2
    clear hO2
    go_wp2_with (fail)
    go_ret
    exact ⟨rfl, HO2.out.below⟩
  · have hl20 : L.length ≤ 20 := by omega
    go_enter Try.func13, Try.ntmps13
    go_wp2_with (fail)
    refine (own_returns (Owns.none w) (awake7_any w)).mono ?_
    rintro e w1 ⟨rfl, hO1, -⟩
    have HO1 := Lib.hid hO1
    clear hO1
    go_wp2_with (fail)
    refine (own_new HO1.out (f + (L.length : Int))).mono ?_
    rintro e w2 ⟨d, rfl, hO2, -⟩
    have HO2 := Lib.hid (own_rows_nil hO2)
    clear hO2
    go_wp2_with (fail)
    go_loopw [8, 9] (fun x i wr => ∃ (k : Nat) (oa : Option Addr) (oc : Nat), k ≤ L.length ∧ i = .int .i64 (k : Int) ∧ x = .slice oa k oc ∧ ∃ D, Laid f L k D ∧ Owns w [rowsT (.slice oa k oc) ((L.take k).map padded), disk d D] wr) (fun _ i _ => L.length - (intOf i).toNat)
    case atStart => exact ⟨0, none, 0, Nat.zero_le _, rfl, rfl, _, Laid.start f0 f1 hl20, HO2.out⟩
    case round =>
      obtain ⟨k, oa, oc, hk, rfl, rfl, D, hD, hO⟩ := hrel
      by_cases hlt : k < L.length
      · obtain ⟨l, hl⟩ : ∃ l, L[k]? = some l := ⟨L[k], List.getElem?_eq_getElem hlt⟩
        obtain ⟨g, off, x, c, rfl, hcx, hbx, hlm⟩ := (HV.out.upd hO.mine).at_ hl
        obtain ⟨hE, hD'⟩ := hD.step f0 hl
        have hlen := hD.len
        have hgl := World.block_lt_of_cell? wr _ hcx
        have hx0 : l.length ≤ 9223372036854775807 := by unfold maxLen at hlm; omega
        have hct : (L.take k).map padded ++ [padded l] = (L.take (k + 1)).map padded := by rw [List.take_add_one, hl]; simp
        have hcl : ((L.take k).map padded).length = k := by rw [List.length_map, List.length_take]; omega
        have HBX := Lib.hid (hbx.upd ((Upd.refl [] wr).alloc (.cells (bcells zeros) 5)) (by simp))
        have HU := Lib.hid ((Upd.refl [] wr).alloc (.cells (bcells zeros) 5))
        have HG := Lib.hid (heap_alloc_new' wr (.cells (bcells zeros) 5))
        have HO := Lib.hid hO
        have HE := Lib.hid hE
        have HD' := Lib.hid hD'
        have HCT := Lib.hid hct
        have HCL := Lib.hid hcl
        have HLN : Hid (D.all.length < Big) := Lib.hid (by rw [hlen]; unfold Big; omega)
        clear hbx hO hE hD' hlen hD hl hct hcl
        go_wp2_with (with_reducible refine wpList_pad rfl (.tmp 34) (.tmp 38) rfl HU.out HG.out (Nat.le_refl _) HBX.out rfl rfl ?_)
        intro w3 hb3 hu3
        obtain ⟨oa9, oc9, w9, r9, ho9, hk9⟩ := own_rows_push (HO.out.upd hu3) 0 rfl hb3.view hb3.inBytes (by rw [HCL.out]; omega) 66
        rw [HCL.out] at r9 ho9
        rw [HCT.out] at ho9
        unfold Pushes at r9
        have R9 := Lib.hid r9
        have HO9 : Hid (Owns w [rowsT (.slice oa9 (k + 1) oc9) ((L.take (k + 1)).map padded), disk d D] w9) := Lib.hid ho9
        have HB9 := Lib.hid (hb3.keep hk9)
        clear hb3 hu3 r9 ho9 hk9
        go_wp2_with (at_builtin; refine wpList_append_ran _ rfl _ _ 66 66 rfl rfl rfl R9.out ?_)
        refine (own_write HO9.out 1 rfl HB9.out HLN.out).mono ?_
        rw [HE.out]
        rintro e w4 ⟨rfl, hO4, -⟩
        have HO4 : Hid (Owns w [rowsT (.slice oa9 (k + 1) oc9) ((L.take (k + 1)).map padded), disk d (D.write (f + (k : Int)) (padded l))] w4) := Lib.hid hO4
        clear hO4
        go_wp2_with (fail)
        go_roundw
        case rel => exact ⟨k + 1, oa9, oc9, by omega, by go_num, rfl, _, HD'.out, HO4.out⟩
        case measure => simp [intOf]; omega
      · obtain rfl : k = L.length := by omega
        have hsc := own_scan hO 1 rfl hD.calm.down (f := f) (E := E) (c := L.length) f0 (by rw [hD.size]; omega)
        obtain ⟨s, hs⟩ : ∃ s : Nat → Bytes, s = fun j : Nat => D.sec (f + (j : Int)) := ⟨_, rfl⟩
        rw [← hs] at hsc
        have hss : ∀ i, i < L.length → s i = (L.map padded).getD i [] := by intro i hi; rw [hs]; exact hD.sec i hi
        rw [List.take_of_length_le (Nat.le_refl _)] at hO hsc
        have HSC := Lib.hid hsc
        have HSS := Lib.hid hss
        have HO := Lib.hid hO
        clear hsc hss hO hs hD
        go_wp2_with (fail)
        refine HSC.out.mono ?_
        rintro e w5 ⟨v5, x5, rfl, hO5, -⟩
        have hO5 : Owns w [rowsT v5 (scanAll s L.length E), rowsT (.slice oa L.length oc) (L.map padded), disk d { D with a0 := x5 }] w5 := hO5
        have hrs := rscan_any (E := E) e0 e1 (own_rows hO5 1 rfl).view (by rw [List.length_map]) (by omega) (by
          intro i b hb
          rw [List.getElem?_map, Option.map_eq_some_iff] at hb
          obtain ⟨y, _, rfl⟩ := hb
          exact padded_len y) HSS.out
        have HRS := Lib.hid hrs
        have HO5 := Lib.hid hO5
        clear hrs hO5
        go_wp2_with (fail)
        refine HRS.out.mono ?_
        rintro e w6 ⟨v6, rfl, ho6⟩
        have HSM := Lib.hid (rsame_true ((own_rows HO5.out 0 rfl).view.upd ho6.mine) (own_rows ho6 0 rfl).view)
        have HO6 := Lib.hid (HO5.out.upd ho6.mine)
        clear ho6
        go_wp2_with (fail)
        refine (own_returns HO6.out HSM.out).mono ?_
        rintro e w7 ⟨rfl, hO7, -⟩
        have HO7 := Lib.hid hO7
        clear hO7
        go_wp2_with (fail)
        go_ret
        exact ⟨rfl, HO7.out.below⟩

end Go.Proofs.Ytkpoladbabhdmaa
