/- JournalLimits. Conditions: none. -/
import Derived.Test.YtkpoladbabhdmaaJrn9
import Derived.Laws.MakeOwn
namespace Go.Proofs.Ytkpoladbabhdmaa
open Go.RowKit

theorem makeN8 (w : World) (n : Int) (m : Nat) (h0 : n = m) (h1 : m ≤ 100000) : (Instr.makeSlice 33 (.int .i64 n) (.int .i64 n)).run Try.prog w = .ok (.slice (some ⟨w.heap.size, 0, none⟩) m m) (w.alloc (.cells (bcells (List.replicate m 0)) 5)) := by
  subst h0
  obtain ⟨i, hi, hz, hsize, hby⟩ := info_parts Try.info5
  have h := run_make (P := Try.prog) w 33 5 i (.int .u8 0) Try.underlying33 hi hz .i64 .i64 (m : Int) (m : Int) (by omega) (Int.le_refl _) (by rw [hby]; omega) (by omega)
  have e : madeCells (Value.int .u8 0).cells m = bcells (List.replicate m 0) := by
    refine Array.toList_inj.1 ?_
    have e1 : (Value.int .u8 0).cells = #[.int .u8 0] := rfl
    rw [e1, toList_madeCells_one]
    simp [bcells, byte]
  rw [h, hsize, Nat.mul_one, Int.toNat_natCast, e]

theorem zeros16 (i : Nat) : num16 zeros i = 0 := by
  unfold num16 zeros
  rw [List.drop_replicate, List.take_replicate]
  generalize min 2 (256 - i) = k
  induction k with
  | zero => rfl
  | succ k ih => rw [List.replicate_succ', beNum_snoc, ih]; rfl

/-- nothing lies where nothing was written -/
theorem scan_zeros {s : Nat → Bytes} (hs : ∀ j, s j = zeros) (c : Nat) (E : Int) : scanAll s c E = [] := by
  unfold scanAll
  cases c with
  | zero => rfl
  | succ c =>
    unfold scanFrom
    rw [recAt_none fun b hb => by
      have h1 := hb.parts
      have h2 := hb.pos
      have h3 : num16 (s (0 + 0)) 18 = 0 := by rw [hs]; exact zeros16 18
      omega]

/-- a disk of 40 on which nothing was written -/
structure Forty (D : Dk) : Prop where
  calm : Calm D
  size : D.size = 40
  all : D.all = []

theorem Forty.sec {D : Dk} (h : Forty D) (n : Int) : D.sec n = zeros := by simp [Dk.sec, h.all, last]
theorem Forty.new : Forty (Dk.new 40) := ⟨Calm.new 40, by decide, rfl⟩
theorem Forty.look {D : Dk} (h : Forty D) (x : Int) : Forty { D with a0 := x } := ⟨⟨h.calm.down, h.calm.fuse⟩, h.size, h.all⟩

set_option maxRecDepth 100000 in
set_option maxHeartbeats 4000000 in
theorem jlimits_walk (w : World) {f c n : Int} (hf : int64 f) (hc : int64 c) (n0 : 0 ≤ n) (n1 : n ≤ 255) :
    Calls Try.prog 14 #[.int .i64 f, .int .i64 c, .int .u8 n] w (Returns (.bool true) (Below w.heap.size w)) := by
  have hnot : ∀ (x : Bool) (w : World), (Op.unary .not (.bool x)).run Try.prog w = .ok (.bool (!x)) w := fun _ _ => rfl
  have hs40 : (Dk.new 40).size = 40 := by decide
  obtain ⟨f0, f1⟩ := hf
  obtain ⟨c0, c1⟩ := hc
  obtain ⟨m, hm⟩ : ∃ m : Nat, 7900 + n = m := ⟨(7900 + n).toNat, by omega⟩
  have HM := Lib.hid hm
  have HS := Lib.hid hs40
  clear hm hs40
  by_cases ha : areaB 40 f c = true
  · have ha' := ha
    simp only [areaB, decide_eq_true_eq] at ha'
    obtain ⟨k1, k2, k3, k4⟩ := ha'
    obtain ⟨cn, rfl⟩ : ∃ cn : Nat, c = cn := ⟨c.toNat, by omega⟩
    have HA := Lib.hid ha
    clear ha
    go_enter Try.func14, Try.ntmps14
    go_wp2_with (fail)
    refine (own_returns (Owns.none w) (awake7_any w)).mono ?_
    rintro e w1 ⟨rfl, hO1, -⟩
    have HO1 := Lib.hid hO1
    clear hO1
    go_wp2_with (fail)
    refine (own_new HO1.out 40).mono ?_
    rintro e w2 ⟨d, rfl, hO2, -⟩
    have HO2 := Lib.hid hO2
    clear hO2
    go_wp2_with (fail)
    refine (own_jnew HO2.out 0 rfl (by unfold int64; omega) (by unfold int64; omega) (by rw [HS.out]; exact HA.out)).mono ?_
    rintro e w3 ⟨j, rfl, hO3, -⟩
    have HO3 := Lib.hid hO3
    clear hO3
    go_wp2_with (fail)
    refine (own_scan HO3.out 1 rfl rfl k1 (by rw [HS.out]; omega)).mono ?_
    rw [scan_zeros (fun j => Forty.new.sec _)]
    rintro e w4 ⟨v4, x4, rfl, hO4, -⟩
    obtain ⟨a4, c4, hv4, _, _⟩ := (own_rows hO4 0 rfl).shape
    subst hv4
    have hOD : Owns w [disk d { Dk.new 40 with a0 := x4 }] w4 := hO4.pick (fun _ => 2) (by intro i T h; match i, h with | 0, h => simpa using h) (by intro i j hi hj _; simp at hi hj; omega)
    have hft := Forty.new.look x4
    obtain ⟨DD, hDD⟩ : ∃ DD, DD = { Dk.new 40 with a0 := x4 } := ⟨_, rfl⟩
    rw [← hDD] at hOD hft
    have HOD := Lib.hid hOD
    have HFT := Lib.hid hft
    clear hOD hft hDD hO4
    go_wp2_with (fail)
    refine (own_jnew HOD.out 0 rfl (f := 0) (c := 40) (E := 2) (by unfold int64; omega) (by unfold int64; omega) (by rw [HFT.out.size]; decide)).mono ?_
    rintro e w8 ⟨k, rfl, hO8, -⟩
    have HO8 := Lib.hid hO8
    clear hO8
    have hap : ∀ b : Bytes, (JS.mk DD 0 0 false).app 0 40 2 b = (JS.mk DD 0 0 false).app 0 40 2 b := fun _ => rfl
    clear hap
    obtain ⟨R1, hR1⟩ : ∃ R1, R1 = (JS.mk DD 0 0 false).app 0 40 2 [] := ⟨_, rfl⟩
    have hr1 : R1 = (JS.mk DD 0 0 false, 1) := by rw [hR1]; simp [JS.app]
    obtain ⟨R2, hR2⟩ : ∃ R2, R2 = (JS.mk DD 0 0 false).app 0 40 2 (List.replicate m 0) := ⟨_, rfl⟩
    have HR1 := Lib.hid hR1
    have HR2 := Lib.hid hR2
    have HR1' := Lib.hid hr1
    have hln : DD.all.length + 40 < Big := by rw [HFT.out.all]; unfold Big; simp
    have HLN := Lib.hid hln
    clear hR1 hR2 hr1 hln
    by_cases hbig : 8000 < m
    · have hr2 : R2.2 = 3 := by
        rw [HR2.out]
        unfold JS.app
        rw [if_neg (by simp), if_neg (by intro h; have := congrArg List.length h; simp at this; omega), if_pos (by rw [List.length_replicate]; exact hbig)]
      have HR2' := Lib.hid hr2
      have hbi : 8000 < 7900 + n := by have := HM.out; omega
      clear hr2
      go_wp2_with (fail)
      refine (japp_nil _ _).mono ?_
      rintro e w' ⟨rfl, rfl⟩
      go_wp2_with (fail)
      refine (jsync_nil _).mono ?_
      rintro e w' ⟨rfl, rfl⟩
      go_wp2_with (fail)
      refine (room_nil _).mono ?_
      rintro e w' ⟨rfl, rfl⟩
      go_wp2_with (fail)
      refine (records_nil _).mono ?_
      rintro e w' ⟨rfl, rfl⟩
      have HO9 := Lib.hid (HO8.out.upd ((Upd.refl [] w8).alloc (.cells #[.int .u8 1] 5)))
      go_wp2_with (fail)
      generalize w8.alloc (.cells #[.int .u8 1] 5) = w9 at HO9 ⊢
      refine (own_japp (S := ⟨DD, 0, 0, false⟩) HO9.out (v := .slice none 0 0) (b := []) (fun _ _ _ _ => .inl ⟨.nil, rfl⟩) (by omega) (by omega) (by omega) (by omega) (by simp) (by simp) HLN.out).mono ?_
      rw [← HR1.out, HR1'.out]
      rintro e w10 ⟨rfl, hO10, -⟩
      have HO10 := Lib.hid hO10
      clear hO10
      have hmk := fun w => makeN8 w (7900 + n) m HM.out (by have := HM.out; omega)
      go_wp2_with (fail)
      have HO11 := Lib.hid (HO10.out.upd ((Upd.refl [] w10).alloc (.cells (bcells (List.replicate m 0)) 5)))
      have hbv : BytesO (w10.alloc (.cells (bcells (List.replicate m 0)) 5)) (.slice (some ⟨w10.heap.size, 0, none⟩) m m) (List.replicate m 0) := bytesO_of (heap_alloc_new' _ _) List.length_replicate (by have := HM.out; unfold maxLen; omega)
      generalize w10.alloc (.cells (bcells (List.replicate m 0)) 5) = w11 at HO11 hbv ⊢
      have HLA : Hid (Lasting w w11 (.slice (some ⟨w10.heap.size, 0, none⟩) m m) (List.replicate m 0)) := Lib.hid (fun w' l' _ hk => (hbv.keep hk).view)
      clear hbv hmk
      refine (own_japp (S := ⟨DD, 0, 0, false⟩) HO11.out HLA.out (by omega) (by omega) (by omega) (by omega) (by simp) (by simp) HLN.out).mono ?_
      rw [← HR2.out]
      rintro e w12 ⟨rfl, hO12, -⟩
      rw [HR2'.out]
      have HF := Lib.hid hO12.below
      clear hO12
      go_wp2_with (fail)
      go_ret
      exact ⟨rfl, HF.out⟩
    · have hr2 : R2.2 = 0 := by
        rw [HR2.out]
        exact (app_calm (by omega) rfl (by rw [List.length_replicate]; have := HM.out; omega) (by rw [List.length_replicate]; omega) (by rw [List.length_replicate]; have := jparts_le (n := m) (by omega); show ((0 : Nat) : Int) + _ ≤ 40; omega) HFT.out.calm (by show 0 + 40 ≤ DD.size; rw [HFT.out.size]; omega)).1
      have HR2' := Lib.hid hr2
      have hbi : ¬ 8000 < 7900 + n := by have := HM.out; omega
      clear hr2
      go_wp2_with (fail)
      refine (japp_nil _ _).mono ?_
      rintro e w' ⟨rfl, rfl⟩
      go_wp2_with (fail)
      refine (jsync_nil _).mono ?_
      rintro e w' ⟨rfl, rfl⟩
      go_wp2_with (fail)
      refine (room_nil _).mono ?_
      rintro e w' ⟨rfl, rfl⟩
      go_wp2_with (fail)
      refine (records_nil _).mono ?_
      rintro e w' ⟨rfl, rfl⟩
      have HO9 := Lib.hid (HO8.out.upd ((Upd.refl [] w8).alloc (.cells #[.int .u8 1] 5)))
      go_wp2_with (fail)
      generalize w8.alloc (.cells #[.int .u8 1] 5) = w9 at HO9 ⊢
      refine (own_japp (S := ⟨DD, 0, 0, false⟩) HO9.out (v := .slice none 0 0) (b := []) (fun _ _ _ _ => .inl ⟨.nil, rfl⟩) (by omega) (by omega) (by omega) (by omega) (by simp) (by simp) HLN.out).mono ?_
      rw [← HR1.out, HR1'.out]
      rintro e w10 ⟨rfl, hO10, -⟩
      have HO10 := Lib.hid hO10
      clear hO10
      have hmk := fun w => makeN8 w (7900 + n) m HM.out (by have := HM.out; omega)
      go_wp2_with (fail)
      have HO11 := Lib.hid (HO10.out.upd ((Upd.refl [] w10).alloc (.cells (bcells (List.replicate m 0)) 5)))
      have hbv : BytesO (w10.alloc (.cells (bcells (List.replicate m 0)) 5)) (.slice (some ⟨w10.heap.size, 0, none⟩) m m) (List.replicate m 0) := bytesO_of (heap_alloc_new' _ _) List.length_replicate (by have := HM.out; unfold maxLen; omega)
      generalize w10.alloc (.cells (bcells (List.replicate m 0)) 5) = w11 at HO11 hbv ⊢
      have HLA : Hid (Lasting w w11 (.slice (some ⟨w10.heap.size, 0, none⟩) m m) (List.replicate m 0)) := Lib.hid (fun w' l' _ hk => (hbv.keep hk).view)
      clear hbv hmk
      refine (own_japp (S := ⟨DD, 0, 0, false⟩) HO11.out HLA.out (by omega) (by omega) (by omega) (by omega) (by simp) (by simp) HLN.out).mono ?_
      rw [← HR2.out]
      rintro e w12 ⟨rfl, hO12, -⟩
      rw [HR2'.out]
      have HF := Lib.hid hO12.below
      clear hO12
      go_wp2_with (fail)
      go_ret
      exact ⟨rfl, HF.out⟩
  · have ha' : areaB 40 f c = false := by simpa using ha
    have HA := Lib.hid ha'
    have hno : ¬ (0 ≤ f ∧ 0 ≤ c ∧ f ≤ 40 ∧ c ≤ 40 - f) := by simpa [areaB] using ha'
    have HNO := Lib.hid hno
    clear ha ha' hno
    by_cases k1 : 0 ≤ f
    · by_cases k2 : 0 ≤ c
      · by_cases k3 : f ≤ 40
        · have k4 : ¬ c ≤ 40 - f := fun k4 => HNO.out ⟨k1, k2, k3, k4⟩
          clear HNO
          go_enter Try.func14, Try.ntmps14
          go_wp2_with (fail)
          refine (own_returns (Owns.none w) (awake7_any w)).mono ?_
          rintro e w1 ⟨rfl, hO1, -⟩
          have HO1 := Lib.hid hO1
          clear hO1
          go_wp2_with (fail)
          refine (own_new HO1.out 40).mono ?_
          rintro e w2 ⟨d, rfl, hO2, -⟩
          have HO2 := Lib.hid hO2
          clear hO2
          go_wp2_with (fail)
          refine (own_jnew_no HO2.out 0 rfl ⟨f0, f1⟩ ⟨c0, c1⟩ (by rw [HS.out]; exact HA.out)).mono ?_
          rintro e w' ⟨rfl, rfl⟩
          go_wp2_with (fail)
          refine (own_scan_no HO2.out 0 rfl ⟨f0, f1⟩ ⟨c0, c1⟩ (by rw [HS.out]; exact HA.out)).mono ?_
          rintro e w' ⟨rfl, rfl⟩
          obtain ⟨DD, hDD⟩ : ∃ DD, DD = Dk.new 40 := ⟨_, rfl⟩
          have hOD := HO2.out
          have hft := Forty.new
          rw [← hDD] at hOD hft
          have HOD := Lib.hid hOD
          have HFT := Lib.hid hft
          clear hOD hft hDD HO2

          go_wp2_with (fail)
          refine (own_jnew HOD.out 0 rfl (f := 0) (c := 40) (E := 2) (by unfold int64; omega) (by unfold int64; omega) (by rw [HFT.out.size]; decide)).mono ?_
          rintro e w8 ⟨k, rfl, hO8, -⟩
          have HO8 := Lib.hid hO8
          clear hO8
          have hap : ∀ b : Bytes, (JS.mk DD 0 0 false).app 0 40 2 b = (JS.mk DD 0 0 false).app 0 40 2 b := fun _ => rfl
          clear hap
          obtain ⟨R1, hR1⟩ : ∃ R1, R1 = (JS.mk DD 0 0 false).app 0 40 2 [] := ⟨_, rfl⟩
          have hr1 : R1 = (JS.mk DD 0 0 false, 1) := by rw [hR1]; simp [JS.app]
          obtain ⟨R2, hR2⟩ : ∃ R2, R2 = (JS.mk DD 0 0 false).app 0 40 2 (List.replicate m 0) := ⟨_, rfl⟩
          have HR1 := Lib.hid hR1
          have HR2 := Lib.hid hR2
          have HR1' := Lib.hid hr1
          have hln : DD.all.length + 40 < Big := by rw [HFT.out.all]; unfold Big; simp
          have HLN := Lib.hid hln
          clear hR1 hR2 hr1 hln
          by_cases hbig : 8000 < m
          · have hr2 : R2.2 = 3 := by
              rw [HR2.out]
              unfold JS.app
              rw [if_neg (by simp), if_neg (by intro h; have := congrArg List.length h; simp at this; omega), if_pos (by rw [List.length_replicate]; exact hbig)]
            have HR2' := Lib.hid hr2
            have hbi : 8000 < 7900 + n := by have := HM.out; omega
            clear hr2
            go_wp2_with (fail)
            refine (japp_nil _ _).mono ?_
            rintro e w' ⟨rfl, rfl⟩
            go_wp2_with (fail)
            refine (jsync_nil _).mono ?_
            rintro e w' ⟨rfl, rfl⟩
            go_wp2_with (fail)
            refine (room_nil _).mono ?_
            rintro e w' ⟨rfl, rfl⟩
            go_wp2_with (fail)
            refine (records_nil _).mono ?_
            rintro e w' ⟨rfl, rfl⟩
            have HO9 := Lib.hid (HO8.out.upd ((Upd.refl [] w8).alloc (.cells #[.int .u8 1] 5)))
            go_wp2_with (fail)
            generalize w8.alloc (.cells #[.int .u8 1] 5) = w9 at HO9 ⊢
            refine (own_japp (S := ⟨DD, 0, 0, false⟩) HO9.out (v := .slice none 0 0) (b := []) (fun _ _ _ _ => .inl ⟨.nil, rfl⟩) (by omega) (by omega) (by omega) (by omega) (by simp) (by simp) HLN.out).mono ?_
            rw [← HR1.out, HR1'.out]
            rintro e w10 ⟨rfl, hO10, -⟩
            have HO10 := Lib.hid hO10
            clear hO10
            have hmk := fun w => makeN8 w (7900 + n) m HM.out (by have := HM.out; omega)
            go_wp2_with (fail)
            have HO11 := Lib.hid (HO10.out.upd ((Upd.refl [] w10).alloc (.cells (bcells (List.replicate m 0)) 5)))
            have hbv : BytesO (w10.alloc (.cells (bcells (List.replicate m 0)) 5)) (.slice (some ⟨w10.heap.size, 0, none⟩) m m) (List.replicate m 0) := bytesO_of (heap_alloc_new' _ _) List.length_replicate (by have := HM.out; unfold maxLen; omega)
            generalize w10.alloc (.cells (bcells (List.replicate m 0)) 5) = w11 at HO11 hbv ⊢
            have HLA : Hid (Lasting w w11 (.slice (some ⟨w10.heap.size, 0, none⟩) m m) (List.replicate m 0)) := Lib.hid (fun w' l' _ hk => (hbv.keep hk).view)
            clear hbv hmk
            refine (own_japp (S := ⟨DD, 0, 0, false⟩) HO11.out HLA.out (by omega) (by omega) (by omega) (by omega) (by simp) (by simp) HLN.out).mono ?_
            rw [← HR2.out]
            rintro e w12 ⟨rfl, hO12, -⟩
            rw [HR2'.out]
            have HF := Lib.hid hO12.below
            clear hO12
            go_wp2_with (fail)
            go_ret
            exact ⟨rfl, HF.out⟩
          · have hr2 : R2.2 = 0 := by
              rw [HR2.out]
              exact (app_calm (by omega) rfl (by rw [List.length_replicate]; have := HM.out; omega) (by rw [List.length_replicate]; omega) (by rw [List.length_replicate]; have := jparts_le (n := m) (by omega); show ((0 : Nat) : Int) + _ ≤ 40; omega) HFT.out.calm (by show 0 + 40 ≤ DD.size; rw [HFT.out.size]; omega)).1
            have HR2' := Lib.hid hr2
            have hbi : ¬ 8000 < 7900 + n := by have := HM.out; omega
            clear hr2
            go_wp2_with (fail)
            refine (japp_nil _ _).mono ?_
            rintro e w' ⟨rfl, rfl⟩
            go_wp2_with (fail)
            refine (jsync_nil _).mono ?_
            rintro e w' ⟨rfl, rfl⟩
            go_wp2_with (fail)
            refine (room_nil _).mono ?_
            rintro e w' ⟨rfl, rfl⟩
            go_wp2_with (fail)
            refine (records_nil _).mono ?_
            rintro e w' ⟨rfl, rfl⟩
            have HO9 := Lib.hid (HO8.out.upd ((Upd.refl [] w8).alloc (.cells #[.int .u8 1] 5)))
            go_wp2_with (fail)
            generalize w8.alloc (.cells #[.int .u8 1] 5) = w9 at HO9 ⊢
            refine (own_japp (S := ⟨DD, 0, 0, false⟩) HO9.out (v := .slice none 0 0) (b := []) (fun _ _ _ _ => .inl ⟨.nil, rfl⟩) (by omega) (by omega) (by omega) (by omega) (by simp) (by simp) HLN.out).mono ?_
            rw [← HR1.out, HR1'.out]
            rintro e w10 ⟨rfl, hO10, -⟩
            have HO10 := Lib.hid hO10
            clear hO10
            have hmk := fun w => makeN8 w (7900 + n) m HM.out (by have := HM.out; omega)
            go_wp2_with (fail)
            have HO11 := Lib.hid (HO10.out.upd ((Upd.refl [] w10).alloc (.cells (bcells (List.replicate m 0)) 5)))
            have hbv : BytesO (w10.alloc (.cells (bcells (List.replicate m 0)) 5)) (.slice (some ⟨w10.heap.size, 0, none⟩) m m) (List.replicate m 0) := bytesO_of (heap_alloc_new' _ _) List.length_replicate (by have := HM.out; unfold maxLen; omega)
            generalize w10.alloc (.cells (bcells (List.replicate m 0)) 5) = w11 at HO11 hbv ⊢
            have HLA : Hid (Lasting w w11 (.slice (some ⟨w10.heap.size, 0, none⟩) m m) (List.replicate m 0)) := Lib.hid (fun w' l' _ hk => (hbv.keep hk).view)
            clear hbv hmk
            refine (own_japp (S := ⟨DD, 0, 0, false⟩) HO11.out HLA.out (by omega) (by omega) (by omega) (by omega) (by simp) (by simp) HLN.out).mono ?_
            rw [← HR2.out]
            rintro e w12 ⟨rfl, hO12, -⟩
            rw [HR2'.out]
            have HF := Lib.hid hO12.below
            clear hO12
            go_wp2_with (fail)
            go_ret
            exact ⟨rfl, HF.out⟩
        · skip
          clear HNO
          go_enter Try.func14, Try.ntmps14
          go_wp2_with (fail)
          refine (own_returns (Owns.none w) (awake7_any w)).mono ?_
          rintro e w1 ⟨rfl, hO1, -⟩
          have HO1 := Lib.hid hO1
          clear hO1
          go_wp2_with (fail)
          refine (own_new HO1.out 40).mono ?_
          rintro e w2 ⟨d, rfl, hO2, -⟩
          have HO2 := Lib.hid hO2
          clear hO2
          go_wp2_with (fail)
          refine (own_jnew_no HO2.out 0 rfl ⟨f0, f1⟩ ⟨c0, c1⟩ (by rw [HS.out]; exact HA.out)).mono ?_
          rintro e w' ⟨rfl, rfl⟩
          go_wp2_with (fail)
          refine (own_scan_no HO2.out 0 rfl ⟨f0, f1⟩ ⟨c0, c1⟩ (by rw [HS.out]; exact HA.out)).mono ?_
          rintro e w' ⟨rfl, rfl⟩
          obtain ⟨DD, hDD⟩ : ∃ DD, DD = Dk.new 40 := ⟨_, rfl⟩
          have hOD := HO2.out
          have hft := Forty.new
          rw [← hDD] at hOD hft
          have HOD := Lib.hid hOD
          have HFT := Lib.hid hft
          clear hOD hft hDD HO2

          go_wp2_with (fail)
          refine (own_jnew HOD.out 0 rfl (f := 0) (c := 40) (E := 2) (by unfold int64; omega) (by unfold int64; omega) (by rw [HFT.out.size]; decide)).mono ?_
          rintro e w8 ⟨k, rfl, hO8, -⟩
          have HO8 := Lib.hid hO8
          clear hO8
          have hap : ∀ b : Bytes, (JS.mk DD 0 0 false).app 0 40 2 b = (JS.mk DD 0 0 false).app 0 40 2 b := fun _ => rfl
          clear hap
          obtain ⟨R1, hR1⟩ : ∃ R1, R1 = (JS.mk DD 0 0 false).app 0 40 2 [] := ⟨_, rfl⟩
          have hr1 : R1 = (JS.mk DD 0 0 false, 1) := by rw [hR1]; simp [JS.app]
          obtain ⟨R2, hR2⟩ : ∃ R2, R2 = (JS.mk DD 0 0 false).app 0 40 2 (List.replicate m 0) := ⟨_, rfl⟩
          have HR1 := Lib.hid hR1
          have HR2 := Lib.hid hR2
          have HR1' := Lib.hid hr1
          have hln : DD.all.length + 40 < Big := by rw [HFT.out.all]; unfold Big; simp
          have HLN := Lib.hid hln
          clear hR1 hR2 hr1 hln
          by_cases hbig : 8000 < m
          · have hr2 : R2.2 = 3 := by
              rw [HR2.out]
              unfold JS.app
              rw [if_neg (by simp), if_neg (by intro h; have := congrArg List.length h; simp at this; omega), if_pos (by rw [List.length_replicate]; exact hbig)]
            have HR2' := Lib.hid hr2
            have hbi : 8000 < 7900 + n := by have := HM.out; omega
            clear hr2
            go_wp2_with (fail)
            refine (japp_nil _ _).mono ?_
            rintro e w' ⟨rfl, rfl⟩
            go_wp2_with (fail)
            refine (jsync_nil _).mono ?_
            rintro e w' ⟨rfl, rfl⟩
            go_wp2_with (fail)
            refine (room_nil _).mono ?_
            rintro e w' ⟨rfl, rfl⟩
            go_wp2_with (fail)
            refine (records_nil _).mono ?_
            rintro e w' ⟨rfl, rfl⟩
            have HO9 := Lib.hid (HO8.out.upd ((Upd.refl [] w8).alloc (.cells #[.int .u8 1] 5)))
            go_wp2_with (fail)
            generalize w8.alloc (.cells #[.int .u8 1] 5) = w9 at HO9 ⊢
            refine (own_japp (S := ⟨DD, 0, 0, false⟩) HO9.out (v := .slice none 0 0) (b := []) (fun _ _ _ _ => .inl ⟨.nil, rfl⟩) (by omega) (by omega) (by omega) (by omega) (by simp) (by simp) HLN.out).mono ?_
            rw [← HR1.out, HR1'.out]
            rintro e w10 ⟨rfl, hO10, -⟩
            have HO10 := Lib.hid hO10
            clear hO10
            have hmk := fun w => makeN8 w (7900 + n) m HM.out (by have := HM.out; omega)
            go_wp2_with (fail)
            have HO11 := Lib.hid (HO10.out.upd ((Upd.refl [] w10).alloc (.cells (bcells (List.replicate m 0)) 5)))
            have hbv : BytesO (w10.alloc (.cells (bcells (List.replicate m 0)) 5)) (.slice (some ⟨w10.heap.size, 0, none⟩) m m) (List.replicate m 0) := bytesO_of (heap_alloc_new' _ _) List.length_replicate (by have := HM.out; unfold maxLen; omega)
            generalize w10.alloc (.cells (bcells (List.replicate m 0)) 5) = w11 at HO11 hbv ⊢
            have HLA : Hid (Lasting w w11 (.slice (some ⟨w10.heap.size, 0, none⟩) m m) (List.replicate m 0)) := Lib.hid (fun w' l' _ hk => (hbv.keep hk).view)
            clear hbv hmk
            refine (own_japp (S := ⟨DD, 0, 0, false⟩) HO11.out HLA.out (by omega) (by omega) (by omega) (by omega) (by simp) (by simp) HLN.out).mono ?_
            rw [← HR2.out]
            rintro e w12 ⟨rfl, hO12, -⟩
            rw [HR2'.out]
            have HF := Lib.hid hO12.below
            clear hO12
            go_wp2_with (fail)
            go_ret
            exact ⟨rfl, HF.out⟩
          · have hr2 : R2.2 = 0 := by
              rw [HR2.out]
              exact (app_calm (by omega) rfl (by rw [List.length_replicate]; have := HM.out; omega) (by rw [List.length_replicate]; omega) (by rw [List.length_replicate]; have := jparts_le (n := m) (by omega); show ((0 : Nat) : Int) + _ ≤ 40; omega) HFT.out.calm (by show 0 + 40 ≤ DD.size; rw [HFT.out.size]; omega)).1
            have HR2' := Lib.hid hr2
            have hbi : ¬ 8000 < 7900 + n := by have := HM.out; omega
            clear hr2
            go_wp2_with (fail)
            refine (japp_nil _ _).mono ?_
            rintro e w' ⟨rfl, rfl⟩
            go_wp2_with (fail)
            refine (jsync_nil _).mono ?_
            rintro e w' ⟨rfl, rfl⟩
            go_wp2_with (fail)
            refine (room_nil _).mono ?_
            rintro e w' ⟨rfl, rfl⟩
            go_wp2_with (fail)
            refine (records_nil _).mono ?_
            rintro e w' ⟨rfl, rfl⟩
            have HO9 := Lib.hid (HO8.out.upd ((Upd.refl [] w8).alloc (.cells #[.int .u8 1] 5)))
            go_wp2_with (fail)
            generalize w8.alloc (.cells #[.int .u8 1] 5) = w9 at HO9 ⊢
            refine (own_japp (S := ⟨DD, 0, 0, false⟩) HO9.out (v := .slice none 0 0) (b := []) (fun _ _ _ _ => .inl ⟨.nil, rfl⟩) (by omega) (by omega) (by omega) (by omega) (by simp) (by simp) HLN.out).mono ?_
            rw [← HR1.out, HR1'.out]
            rintro e w10 ⟨rfl, hO10, -⟩
            have HO10 := Lib.hid hO10
            clear hO10
            have hmk := fun w => makeN8 w (7900 + n) m HM.out (by have := HM.out; omega)
            go_wp2_with (fail)
            have HO11 := Lib.hid (HO10.out.upd ((Upd.refl [] w10).alloc (.cells (bcells (List.replicate m 0)) 5)))
            have hbv : BytesO (w10.alloc (.cells (bcells (List.replicate m 0)) 5)) (.slice (some ⟨w10.heap.size, 0, none⟩) m m) (List.replicate m 0) := bytesO_of (heap_alloc_new' _ _) List.length_replicate (by have := HM.out; unfold maxLen; omega)
            generalize w10.alloc (.cells (bcells (List.replicate m 0)) 5) = w11 at HO11 hbv ⊢
            have HLA : Hid (Lasting w w11 (.slice (some ⟨w10.heap.size, 0, none⟩) m m) (List.replicate m 0)) := Lib.hid (fun w' l' _ hk => (hbv.keep hk).view)
            clear hbv hmk
            refine (own_japp (S := ⟨DD, 0, 0, false⟩) HO11.out HLA.out (by omega) (by omega) (by omega) (by omega) (by simp) (by simp) HLN.out).mono ?_
            rw [← HR2.out]
            rintro e w12 ⟨rfl, hO12, -⟩
            rw [HR2'.out]
            have HF := Lib.hid hO12.below
            clear hO12
            go_wp2_with (fail)
            go_ret
            exact ⟨rfl, HF.out⟩
      · skip
        clear HNO
        go_enter Try.func14, Try.ntmps14
        go_wp2_with (fail)
        refine (own_returns (Owns.none w) (awake7_any w)).mono ?_
        rintro e w1 ⟨rfl, hO1, -⟩
        have HO1 := Lib.hid hO1
        clear hO1
        go_wp2_with (fail)
        refine (own_new HO1.out 40).mono ?_
        rintro e w2 ⟨d, rfl, hO2, -⟩
        have HO2 := Lib.hid hO2
        clear hO2
        go_wp2_with (fail)
        refine (own_jnew_no HO2.out 0 rfl ⟨f0, f1⟩ ⟨c0, c1⟩ (by rw [HS.out]; exact HA.out)).mono ?_
        rintro e w' ⟨rfl, rfl⟩
        go_wp2_with (fail)
        refine (own_scan_no HO2.out 0 rfl ⟨f0, f1⟩ ⟨c0, c1⟩ (by rw [HS.out]; exact HA.out)).mono ?_
        rintro e w' ⟨rfl, rfl⟩
        obtain ⟨DD, hDD⟩ : ∃ DD, DD = Dk.new 40 := ⟨_, rfl⟩
        have hOD := HO2.out
        have hft := Forty.new
        rw [← hDD] at hOD hft
        have HOD := Lib.hid hOD
        have HFT := Lib.hid hft
        clear hOD hft hDD HO2

        go_wp2_with (fail)
        refine (own_jnew HOD.out 0 rfl (f := 0) (c := 40) (E := 2) (by unfold int64; omega) (by unfold int64; omega) (by rw [HFT.out.size]; decide)).mono ?_
        rintro e w8 ⟨k, rfl, hO8, -⟩
        have HO8 := Lib.hid hO8
        clear hO8
        have hap : ∀ b : Bytes, (JS.mk DD 0 0 false).app 0 40 2 b = (JS.mk DD 0 0 false).app 0 40 2 b := fun _ => rfl
        clear hap
        obtain ⟨R1, hR1⟩ : ∃ R1, R1 = (JS.mk DD 0 0 false).app 0 40 2 [] := ⟨_, rfl⟩
        have hr1 : R1 = (JS.mk DD 0 0 false, 1) := by rw [hR1]; simp [JS.app]
        obtain ⟨R2, hR2⟩ : ∃ R2, R2 = (JS.mk DD 0 0 false).app 0 40 2 (List.replicate m 0) := ⟨_, rfl⟩
        have HR1 := Lib.hid hR1
        have HR2 := Lib.hid hR2
        have HR1' := Lib.hid hr1
        have hln : DD.all.length + 40 < Big := by rw [HFT.out.all]; unfold Big; simp
        have HLN := Lib.hid hln
        clear hR1 hR2 hr1 hln
        by_cases hbig : 8000 < m
        · have hr2 : R2.2 = 3 := by
            rw [HR2.out]
            unfold JS.app
            rw [if_neg (by simp), if_neg (by intro h; have := congrArg List.length h; simp at this; omega), if_pos (by rw [List.length_replicate]; exact hbig)]
          have HR2' := Lib.hid hr2
          have hbi : 8000 < 7900 + n := by have := HM.out; omega
          clear hr2
          go_wp2_with (fail)
          refine (japp_nil _ _).mono ?_
          rintro e w' ⟨rfl, rfl⟩
          go_wp2_with (fail)
          refine (jsync_nil _).mono ?_
          rintro e w' ⟨rfl, rfl⟩
          go_wp2_with (fail)
          refine (room_nil _).mono ?_
          rintro e w' ⟨rfl, rfl⟩
          go_wp2_with (fail)
          refine (records_nil _).mono ?_
          rintro e w' ⟨rfl, rfl⟩
          have HO9 := Lib.hid (HO8.out.upd ((Upd.refl [] w8).alloc (.cells #[.int .u8 1] 5)))
          go_wp2_with (fail)
          generalize w8.alloc (.cells #[.int .u8 1] 5) = w9 at HO9 ⊢
          refine (own_japp (S := ⟨DD, 0, 0, false⟩) HO9.out (v := .slice none 0 0) (b := []) (fun _ _ _ _ => .inl ⟨.nil, rfl⟩) (by omega) (by omega) (by omega) (by omega) (by simp) (by simp) HLN.out).mono ?_
          rw [← HR1.out, HR1'.out]
          rintro e w10 ⟨rfl, hO10, -⟩
          have HO10 := Lib.hid hO10
          clear hO10
          have hmk := fun w => makeN8 w (7900 + n) m HM.out (by have := HM.out; omega)
          go_wp2_with (fail)
          have HO11 := Lib.hid (HO10.out.upd ((Upd.refl [] w10).alloc (.cells (bcells (List.replicate m 0)) 5)))
          have hbv : BytesO (w10.alloc (.cells (bcells (List.replicate m 0)) 5)) (.slice (some ⟨w10.heap.size, 0, none⟩) m m) (List.replicate m 0) := bytesO_of (heap_alloc_new' _ _) List.length_replicate (by have := HM.out; unfold maxLen; omega)
          generalize w10.alloc (.cells (bcells (List.replicate m 0)) 5) = w11 at HO11 hbv ⊢
          have HLA : Hid (Lasting w w11 (.slice (some ⟨w10.heap.size, 0, none⟩) m m) (List.replicate m 0)) := Lib.hid (fun w' l' _ hk => (hbv.keep hk).view)
          clear hbv hmk
          refine (own_japp (S := ⟨DD, 0, 0, false⟩) HO11.out HLA.out (by omega) (by omega) (by omega) (by omega) (by simp) (by simp) HLN.out).mono ?_
          rw [← HR2.out]
          rintro e w12 ⟨rfl, hO12, -⟩
          rw [HR2'.out]
          have HF := Lib.hid hO12.below
          clear hO12
          go_wp2_with (fail)
          go_ret
          exact ⟨rfl, HF.out⟩
        · have hr2 : R2.2 = 0 := by
            rw [HR2.out]
            exact (app_calm (by omega) rfl (by rw [List.length_replicate]; have := HM.out; omega) (by rw [List.length_replicate]; omega) (by rw [List.length_replicate]; have := jparts_le (n := m) (by omega); show ((0 : Nat) : Int) + _ ≤ 40; omega) HFT.out.calm (by show 0 + 40 ≤ DD.size; rw [HFT.out.size]; omega)).1
          have HR2' := Lib.hid hr2
          have hbi : ¬ 8000 < 7900 + n := by have := HM.out; omega
          clear hr2
          go_wp2_with (fail)
          refine (japp_nil _ _).mono ?_
          rintro e w' ⟨rfl, rfl⟩
          go_wp2_with (fail)
          refine (jsync_nil _).mono ?_
          rintro e w' ⟨rfl, rfl⟩
          go_wp2_with (fail)
          refine (room_nil _).mono ?_
          rintro e w' ⟨rfl, rfl⟩
          go_wp2_with (fail)
          refine (records_nil _).mono ?_
          rintro e w' ⟨rfl, rfl⟩
          have HO9 := Lib.hid (HO8.out.upd ((Upd.refl [] w8).alloc (.cells #[.int .u8 1] 5)))
          go_wp2_with (fail)
          generalize w8.alloc (.cells #[.int .u8 1] 5) = w9 at HO9 ⊢
          refine (own_japp (S := ⟨DD, 0, 0, false⟩) HO9.out (v := .slice none 0 0) (b := []) (fun _ _ _ _ => .inl ⟨.nil, rfl⟩) (by omega) (by omega) (by omega) (by omega) (by simp) (by simp) HLN.out).mono ?_
          rw [← HR1.out, HR1'.out]
          rintro e w10 ⟨rfl, hO10, -⟩
          have HO10 := Lib.hid hO10
          clear hO10
          have hmk := fun w => makeN8 w (7900 + n) m HM.out (by have := HM.out; omega)
          go_wp2_with (fail)
          have HO11 := Lib.hid (HO10.out.upd ((Upd.refl [] w10).alloc (.cells (bcells (List.replicate m 0)) 5)))
          have hbv : BytesO (w10.alloc (.cells (bcells (List.replicate m 0)) 5)) (.slice (some ⟨w10.heap.size, 0, none⟩) m m) (List.replicate m 0) := bytesO_of (heap_alloc_new' _ _) List.length_replicate (by have := HM.out; unfold maxLen; omega)
          generalize w10.alloc (.cells (bcells (List.replicate m 0)) 5) = w11 at HO11 hbv ⊢
          have HLA : Hid (Lasting w w11 (.slice (some ⟨w10.heap.size, 0, none⟩) m m) (List.replicate m 0)) := Lib.hid (fun w' l' _ hk => (hbv.keep hk).view)
          clear hbv hmk
          refine (own_japp (S := ⟨DD, 0, 0, false⟩) HO11.out HLA.out (by omega) (by omega) (by omega) (by omega) (by simp) (by simp) HLN.out).mono ?_
          rw [← HR2.out]
          rintro e w12 ⟨rfl, hO12, -⟩
          rw [HR2'.out]
          have HF := Lib.hid hO12.below
          clear hO12
          go_wp2_with (fail)
          go_ret
          exact ⟨rfl, HF.out⟩
    · skip
      clear HNO
      go_enter Try.func14, Try.ntmps14
      go_wp2_with (fail)
      refine (own_returns (Owns.none w) (awake7_any w)).mono ?_
      rintro e w1 ⟨rfl, hO1, -⟩
      have HO1 := Lib.hid hO1
      clear hO1
      go_wp2_with (fail)
      refine (own_new HO1.out 40).mono ?_
      rintro e w2 ⟨d, rfl, hO2, -⟩
      have HO2 := Lib.hid hO2
      clear hO2
      go_wp2_with (fail)
      refine (own_jnew_no HO2.out 0 rfl ⟨f0, f1⟩ ⟨c0, c1⟩ (by rw [HS.out]; exact HA.out)).mono ?_
      rintro e w' ⟨rfl, rfl⟩
      go_wp2_with (fail)
      refine (own_scan_no HO2.out 0 rfl ⟨f0, f1⟩ ⟨c0, c1⟩ (by rw [HS.out]; exact HA.out)).mono ?_
      rintro e w' ⟨rfl, rfl⟩
      obtain ⟨DD, hDD⟩ : ∃ DD, DD = Dk.new 40 := ⟨_, rfl⟩
      have hOD := HO2.out
      have hft := Forty.new
      rw [← hDD] at hOD hft
      have HOD := Lib.hid hOD
      have HFT := Lib.hid hft
      clear hOD hft hDD HO2

      go_wp2_with (fail)
      refine (own_jnew HOD.out 0 rfl (f := 0) (c := 40) (E := 2) (by unfold int64; omega) (by unfold int64; omega) (by rw [HFT.out.size]; decide)).mono ?_
      rintro e w8 ⟨k, rfl, hO8, -⟩
      have HO8 := Lib.hid hO8
      clear hO8
      have hap : ∀ b : Bytes, (JS.mk DD 0 0 false).app 0 40 2 b = (JS.mk DD 0 0 false).app 0 40 2 b := fun _ => rfl
      clear hap
      obtain ⟨R1, hR1⟩ : ∃ R1, R1 = (JS.mk DD 0 0 false).app 0 40 2 [] := ⟨_, rfl⟩
      have hr1 : R1 = (JS.mk DD 0 0 false, 1) := by rw [hR1]; simp [JS.app]
      obtain ⟨R2, hR2⟩ : ∃ R2, R2 = (JS.mk DD 0 0 false).app 0 40 2 (List.replicate m 0) := ⟨_, rfl⟩
      have HR1 := Lib.hid hR1
      have HR2 := Lib.hid hR2
      have HR1' := Lib.hid hr1
      have hln : DD.all.length + 40 < Big := by rw [HFT.out.all]; unfold Big; simp
      have HLN := Lib.hid hln
      clear hR1 hR2 hr1 hln
      by_cases hbig : 8000 < m
      · have hr2 : R2.2 = 3 := by
          rw [HR2.out]
          unfold JS.app
          rw [if_neg (by simp), if_neg (by intro h; have := congrArg List.length h; simp at this; omega), if_pos (by rw [List.length_replicate]; exact hbig)]
        have HR2' := Lib.hid hr2
        have hbi : 8000 < 7900 + n := by have := HM.out; omega
        clear hr2
        go_wp2_with (fail)
        refine (japp_nil _ _).mono ?_
        rintro e w' ⟨rfl, rfl⟩
        go_wp2_with (fail)
        refine (jsync_nil _).mono ?_
        rintro e w' ⟨rfl, rfl⟩
        go_wp2_with (fail)
        refine (room_nil _).mono ?_
        rintro e w' ⟨rfl, rfl⟩
        go_wp2_with (fail)
        refine (records_nil _).mono ?_
        rintro e w' ⟨rfl, rfl⟩
        have HO9 := Lib.hid (HO8.out.upd ((Upd.refl [] w8).alloc (.cells #[.int .u8 1] 5)))
        go_wp2_with (fail)
        generalize w8.alloc (.cells #[.int .u8 1] 5) = w9 at HO9 ⊢
        refine (own_japp (S := ⟨DD, 0, 0, false⟩) HO9.out (v := .slice none 0 0) (b := []) (fun _ _ _ _ => .inl ⟨.nil, rfl⟩) (by omega) (by omega) (by omega) (by omega) (by simp) (by simp) HLN.out).mono ?_
        rw [← HR1.out, HR1'.out]
        rintro e w10 ⟨rfl, hO10, -⟩
        have HO10 := Lib.hid hO10
        clear hO10
        have hmk := fun w => makeN8 w (7900 + n) m HM.out (by have := HM.out; omega)
        go_wp2_with (fail)
        have HO11 := Lib.hid (HO10.out.upd ((Upd.refl [] w10).alloc (.cells (bcells (List.replicate m 0)) 5)))
        have hbv : BytesO (w10.alloc (.cells (bcells (List.replicate m 0)) 5)) (.slice (some ⟨w10.heap.size, 0, none⟩) m m) (List.replicate m 0) := bytesO_of (heap_alloc_new' _ _) List.length_replicate (by have := HM.out; unfold maxLen; omega)
        generalize w10.alloc (.cells (bcells (List.replicate m 0)) 5) = w11 at HO11 hbv ⊢
        have HLA : Hid (Lasting w w11 (.slice (some ⟨w10.heap.size, 0, none⟩) m m) (List.replicate m 0)) := Lib.hid (fun w' l' _ hk => (hbv.keep hk).view)
        clear hbv hmk
        refine (own_japp (S := ⟨DD, 0, 0, false⟩) HO11.out HLA.out (by omega) (by omega) (by omega) (by omega) (by simp) (by simp) HLN.out).mono ?_
        rw [← HR2.out]
        rintro e w12 ⟨rfl, hO12, -⟩
        rw [HR2'.out]
        have HF := Lib.hid hO12.below
        clear hO12
        go_wp2_with (fail)
        go_ret
        exact ⟨rfl, HF.out⟩
      · have hr2 : R2.2 = 0 := by
          rw [HR2.out]
          exact (app_calm (by omega) rfl (by rw [List.length_replicate]; have := HM.out; omega) (by rw [List.length_replicate]; omega) (by rw [List.length_replicate]; have := jparts_le (n := m) (by omega); show ((0 : Nat) : Int) + _ ≤ 40; omega) HFT.out.calm (by show 0 + 40 ≤ DD.size; rw [HFT.out.size]; omega)).1
        have HR2' := Lib.hid hr2
        have hbi : ¬ 8000 < 7900 + n := by have := HM.out; omega
        clear hr2
        go_wp2_with (fail)
        refine (japp_nil _ _).mono ?_
        rintro e w' ⟨rfl, rfl⟩
        go_wp2_with (fail)
        refine (jsync_nil _).mono ?_
        rintro e w' ⟨rfl, rfl⟩
        go_wp2_with (fail)
        refine (room_nil _).mono ?_
        rintro e w' ⟨rfl, rfl⟩
        go_wp2_with (fail)
        refine (records_nil _).mono ?_
        rintro e w' ⟨rfl, rfl⟩
        have HO9 := Lib.hid (HO8.out.upd ((Upd.refl [] w8).alloc (.cells #[.int .u8 1] 5)))
        go_wp2_with (fail)
        generalize w8.alloc (.cells #[.int .u8 1] 5) = w9 at HO9 ⊢
        refine (own_japp (S := ⟨DD, 0, 0, false⟩) HO9.out (v := .slice none 0 0) (b := []) (fun _ _ _ _ => .inl ⟨.nil, rfl⟩) (by omega) (by omega) (by omega) (by omega) (by simp) (by simp) HLN.out).mono ?_
        rw [← HR1.out, HR1'.out]
        rintro e w10 ⟨rfl, hO10, -⟩
        have HO10 := Lib.hid hO10
        clear hO10
        have hmk := fun w => makeN8 w (7900 + n) m HM.out (by have := HM.out; omega)
        go_wp2_with (fail)
        have HO11 := Lib.hid (HO10.out.upd ((Upd.refl [] w10).alloc (.cells (bcells (List.replicate m 0)) 5)))
        have hbv : BytesO (w10.alloc (.cells (bcells (List.replicate m 0)) 5)) (.slice (some ⟨w10.heap.size, 0, none⟩) m m) (List.replicate m 0) := bytesO_of (heap_alloc_new' _ _) List.length_replicate (by have := HM.out; unfold maxLen; omega)
        generalize w10.alloc (.cells (bcells (List.replicate m 0)) 5) = w11 at HO11 hbv ⊢
        have HLA : Hid (Lasting w w11 (.slice (some ⟨w10.heap.size, 0, none⟩) m m) (List.replicate m 0)) := Lib.hid (fun w' l' _ hk => (hbv.keep hk).view)
        clear hbv hmk
        refine (own_japp (S := ⟨DD, 0, 0, false⟩) HO11.out HLA.out (by omega) (by omega) (by omega) (by omega) (by simp) (by simp) HLN.out).mono ?_
        rw [← HR2.out]
        rintro e w12 ⟨rfl, hO12, -⟩
        rw [HR2'.out]
        have HF := Lib.hid hO12.below
        clear hO12
        go_wp2_with (fail)
        go_ret
        exact ⟨rfl, HF.out⟩

end Go.Proofs.Ytkpoladbabhdmaa
