/- The reference's Save. Conditions: as each says. -/
import Derived.Test.YtkpoladbabhdmaaMeta16
namespace Go.Proofs.Ytkpoladbabhdmaa
open Go.RowKit

set_option maxRecDepth 100000 in
set_option maxHeartbeats 4000000 in
theorem own_rsave {w0 w : World} {l : List Thing} {b : Nat} {D : Dk} (h : Owns w0 l w) (i : Nat) (hi : l[i]? = some (rdisk b D)) {v : Value} {p : Bytes} (hv : Lasting w0 w v p) {G : Int} (h0 : 0 ≤ G) (h1 : G ≤ 18446744073709551615) (hlen : D.all.length + 1 < Big) :
    Calls Try.prog 41 #[.pointer (some ⟨b, 0, none⟩), .agg #[.int .u64 G, v]] w (Gives (.int .i64 (D.saveE G p)) w0 (l.set i (rdisk b (D.saved G p))) w) := by
  obtain ⟨pa, pc, rfl, _, hpm⟩ := (hv w l h (Keeps.refl w)).shape
  have hR := own_row_new h #[.int .u64 G, .slice pa p.length pc] 68 (by decide)
  have hk1 : Keeps w (w.alloc (.cells #[.int .u64 G, .slice pa p.length pc] 68)) := ((Upd.refl [] w).alloc _).keeps
  have hi1 : (row w.heap.size #[.int .u64 G, .slice pa p.length pc] 68 (by decide) :: l)[i + 1]? = some (rdisk b D) := by simpa using hi
  have hpl : p.length ≤ 9223372036854775807 := by unfold maxLen at hpm; omega
  have hil : i < l.length := (List.getElem?_eq_some_iff.1 hi).1
  have hsame : l.set i (rdisk b D) = l := List.ext_getElem? fun j => by
    rw [List.getElem?_set]; split
    · rename_i hij; subst hij; exact hi.symm
    · rfl
  have hdrop : ∀ c L w', Owns w0 (row w.heap.size c 68 (by decide) :: L) w' → Owns w0 L w' := fun c L w' h => h.pick (fun i => i + 1) (by intro i T h; simpa using h) (by intro i j _ _ h; omega)
  have hcell : ∀ L w', Owns w0 (row w.heap.size #[.int .u64 G, .slice pa p.length pc] 68 (by decide) :: L) w' → w'.cell? ⟨w.heap.size, 0, none⟩ = some (.int .u64 G) ∧ w'.cell? ⟨w.heap.size, 1, none⟩ = some (.slice pa p.length pc) ∧ w.heap.size < w'.heap.size :=
    fun L w' h => ⟨cell_of_heap (own_row h 0 rfl) rfl, cell_of_heap (own_row h 0 rfl) rfl, lt_of_heap (own_row h 0 rfl)⟩
  obtain ⟨s0, -, -, -, -, -, -, hsb⟩ := own_rfields h i hi
  have hearly : ∀ en, D.saveE G p = en → D.saved G p = D → Gives (.int .i64 (D.saveE G p)) w0 (l.set i (rdisk b (D.saved G p))) w (.returned (.int .i64 en)) (w.alloc (.cells #[.int .u64 G, .slice pa p.length pc] 68)) := by
    intro en he hs
    refine ⟨by rw [he], ?_, hk1⟩
    rw [hs, hsame]
    exact hdrop _ _ _ hR
  have HR := Lib.hid hR
  have HK1 := Lib.hid hk1
  have HI1 := Lib.hid hi1
  have HDR := Lib.hid hdrop
  have HC := Lib.hid hcell
  have HV := Lib.hid hv
  have HEA := Lib.hid hearly
  have HL := Lib.hid hlen
  clear hR hk1 hi1 hsame hdrop hcell hv hlen h hearly
  by_cases hb : D.size < 2 ∨ G = 0
  · have HF := Lib.hid (HEA.out 1 (by simp only [Dk.saveE, if_pos hb]) (by simp only [Dk.saved, if_pos hb]))
    by_cases hs : D.size < 2
    · clear hb
      go_enter Try.func41, Try.ntmps41
      go_wp2_with (fail)
      go_ret
      exact HF.out
    · obtain rfl : G = 0 := by rcases hb with h | h; exact absurd h hs; exact h
      clear hb
      go_enter Try.func41, Try.ntmps41
      go_wp2_with (fail)
      go_ret
      exact HF.out
  · have hs : 2 ≤ D.size := by omega
    have hG0 : (G == 0) = false := by rw [beq_eq_false_iff_ne]; omega
    by_cases hlong : 200 < p.length
    · have HF := Lib.hid (HEA.out 3 (by simp only [Dk.saveE, if_neg hb, if_pos hlong]) (by simp only [Dk.saved, if_neg hb, if_pos hlong]))
      clear hb
      go_enter Try.func41, Try.ntmps41
      go_wp2_with (fail)
      go_ret
      exact HF.out
    · have hsh : p.length ≤ 200 := by omega
      have HBD := Lib.hid hb
      have HLG := Lib.hid hlong
      have HL2 : Hid (D.sync.all.length < Big) := Lib.hid (by rw [Dk.sync_len]; have := HL.out; omega)
      clear hb hlong
      go_enter Try.func41, Try.ntmps41
      go_wp2_with (fail)
      generalize w.alloc (.cells #[.int .u64 G, .slice pa p.length pc] 68) = w1 at HR HK1 ⊢
      clear s0
      refine (own_rsync HR.out (i + 1) HI1.out).mono ?_
      by_cases e1 : D.syncE = 0
      · rw [e1]
        rintro e w2 ⟨rfl, hO2, hk2⟩
        have hO2 : Owns w0 (row w.heap.size #[.int .u64 G, .slice pa p.length pc] 68 (by decide) :: l.set i (rdisk b D.sync)) w2 := hO2
        have hkd : Keeps w w2.drew := HK1.out.trans (hk2.trans ((Upd.refl [] w2).drew).keeps)
        have hOd := hO2.upd (Upd.refl [] w2).drew
        obtain ⟨c0, c1, hlt⟩ := HC.out _ _ hO2
        have hc2 : ∀ L w', Owns w0 (row w.heap.size #[.int .u64 G, .slice pa p.length pc] 68 (by decide) :: L) w' → w'.cell? ⟨w.heap.size, 0, none⟩ = some (.int .u64 G) ∧ w'.cell? ⟨w.heap.size, 1, none⟩ = some (.slice pa p.length pc) := fun L w' h => ⟨(HC.out L w' h).1, (HC.out L w' h).2.1⟩
        have hiS : ∀ X, (row w.heap.size #[.int .u64 G, .slice pa p.length pc] 68 (by decide) :: l.set i (rdisk b X))[i + 1]? = some (rdisk b X) := fun X => by
          rw [List.getElem?_cons_succ, List.getElem?_set, if_pos rfl, if_pos hil]
        have hwm : IntKind.i64.wrap (G.tmod 2) = G % 2 := by rw [Int.tmod_eq_emod_of_nonneg h0, IntKind.wrap_i64]; omega
        have HWM := Lib.hid hwm
        have HC2 := Lib.hid hc2
        have HIS := Lib.hid hiS
        have HOD := Lib.hid hOd
        have HKD := Lib.hid hkd
        have E1 := Lib.hid e1
        clear hO2 hk2 hkd hOd hc2 hiS hwm e1
        go_wp2_with (fail)
        by_cases e2 : D.sync.writeE (G % 2) (headSec G p) = 0
        · have E2 := Lib.hid (show D.sync.writeE (IntKind.i64.wrap (G.tmod 2)) (headSec G p) = 0 from by rw [HWM.out]; exact e2)
          clear e2
          go_region_held3 (fun w' => w'.cell? ⟨w.heap.size, 0, none⟩ = some (.int .u64 G) ∧ w'.cell? ⟨w.heap.size, 1, none⟩ = some (.slice pa p.length pc)) (first | exact ⟨c0, c1⟩ | exact HC2.out _ _ (by assumption))
            (first | (go_at_call 83; refine (own_bytes HOD.out (rsector_any h0 h1 (HV.out _ _ (HDR.out _ _ _ HOD.out) HKD.out) hsh)).mono ?_; rintro e w3 ⟨v3, rfl, hb3, hO3, hk3, -⟩; obtain ⟨a3, k3, rfl, _, _⟩ := hb3.view.shape) | (go_at_call 43; go_must (refine (own_rwrite hO3 (i + 1) (HIS.out _) hb3 HL2.out).mono ?_; rw [E2.out]; rintro e w4 ⟨rfl, hO4, hk4⟩; rw [List.set_cons_succ, List.set_set, HWM.out] at hO4; have hO4 : Owns w0 (row w.heap.size #[.int .u64 G, .slice pa p.length pc] 68 (by decide) :: l.set i (rdisk b (D.saveW G p))) w4 := hO4)))
          have e2 := E2.out
          rw [HWM.out] at e2
          have HE2 := Lib.hid e2
          have HK4 := Lib.hid (HKD.out.trans (hk3.trans hk4))
          have HO4 := Lib.hid hO4
          clear e2 hb3 hO3 hO4 hk3 hk4
          go_wp2_with (fail)
          refine (own_rsync HO4.out (i + 1) (HIS.out _)).mono ?_
          by_cases e3 : (D.saveW G p).syncE = 0
          · rw [e3]
            rintro e w5 ⟨rfl, hO5, hk5⟩
            have hO5 : Owns w0 (row w.heap.size #[.int .u64 G, .slice pa p.length pc] 68 (by decide) :: l.set i (rdisk b (D.saveW G p).sync)) w5 := by rw [List.set_cons_succ, List.set_set] at hO5; exact hO5
            have hF : Gives (.int .i64 (D.saveE G p)) w0 (l.set i (rdisk b (D.saved G p))) w (.returned (.int .i64 0)) w5 := by
              have e1 := E1.out
              have e2 := HE2.out
              refine ⟨by simp only [Dk.saveE, if_neg HBD.out, if_neg HLG.out, e1, e2, e3]; simp, ?_, HK4.out.trans hk5⟩
              have es : D.saved G p = (D.saveW G p).sync := by simp only [Dk.saved, if_neg HBD.out, if_neg HLG.out, e1, e2]; simp
              rw [es]; exact HDR.out _ _ _ hO5
            have HF := Lib.hid hF
            clear hF hO5 hk5 e3
            go_wp2_with (fail)
            go_ret
            exact HF.out
          · have e3 : (D.saveW G p).syncE = 7 := by rcases (D.saveW G p).syncE_or with h | h; exact absurd h e3; exact h
            rw [e3]
            rintro e w5 ⟨rfl, hO5, hk5⟩
            have hO5 : Owns w0 (row w.heap.size #[.int .u64 G, .slice pa p.length pc] 68 (by decide) :: l.set i (rdisk b (D.saveW G p).sync)) w5 := by rw [List.set_cons_succ, List.set_set] at hO5; exact hO5
            have hF : Gives (.int .i64 (D.saveE G p)) w0 (l.set i (rdisk b (D.saved G p))) w (.returned (.int .i64 7)) w5 := by
              have e1 := E1.out
              have e2 := HE2.out
              refine ⟨by simp only [Dk.saveE, if_neg HBD.out, if_neg HLG.out, e1, e2, e3]; simp, ?_, HK4.out.trans hk5⟩
              have es : D.saved G p = (D.saveW G p).sync := by simp only [Dk.saved, if_neg HBD.out, if_neg HLG.out, e1, e2]; simp
              rw [es]; exact HDR.out _ _ _ hO5
            have HF := Lib.hid hF
            clear hF hO5 hk5 e3
            go_wp2_with (fail)
            go_ret
            exact HF.out
        · have e2' : D.sync.writeE (G % 2) (headSec G p) = 7 := by
            rcases Dk.writeE_or (n := G % 2) (l := headSec G p) (Dk.sync_up E1.out).1 (by omega) (by rw [(Dk.sync_up E1.out).2]; omega) (headSec_len G p hsh) with h | h
            · exact absurd h e2
            · exact h
          have E2 := Lib.hid (show D.sync.writeE (IntKind.i64.wrap (G.tmod 2)) (headSec G p) = 7 from by rw [HWM.out]; exact e2')
          clear e2 e2'
          go_region_held3 (fun w' => w'.cell? ⟨w.heap.size, 0, none⟩ = some (.int .u64 G) ∧ w'.cell? ⟨w.heap.size, 1, none⟩ = some (.slice pa p.length pc)) (first | exact ⟨c0, c1⟩ | exact HC2.out _ _ (by assumption))
            (first | (go_at_call 83; refine (own_bytes HOD.out (rsector_any h0 h1 (HV.out _ _ (HDR.out _ _ _ HOD.out) HKD.out) hsh)).mono ?_; rintro e w3 ⟨v3, rfl, hb3, hO3, hk3, -⟩; obtain ⟨a3, k3, rfl, _, _⟩ := hb3.view.shape) | (go_at_call 43; go_must (refine (own_rwrite hO3 (i + 1) (HIS.out _) hb3 HL2.out).mono ?_; rw [E2.out]; rintro e w4 ⟨rfl, hO4, hk4⟩; rw [List.set_cons_succ, List.set_set, HWM.out] at hO4; have hO4 : Owns w0 (row w.heap.size #[.int .u64 G, .slice pa p.length pc] 68 (by decide) :: l.set i (rdisk b (D.saveW G p))) w4 := hO4)))
          have hF : Gives (.int .i64 (D.saveE G p)) w0 (l.set i (rdisk b (D.saved G p))) w (.returned (.int .i64 7)) w4 := by
            have e1 := E1.out
            have e2 := E2.out
            rw [HWM.out] at e2
            have hne : D.sync.writeE (G % 2) (headSec G p) ≠ 0 := by rw [e2]; omega
            have h0' : ¬ D.syncE ≠ 0 := by rw [e1]; omega
            refine ⟨by simp only [Dk.saveE, if_neg HBD.out, if_neg HLG.out, if_neg h0', if_pos hne], ?_, HKD.out.trans (hk3.trans hk4)⟩
            have es : D.saved G p = D.saveW G p := by simp only [Dk.saved, if_neg HBD.out, if_neg HLG.out, if_neg h0', if_pos hne]
            rw [es]; exact HDR.out _ _ _ hO4
          have HF := Lib.hid hF
          clear hF hb3 hO3 hO4 hk3 hk4
          go_wp2_with (fail)
          go_ret
          exact HF.out
      · have e1 : D.syncE = 7 := by rcases D.syncE_or with h | h; exact absurd h e1; exact h
        rw [e1]
        rintro e w2 ⟨rfl, hO2, hk2⟩
        have hO2 : Owns w0 (row w.heap.size #[.int .u64 G, .slice pa p.length pc] 68 (by decide) :: l.set i (rdisk b D.sync)) w2 := hO2
        have hF : Gives (.int .i64 (D.saveE G p)) w0 (l.set i (rdisk b (D.saved G p))) w (.returned (.int .i64 7)) w2 := by
          have hne : D.syncE ≠ 0 := by rw [e1]; omega
          refine ⟨by simp only [Dk.saveE, if_neg HBD.out, if_neg HLG.out, if_pos hne], ?_, HK1.out.trans hk2⟩
          have es : D.saved G p = D.sync := by simp only [Dk.saved, if_neg HBD.out, if_neg HLG.out, if_pos hne]
          rw [es]; exact HDR.out _ _ _ hO2
        have HF := Lib.hid hF
        clear hF hO2 hk2 e1
        go_wp2_with (fail)
        go_ret
        exact HF.out

end Go.Proofs.Ytkpoladbabhdmaa
