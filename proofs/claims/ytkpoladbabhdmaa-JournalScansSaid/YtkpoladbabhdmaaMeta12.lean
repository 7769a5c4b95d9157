/- Save of the program's meta, whatever burns. Conditions: as each says. -/
import Derived.Test.YtkpoladbabhdmaaMeta11
import Derived.Deep.RegionWith
namespace Go.Proofs.Ytkpoladbabhdmaa
open Go.RowKit

set_option maxRecDepth 100000 in
set_option maxHeartbeats 4000000 in
/-- what is refused ahead of all -/
theorem own_save_early {w0 w : World} {l : List Thing} {b : Nat} {D : Dk} (h : Owns w0 l w) (i : Nat) (hi : l[i]? = some (disk b D)) {v : Value} {p : Bytes} (hv : Lasting w0 w v p) {G : Int} (h0 : 0 ≤ G) (h1 : G < 18446744073709551616)
    (hbad : (D.size < 2 ∨ G = 0) ∨ 200 < p.length) :
    Calls Try.prog 37 #[.pointer (some ⟨b, 0, none⟩), .agg #[.int .u64 G, v]] w (Gives (.int .i64 (D.saveE G p)) w0 (l.set i (disk b (D.saved G p))) w) := by
  obtain ⟨pa, pc, rfl, _, hpm⟩ := (hv w l h (Keeps.refl w)).shape
  have hR := own_row_new h #[.int .u64 G, .slice pa p.length pc] 60 (by decide)
  have hk1 : Keeps w (w.alloc (.cells #[.int .u64 G, .slice pa p.length pc] 60)) := ((Upd.refl [] w).alloc _).keeps
  have hi1 : (row w.heap.size #[.int .u64 G, .slice pa p.length pc] 60 (by decide) :: l)[i + 1]? = some (disk b D) := by simpa using hi
  have hpl : p.length ≤ 9223372036854775807 := by unfold maxLen at hpm; omega
  have hil : i < l.length := (List.getElem?_eq_some_iff.1 hi).1
  have hsame : l.set i (disk b D) = l := List.ext_getElem? fun j => by
    rw [List.getElem?_set]; split
    · rename_i hij; subst hij; exact hi.symm
    · rfl
  have hfin : ∀ en, D.saveE G p = en → D.saved G p = D → Gives (.int .i64 (D.saveE G p)) w0 (l.set i (disk b (D.saved G p))) w (.returned (.int .i64 en)) (w.alloc (.cells #[.int .u64 G, .slice pa p.length pc] 60)) := by
    intro en he hs
    refine ⟨by rw [he], ?_, hk1⟩
    rw [hs, hsame]
    exact hR.pick (fun i => i + 1) (by intro i T h; simpa using h) (by intro i j _ _ h; omega)
  have HR := Lib.hid hR
  have HI1 := Lib.hid hi1
  have HFN := Lib.hid hfin
  clear hR hk1 hi1 hsame hv h hfin
  by_cases hb : D.size < 2 ∨ G = 0
  · have HF := Lib.hid (HFN.out 1 (by simp only [Dk.saveE, if_pos hb]) (by simp only [Dk.saved, if_pos hb]))
    by_cases hs : D.size < 2
    · clear hb hbad
      go_enter Try.func37, Try.ntmps37
      go_wp2_with (fail)
      refine (own_size HR.out (i + 1) HI1.out).mono ?_
      rintro e w' ⟨rfl, rfl⟩
      go_wp2_with (fail)
      go_ret
      exact HF.out
    · obtain rfl : G = 0 := by rcases hb with h | h; exact absurd h hs; exact h
      clear hb hbad
      go_enter Try.func37, Try.ntmps37
      go_wp2_with (fail)
      refine (own_size HR.out (i + 1) HI1.out).mono ?_
      rintro e w' ⟨rfl, rfl⟩
      go_wp2_with (fail)
      go_ret
      exact HF.out
  · have hs : 2 ≤ D.size := by omega
    have hG0 : (G == 0) = false := by rw [beq_eq_false_iff_ne]; omega
    have hlong : 200 < p.length := by rcases hbad with h | h; exact absurd h hb; exact h
    have HF := Lib.hid (HFN.out 3 (by simp only [Dk.saveE, if_neg hb, if_pos hlong]) (by simp only [Dk.saved, if_neg hb, if_pos hlong]))
    clear hb hbad
    go_enter Try.func37, Try.ntmps37
    go_wp2_with (fail)
    refine (own_size HR.out (i + 1) HI1.out).mono ?_
    rintro e w' ⟨rfl, rfl⟩
    go_wp2_with (fail)
    go_ret
    exact HF.out

set_option maxRecDepth 100000 in
set_option maxHeartbeats 4000000 in
/-- the first Sync, or the Write, is refused -/
theorem own_save_burnt {w0 w : World} {l : List Thing} {b : Nat} {D : Dk} (h : Owns w0 l w) (i : Nat) (hi : l[i]? = some (disk b D)) {v : Value} {p : Bytes} (hv : Lasting w0 w v p) {G : Int} (h0 : 0 ≤ G) (h1 : G < 18446744073709551616) (hlen : D.all.length + 1 < Big)
    (hbad : ¬ ((D.size < 2 ∨ G = 0) ∨ 200 < p.length)) (hno : D.syncE ≠ 0 ∨ D.sync.writeE (G % 2) (headSec G p) ≠ 0) :
    Calls Try.prog 37 #[.pointer (some ⟨b, 0, none⟩), .agg #[.int .u64 G, v]] w (Gives (.int .i64 (D.saveE G p)) w0 (l.set i (disk b (D.saved G p))) w) := by
  obtain ⟨pa, pc, rfl, _, hpm⟩ := (hv w l h (Keeps.refl w)).shape
  have hR := own_row_new h #[.int .u64 G, .slice pa p.length pc] 60 (by decide)
  have hk1 : Keeps w (w.alloc (.cells #[.int .u64 G, .slice pa p.length pc] 60)) := ((Upd.refl [] w).alloc _).keeps
  have hi1 : (row w.heap.size #[.int .u64 G, .slice pa p.length pc] 60 (by decide) :: l)[i + 1]? = some (disk b D) := by simpa using hi
  have hpl : p.length ≤ 9223372036854775807 := by unfold maxLen at hpm; omega
  have hil : i < l.length := (List.getElem?_eq_some_iff.1 hi).1
  have hdrop : ∀ c L w', Owns w0 (row w.heap.size c 60 (by decide) :: L) w' → Owns w0 L w' := fun c L w' h => h.pick (fun i => i + 1) (by intro i T h; simpa using h) (by intro i j _ _ h; omega)
  have hcell : ∀ L w', Owns w0 (row w.heap.size #[.int .u64 G, .slice pa p.length pc] 60 (by decide) :: L) w' → w'.cell? ⟨w.heap.size, 0, none⟩ = some (.int .u64 G) ∧ w'.cell? ⟨w.heap.size, 1, none⟩ = some (.slice pa p.length pc) ∧ w.heap.size < w'.heap.size :=
    fun L w' h => ⟨cell_of_heap (own_row h 0 rfl) rfl, cell_of_heap (own_row h 0 rfl) rfl, lt_of_heap (own_row h 0 rfl)⟩
  have hb1 : ¬ (D.size < 2 ∨ G = 0) := fun h => hbad (.inl h)
  have hb2 : ¬ 200 < p.length := fun h => hbad (.inr h)
  have hs : 2 ≤ D.size := by omega
  have hsh : p.length ≤ 200 := by omega
  have hG0 : (G == 0) = false := by rw [beq_eq_false_iff_ne]; omega
  have HR := Lib.hid hR
  have HK1 := Lib.hid hk1
  have HI1 := Lib.hid hi1
  have HDR := Lib.hid hdrop
  have HC := Lib.hid hcell
  have HV := Lib.hid hv
  have HL1 : Hid (D.all.length < Big) := Lib.hid (by omega)
  have HL2 : Hid (D.sync.all.length < Big) := Lib.hid (by rw [Dk.sync_len]; omega)
  have HB1 := Lib.hid hb1
  have HB2 := Lib.hid hb2
  have HNO := Lib.hid hno
  clear hR hk1 hi1 hdrop hcell hv hlen h hbad hb1 hb2 hno
  by_cases e1 : D.syncE = 0
  · have hwm : IntKind.i64.wrap (G.tmod 2) = G % 2 := by rw [Int.tmod_eq_emod_of_nonneg h0, IntKind.wrap_i64]; omega
    have e2 : D.sync.writeE (G % 2) (headSec G p) = 7 := by
      rcases Dk.writeE_or (n := G % 2) (l := headSec G p) (Dk.sync_up e1).1 (by omega) (by rw [(Dk.sync_up e1).2]; omega) (headSec_len G p hsh) with h | h
      · rcases HNO.out with h' | h'
        · exact absurd e1 h'
        · exact absurd h h'
      · exact h
    have HWM := Lib.hid hwm
    have E1 := Lib.hid e1
    have E2 := Lib.hid (show D.sync.writeE (IntKind.i64.wrap (G.tmod 2)) (headSec G p) = 7 from by rw [HWM.out]; exact e2)
    have hiS : ∀ X, (row w.heap.size #[.int .u64 G, .slice pa p.length pc] 60 (by decide) :: l.set i (disk b X))[i + 1]? = some (disk b X) := fun X => by
      rw [List.getElem?_cons_succ, List.getElem?_set, if_pos rfl, if_pos hil]
    have HIS := Lib.hid hiS
    clear e1 e2 hwm hiS
    go_enter Try.func37, Try.ntmps37
    go_wp2_with (fail)
    refine (own_size HR.out (i + 1) HI1.out).mono ?_
    rintro e w' ⟨rfl, rfl⟩
    go_wp2_with (fail)
    generalize w.alloc (.cells #[.int .u64 G, .slice pa p.length pc] 60) = w1 at HR HK1 ⊢
    have HOD := Lib.hid (HR.out.upd (Upd.refl [] w1).drew)
    have HKD := Lib.hid (HK1.out.trans ((Upd.refl [] w1).drew).keeps)
    obtain ⟨c0, c1, hlt⟩ := HC.out _ _ HR.out
    have hc2 : ∀ L w', Owns w0 (row w.heap.size #[.int .u64 G, .slice pa p.length pc] 60 (by decide) :: L) w' → w'.cell? ⟨w.heap.size, 0, none⟩ = some (.int .u64 G) ∧ w'.cell? ⟨w.heap.size, 1, none⟩ = some (.slice pa p.length pc) := fun L w' h => ⟨(HC.out L w' h).1, (HC.out L w' h).2.1⟩
    have HC2 := Lib.hid hc2
    clear hc2
    first
      | go_region_with ((first | (go_at_call 24; refine (own_sync HOD.out (i + 1) HI1.out HL1.out).mono ?_; rw [E1.out]; rintro e w2 ⟨rfl, hO2, hk2⟩; have hO2 : Owns w0 (row w.heap.size #[.int .u64 G, .slice pa p.length pc] 60 (by decide) :: l.set i (disk b D.sync)) w2 := hO2; obtain ⟨d0, d1⟩ := HC2.out _ _ hO2) | (go_at_call 81; refine (own_bytes hO2 (sector8_any (HV.out w2 _ (HDR.out _ _ _ hO2) (HKD.out.trans hk2)) hsh)).mono ?_; rintro e w3 ⟨v3, rfl, hb3, hO3, hk3, -⟩; obtain ⟨a3, k3, rfl, _, _⟩ := hb3.view.shape; obtain ⟨f0, f1⟩ := HC2.out _ _ hO3) | (go_at_call 22; go_must (refine (own_write hO3 (i + 1) (HIS.out _) hb3 HL2.out).mono ?_; rw [E2.out]; rintro e w4 ⟨rfl, hO4, hk4⟩; rw [List.set_cons_succ, List.set_set, HWM.out] at hO4; have hO4 : Owns w0 (row w.heap.size #[.int .u64 G, .slice pa p.length pc] 60 (by decide) :: l.set i (disk b (D.saveW G p))) w4 := hO4))))
      | fail
    all_goals
      have hF : Gives (.int .i64 (D.saveE G p)) w0 (l.set i (disk b (D.saved G p))) w (.returned (.int .i64 7)) w4 := by
        have e1 := E1.out
        have e2 := E2.out
        rw [HWM.out] at e2
        have hne : D.sync.writeE (G % 2) (headSec G p) ≠ 0 := by rw [e2]; omega
        have h0' : ¬ D.syncE ≠ 0 := by rw [e1]; omega
        refine ⟨by simp only [Dk.saveE, if_neg HB1.out, if_neg HB2.out, if_neg h0', if_pos hne], ?_, HKD.out.trans (hk2.trans (hk3.trans hk4))⟩
        have es : D.saved G p = D.saveW G p := by simp only [Dk.saved, if_neg HB1.out, if_neg HB2.out, if_neg h0', if_pos hne]
        rw [es]; exact HDR.out _ _ _ hO4
      have HF := Lib.hid hF
      clear hF hO2 hO3 hO4 hb3
      go_wp2_with (fail)
      go_ret
      exact HF.out
  · have e1 : D.syncE = 7 := by rcases D.syncE_or with h | h; exact absurd h e1; exact h
    have E1 := Lib.hid e1
    clear e1
    go_enter Try.func37, Try.ntmps37
    go_wp2_with (fail)
    refine (own_size HR.out (i + 1) HI1.out).mono ?_
    rintro e w' ⟨rfl, rfl⟩
    go_wp2_with (fail)
    generalize w.alloc (.cells #[.int .u64 G, .slice pa p.length pc] 60) = w1 at HR HK1 ⊢
    have HOD := Lib.hid (HR.out.upd (Upd.refl [] w1).drew)
    have HKD := Lib.hid (HK1.out.trans ((Upd.refl [] w1).drew).keeps)
    refine wp_region_any (by kernel_rfl) ?_
    change wpAny _ _ _ _ _ _ _ (World.drew _)
    refine wpAny_take (i := 0) (v := .pointer (some ⟨b, 0, none⟩)) rfl (by kernel_rfl) (by kernel_rfl) (by kernel_rfl) (fun _ _ _ h => h) (Or.inl ⟨by kernel_rfl, by intro w; go_simp⟩) ?_
    change wpAny _ _ _ _ _ _ (Act.put _ (some 20) _) _
    refine wpAny_ready (rs := [1]) (by kernel_rfl) (by simp) ?_
    refine AllReady.cons rfl (fun K hK => ?_) AllReady.nil
    go_simp
    go_wp2_with (go_at_call 24; refine (own_sync HOD.out (i + 1) HI1.out HL1.out).mono ?_; rw [E1.out]; rintro e w2 ⟨rfl, hO2, hk2⟩)
    refine wpAny_take (i := 2) (v := .bool true) rfl (by kernel_rfl) (by kernel_rfl) (by kernel_rfl) (fun _ _ _ h => h) (Or.inl ⟨by kernel_rfl, by intro w; go_simp⟩) ?_
    change wpAny _ _ _ _ _ _ (Act.put _ (some 22) _) _
    refine wpAny_take (i := 3) (v := .bool true) rfl (by kernel_rfl) (by kernel_rfl) (by kernel_rfl) (fun _ _ _ h => h) (Or.inl ⟨by kernel_rfl, by intro w; go_simp⟩) ?_
    change wpAny _ _ _ _ _ _ (Act.put _ (some 23) _) _
    refine wpAny_take (i := 4) (v := undef) rfl (by kernel_rfl) (by kernel_rfl) (by kernel_rfl) (fun _ _ _ h => h) (Or.inr ⟨by kernel_rfl, rfl⟩) ?_
    change wpAny _ _ _ _ _ _ (Act.put _ (some 24) _) _
    refine wpAny_take (i := 5) (v := undef) rfl (by kernel_rfl) (by kernel_rfl) (by kernel_rfl) (fun _ _ _ h => h) (Or.inr ⟨by kernel_rfl, rfl⟩) ?_
    change wpAny _ _ _ _ _ _ (Act.put _ (some 25) _) _
    refine wpAny_take (i := 6) (v := undef) rfl (by kernel_rfl) (by kernel_rfl) (by kernel_rfl) (fun _ _ _ h => h) (Or.inr ⟨by kernel_rfl, rfl⟩) ?_
    change wpAny _ _ _ _ _ _ (Act.put _ (some 26) _) _
    refine wpAny_take (i := 7) (v := undef) rfl (by kernel_rfl) (by kernel_rfl) (by kernel_rfl) (fun _ _ _ h => h) (Or.inr ⟨by kernel_rfl, rfl⟩) ?_
    change wpAny _ _ _ _ _ _ (Act.put _ (some 27) _) _
    refine wpAny_take (i := 8) (v := undef) rfl (by kernel_rfl) (by kernel_rfl) (by kernel_rfl) (fun _ _ _ h => h) (Or.inr ⟨by kernel_rfl, rfl⟩) ?_
    change wpAny _ _ _ _ _ _ (Act.put _ (some 28) _) _
    refine wpAny_take (i := 9) (v := undef) rfl (by kernel_rfl) (by kernel_rfl) (by kernel_rfl) (fun _ _ _ h => h) (Or.inr ⟨by kernel_rfl, rfl⟩) ?_
    change wpAny _ _ _ _ _ _ (Act.put _ (some 29) _) _
    refine wpAny_take (i := 10) (v := undef) rfl (by kernel_rfl) (by kernel_rfl) (by kernel_rfl) (fun _ _ _ h => h) (Or.inr ⟨by kernel_rfl, rfl⟩) ?_
    change wpAny _ _ _ _ _ _ (Act.put _ (some 30) _) _
    refine wpAny_take (i := 11) (v := undef) rfl (by kernel_rfl) (by kernel_rfl) (by kernel_rfl) (fun _ _ _ h => h) (Or.inr ⟨by kernel_rfl, rfl⟩) ?_
    change wpAny _ _ _ _ _ _ (Act.put _ (some 31) _) _
    refine wpAny_take (i := 12) (v := undef) rfl (by kernel_rfl) (by kernel_rfl) (by kernel_rfl) (fun _ _ _ h => h) (Or.inr ⟨by kernel_rfl, rfl⟩) ?_
    change wpAny _ _ _ _ _ _ (Act.put _ (some 32) _) _
    refine wpAny_take (i := 13) (v := .bool true) rfl (by kernel_rfl) (by kernel_rfl) (by kernel_rfl) (fun _ _ _ h => h) (Or.inl ⟨by kernel_rfl, by intro w; go_simp⟩) ?_
    change wpAny _ _ _ _ _ _ (Act.put _ (some 33) _) _
    refine wpAny_take (i := 14) (v := .bool true) rfl (by kernel_rfl) (by kernel_rfl) (by kernel_rfl) (fun _ _ _ h => h) (Or.inl ⟨by kernel_rfl, by intro w; go_simp⟩) ?_
    change wpAny _ _ _ _ _ _ (Act.put _ (some 34) _) _
    refine wpAny_take (i := 15) (v := undef) rfl (by kernel_rfl) (by kernel_rfl) (by kernel_rfl) (fun _ _ _ h => h) (Or.inr ⟨by kernel_rfl, rfl⟩) ?_
    change wpAny _ _ _ _ _ _ (Act.put _ (some 35) _) _
    refine wpAny_take (i := 16) (v := undef) rfl (by kernel_rfl) (by kernel_rfl) (by kernel_rfl) (fun _ _ _ h => h) (Or.inr ⟨by kernel_rfl, rfl⟩) ?_
    change wpAny _ _ _ _ _ _ (Act.put _ (some 36) _) _
    refine wpAny_take (i := 17) (v := undef) rfl (by kernel_rfl) (by kernel_rfl) (by kernel_rfl) (fun _ _ _ h => h) (Or.inr ⟨by kernel_rfl, rfl⟩) ?_
    change wpAny _ _ _ _ _ _ (Act.put _ (some 37) _) _
    refine wpAny_take (i := 18) (v := .bool true) rfl (by kernel_rfl) (by kernel_rfl) (by kernel_rfl) (fun _ _ _ h => h) (Or.inl ⟨by kernel_rfl, by intro w; go_simp⟩) ?_
    change wpAny _ _ _ _ _ _ (Act.put _ (some 38) _) _
    refine wpAny_take (i := 19) (v := .bool true) rfl (by kernel_rfl) (by kernel_rfl) (by kernel_rfl) (fun _ _ _ h => h) (Or.inl ⟨by kernel_rfl, by intro w; go_simp⟩) ?_
    change wpAny _ _ _ _ _ _ (Act.put _ (some 19) _) _
    refine wpAny_done (by kernel_rfl) ?_ _
    go_simp
    have hO2 : Owns w0 (row w.heap.size #[.int .u64 G, .slice pa p.length pc] 60 (by decide) :: l.set i (disk b D.sync)) w2 := hO2
    have hF : Gives (.int .i64 (D.saveE G p)) w0 (l.set i (disk b (D.saved G p))) w (.returned (.int .i64 7)) w2 := by
      have hne : D.syncE ≠ 0 := by rw [E1.out]; omega
      refine ⟨by simp only [Dk.saveE, if_neg HB1.out, if_neg HB2.out, if_pos hne], ?_, HKD.out.trans hk2⟩
      have es : D.saved G p = D.sync := by simp only [Dk.saved, if_neg HB1.out, if_neg HB2.out, if_pos hne]
      rw [es]; exact HDR.out _ _ _ hO2
    have HF := Lib.hid hF
    clear hF hO2 hk2
    go_wp2_with (fail)
    go_ret
    exact HF.out

theorem own_save {w0 w : World} {l : List Thing} {b : Nat} {D : Dk} (h : Owns w0 l w) (i : Nat) (hi : l[i]? = some (disk b D)) {v : Value} {p : Bytes} (hv : Lasting w0 w v p) {G : Int} (h0 : 0 ≤ G) (h1 : G < 18446744073709551616) (hlen : D.all.length + 1 < Big) :
    Calls Try.prog 37 #[.pointer (some ⟨b, 0, none⟩), .agg #[.int .u64 G, v]] w (Gives (.int .i64 (D.saveE G p)) w0 (l.set i (disk b (D.saved G p))) w) := by
  by_cases hbad : (D.size < 2 ∨ G = 0) ∨ 200 < p.length
  · exact own_save_early h i hi hv h0 h1 hbad
  · by_cases hno : D.syncE ≠ 0 ∨ D.sync.writeE (G % 2) (headSec G p) ≠ 0
    · exact own_save_burnt h i hi hv h0 h1 hlen hbad hno
    · refine own_save_up h i hi hv h0 h1 hlen ⟨?_, fun _ _ => ?_⟩
      · exact Decidable.byContradiction fun hc => hno (.inl hc)
      · exact Decidable.byContradiction fun hc => hno (.inr hc)

end Go.Proofs.Ytkpoladbabhdmaa
