/- The contracts of the reference's Write and Sync, whole. Conditions: as each says. -/
import Derived.Test.YtkpoladbabhdmaaRef2
namespace Go.Proofs.Ytkpoladbabhdmaa
open Go.RowKit

theorem rwrite_any {b : Nat} {w : World} {D : Dk} {F : List Nat} (h : RefAt w b D F) {n : Int} {v : Value} {l : Bytes} (hv : BytesV w v l) (hsep : ∀ g, v.ownBlock = some g → g ∉ F)
    (hlen : D.all.length < Big) :
    Calls Try.prog 43 #[.pointer (some ⟨b, 0, none⟩), .int .i64 n, v] w (Returns (.int .i64 (D.writeE n l)) (Turned w (rdisk b (D.write n l)) F)) := by
  cases hd : D.down with
  | true => exact (rwrite_down h hd n v).mono fun e w' ⟨he, hw⟩ => ⟨by rw [he]; simp [Dk.writeE, hd], by subst hw; simp only [Dk.write, hd, if_true]; exact .stay h⟩
  | false =>
    cases ho : D.okArg n l with
    | false => exact (rwrite_bad h hd hv ho).mono fun e w' ⟨he, hw⟩ => ⟨by rw [he]; simp [Dk.writeE, hd, ho], by subst hw; simp only [Dk.write, hd, ho, if_false, Bool.false_eq_true]; exact .stay h⟩
    | true =>
      cases hf : D.burns with
      | false => exact (rwrite_burnt h hd hv ho hf).mono fun e w' ⟨he, hw⟩ => ⟨by rw [he]; simp [Dk.writeE, hd, ho, hf], by simp only [Dk.write, hd, ho, hf, if_false, if_true, Bool.false_eq_true]; exact hw⟩
      | true => exact (rwrite_ok h hd hv hsep ho hf hlen).mono fun e w' ⟨he, hw⟩ => ⟨by rw [he]; simp [Dk.writeE, hd, ho, hf], by simp only [Dk.write, hd, ho, hf, if_false, if_true, Bool.false_eq_true]; exact hw⟩

set_option maxHeartbeats 400000 in
theorem rsync_down {b : Nat} {w : World} {D : Dk} {F : List Nat} (h : RefAt w b D F) (hd : D.down = true) :
    Calls Try.prog 79 #[.pointer (some ⟨b, 0, none⟩)] w fun e w' => e = .returned (.int .i64 7) ∧ w = w' := by
  obtain ⟨pa, pc, -, -, -, -, hc, -⟩ := h.fields
  go_enter Try.func79, Try.ntmps79
  go_wp2_with (fail)
  go_ret
  exact ⟨rfl, rfl⟩

set_option maxHeartbeats 400000 in
theorem rsync_burnt {b : Nat} {w : World} {D : Dk} {F : List Nat} (h : RefAt w b D F) (hd : D.down = false) (hf : D.burns = false) :
    Calls Try.prog 79 #[.pointer (some ⟨b, 0, none⟩)] w (Returns (.int .i64 7) (Turned w (rdisk b D.burnt) F)) := by
  obtain ⟨pa, pc, -, -, -, -, hc, -⟩ := h.fields
  have hnot : ∀ (x : Bool) (w : World), (Op.unary .not (.bool x)).run Try.prog w = .ok (.bool (!x)) w := fun _ _ => rfl
  go_enter Try.func79, Try.ntmps79
  go_wp2_with (fail)
  refine (rburn_any h).mono ?_
  rintro e w1 ⟨rfl, hT⟩
  have HT := Lib.hid hT
  clear hT
  go_wp2_with (fail)
  go_ret
  exact ⟨rfl, HT.out⟩

set_option maxHeartbeats 1000000 in
theorem rsync_ok {b : Nat} {w : World} {D : Dk} {F : List Nat} (h : RefAt w b D F) (hd : D.down = false) (hf : D.burns = true) :
    Calls Try.prog 79 #[.pointer (some ⟨b, 0, none⟩)] w (Returns (.int .i64 0) (Turned w (rdisk b D.synced) F)) := by
  have hbwf := Dk.burnt_wf h.1
  obtain ⟨pa, pc, -, -, -, -, hc, -⟩ := h.fields
  have hnot : ∀ (x : Bool) (w : World), (Op.unary .not (.bool x)).run Try.prog w = .ok (.bool (!x)) w := fun _ _ => rfl
  go_enter Try.func79, Try.ntmps79
  go_wp2_with (fail)
  refine (rburn_any h).mono ?_
  rintro e w1 ⟨rfl, F1, hD1, hU1, hF1⟩
  have hD1 : RefAt w1 b D.burnt F1 := hD1
  clear hc hd pa pc
  obtain ⟨-, -, -, -, -, -, -, -, -, hc7, -⟩ := hD1.fields
  have hz7 := hD1.free 7
  have hT2 : Turned w1 (rdisk b D.act2) F1 ((w1.setCell ⟨b, 7, none⟩ (.int .i64 (wrap64 (D.burnt.a2 + 1)))).drew) := by
    obtain ⟨F', g1, g2, g3⟩ := hD1.field 7 (.int .i64 (wrap64 (D.burnt.a2 + 1))) (D' := D.act2) ⟨hbwf.s0, hbwf.s1, hbwf.f0, hbwf.f1, hbwf.la, hbwf.wr⟩ rfl (fun _ => by simp [rcells, Dk.act2, D.burnt_a2])
    exact ⟨F', (rdisk b D.act2).upd _ _ _ [] g1 (Upd.refl [] _).drew (by simp), g2.drew, g3⟩
  generalize hw2 : (w1.setCell ⟨b, 7, none⟩ (.int .i64 (wrap64 (D.burnt.a2 + 1)))).drew = w2 at hT2
  obtain ⟨F2, hD2, hU2, hF2⟩ := hT2
  have hD2 : RefAt w2 b D.act2 F2 := hD2
  have hU12 : Upd F w w2 := hU1.trans hU2 hF1
  have hF12 : ∀ k ∈ F2, k ∈ F ∨ w.heap.size ≤ k := by
    intro k hk
    rcases hF2 k hk with h | h
    · exact hF1 k h
    · exact .inr (Nat.le_trans hU1.size h)
  have hlen : D.act2.all.length = D.all.length := by simp [Dk.act2, D.burnt_all]
  obtain ⟨pa, pc, -, hk1, hk2, -, -, -, -, -, hm⟩ := hD2.fields
  have hz2 := hD2.free 2
  have hT3 : Turned w (rdisk b D.synced) F (w2.setCell ⟨b, 2, none⟩ (.int .i64 (D.act2.all.length : Int))) := by
    refine .trans hU12 hF12 (hD2.field 2 (.int .i64 (D.act2.all.length : Int)) (D' := D.synced) ⟨hbwf.s0, hbwf.s1, hbwf.f0, hbwf.f1, ?_, hbwf.wr⟩ rfl fun _ => ?_)
    · simp [Dk.synced, D.burnt_all]
    · simp [rcells, Dk.synced, Dk.act2, D.burnt_all]
  have HT := Lib.hid hT3
  have HW2 := Lib.hid hw2
  clear hT3 hw2 hD2 hU2 hF2 hU12 hF12 hD1 hU1 hF1 hbwf hlen h
  go_wp2_with (fail)
  go_region
  rw [HW2.out]
  clear hc7 hz7
  go_wp2_with (fail)
  go_ret
  exact ⟨rfl, HT.out⟩

theorem rsync_any {b : Nat} {w : World} {D : Dk} {F : List Nat} (h : RefAt w b D F) :
    Calls Try.prog 79 #[.pointer (some ⟨b, 0, none⟩)] w (Returns (.int .i64 D.syncE) (Turned w (rdisk b D.sync) F)) := by
  cases hd : D.down with
  | true => exact (rsync_down h hd).mono fun e w' ⟨he, hw⟩ => ⟨by rw [he]; simp [Dk.syncE, hd], by subst hw; simp only [Dk.sync, hd, if_true]; exact .stay h⟩
  | false =>
    cases hf : D.burns with
    | false => exact (rsync_burnt h hd hf).mono fun e w' ⟨he, hw⟩ => ⟨by rw [he]; simp [Dk.syncE, hd, hf], by simp only [Dk.sync, hd, hf, if_false, Bool.false_eq_true]; exact hw⟩
    | true => exact (rsync_ok h hd hf).mono fun e w' ⟨he, hw⟩ => ⟨by rw [he]; simp [Dk.syncE, hd, hf], by simp only [Dk.sync, hd, hf, if_false, if_true, Bool.false_eq_true]; exact hw⟩

end Go.Proofs.Ytkpoladbabhdmaa
