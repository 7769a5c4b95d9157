/- A disk that does not burn, saved upon, plain. Conditions: as each says. -/
import Derived.Test.YtkpoladbabhdmaaMeta9
namespace Go.Proofs.Ytkpoladbabhdmaa
open Go.RowKit

/-- a disk that is up and has no fuse -/
structure Calm (D : Dk) : Prop where
  down : D.down = false
  fuse : D.fuse = -1

theorem Calm.new (n : Int) : Calm (Dk.new n) := ⟨rfl, rfl⟩
theorem Calm.burns {D : Dk} (h : Calm D) : D.burns = true := by simp [Dk.burns, h.fuse]
theorem Calm.burnt {D : Dk} (h : Calm D) : D.burnt = D := by
  unfold Dk.burnt
  rw [if_neg (by rw [h.fuse]; omega), if_neg (by rw [h.fuse]; omega)]
theorem Calm.sync {D : Dk} (h : Calm D) : D.syncE = 0 ∧ Calm D.sync ∧ D.sync.size = D.size ∧ D.sync.all = D.all ∧ D.sync.lasts = D.all.length := by
  have e : D.sync = D.synced := by simp [Dk.sync, h.down, h.burns]
  refine ⟨by simp [Dk.syncE, h.down, h.burns], ?_, ?_, ?_, ?_⟩ <;> rw [e]
  · exact ⟨by simp only [Dk.synced, h.burnt]; exact h.down, by simp only [Dk.synced, h.burnt]; exact h.fuse⟩
  · simp only [Dk.synced, h.burnt]
  · simp only [Dk.synced, h.burnt]
  · rfl
theorem Calm.write {D : Dk} (h : Calm D) {n : Int} {l : Bytes} (h0 : 0 ≤ n) (h1 : n < D.size) (hl : l.length = 256) :
    D.writeE n l = 0 ∧ Calm (D.write n l) ∧ (D.write n l).size = D.size ∧ (D.write n l).all = D.all ++ [(n, l)] ∧ (D.write n l).lasts = D.lasts := by
  have ho : D.okArg n l = true := by simp [Dk.okArg, h0, h1, hl]
  have e : D.write n l = D.wrote n l := by simp [Dk.write, h.down, ho, h.burns]
  refine ⟨by simp [Dk.writeE, h.down, ho, h.burns], ?_, ?_, ?_, ?_⟩ <;> rw [e]
  · exact ⟨by simp only [Dk.wrote, h.burnt]; exact h.down, by simp only [Dk.wrote, h.burnt]; exact h.fuse⟩
  · simp only [Dk.wrote, h.burnt]
  · simp only [Dk.wrote]
  · simp only [Dk.wrote, h.burnt]

/-- what own_save_up asks for -/
theorem Calm.ok {D : Dk} (h : Calm D) {G : Int} {p : Bytes} : D.syncE = 0 ∧ (2 ≤ D.size → p.length ≤ 200 → D.sync.writeE (G % 2) (headSec G p) = 0) :=
  ⟨h.sync.1, fun h2 hl => (h.sync.2.1.write (by omega) (by rw [h.sync.2.2.1]; omega) (headSec_len G p hl)).1⟩

theorem Calm.save {D : Dk} (h : Calm D) {G : Int} {p : Bytes} (h2 : 2 ≤ D.size) (h0 : 0 < G) (hl : p.length ≤ 200) :
    D.saveE G p = 0 ∧ Calm (D.saved G p) ∧ (D.saved G p).size = D.size ∧ (D.saved G p).all = D.all ++ [(G % 2, headSec G p)] ∧ (D.saved G p).lasts = D.all.length + 1 := by
  obtain ⟨s1, s2, s3, s4, s5⟩ := h.sync
  obtain ⟨w1, w2, w3, w4, w5⟩ := s2.write (n := G % 2) (l := headSec G p) (by omega) (by rw [s3]; omega) (headSec_len G p hl)
  obtain ⟨z1, z2, z3, z4, z5⟩ := w2.sync
  have hb : ¬ (D.size < 2 ∨ G = 0) := by omega
  have hlg : ¬ 200 < p.length := by omega
  have hz : (D.saveW G p).syncE = 0 := z1
  have hS : D.saved G p = (D.sync.write (G % 2) (headSec G p)).sync := by
    simp only [Dk.saved, if_neg hb, if_neg hlg, s1, w1]; rfl
  refine ⟨by simp only [Dk.saveE, if_neg hb, if_neg hlg, s1, w1, hz]; rfl, ?_, ?_, ?_, ?_⟩ <;> rw [hS]
  · exact z2
  · rw [z3, w3, s3]
  · rw [z4, w4, s4]
  · rw [z5, w4, s4]; simp

/-- the two heads that a disk bears -/
theorem Calm.open {D : Dk} (h : Calm D) (h2 : 2 ≤ D.size) {a b : Int × Bytes} (ha : headOf (D.sec 0) = a) (hb : headOf (D.sec 1) = b) :
    D.openE = 0 ∧ D.openH = if a.1 < b.1 then b else a := by
  have hz : ¬ D.size < 2 := by omega
  subst ha; subst hb
  exact ⟨by simp only [Dk.openE, if_neg hz, h.down]; rfl, by simp only [Dk.openH, if_neg hz, h.down]; rfl⟩

end Go.Proofs.Ytkpoladbabhdmaa
