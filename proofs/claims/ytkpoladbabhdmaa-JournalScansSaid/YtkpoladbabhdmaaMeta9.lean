/- A new disk that bears one head, plain. Conditions: as each says. -/
import Derived.Test.YtkpoladbabhdmaaMeta8
namespace Go.Proofs.Ytkpoladbabhdmaa
open Go.RowKit

/-- one Save onto a new disk -/
theorem Dk.saved_new {n G : Int} {p : Bytes} (h2 : 2 ≤ (Dk.new n).size) (h0 : 0 < G) (hl : p.length ≤ 200) :
    (Dk.new n).saveE G p = 0 ∧ ((Dk.new n).saved G p).all = [(G % 2, headSec G p)] ∧ ((Dk.new n).saved G p).down = false ∧ ((Dk.new n).saved G p).size = (Dk.new n).size ∧ ((Dk.new n).saved G p).fuse = -1 := by
  obtain ⟨e1, e2⟩ := Dk.new_ok (n := n) (G := G) (p := p)
  have e2 := e2 h2 hl
  have hb : ¬ ((Dk.new n).size < 2 ∨ G = 0) := by omega
  have hlg : ¬ 200 < p.length := by omega
  have hd : (Dk.new n).sync.down = false := rfl
  have hf : (Dk.new n).sync.fuse = -1 := rfl
  have hs : (Dk.new n).sync.size = (Dk.new n).size := rfl
  have ha : (Dk.new n).sync.all = [] := rfl
  have hbu : (Dk.new n).sync.burns = true := by simp [Dk.burns, hf]
  have ho : (Dk.new n).sync.okArg (G % 2) (headSec G p) = true := by
    simp only [Dk.okArg, hs, headSec_len G p hl]
    simp; omega
  have hw : (Dk.new n).saveW G p = (Dk.new n).sync.wrote (G % 2) (headSec G p) := by
    simp only [Dk.saveW, Dk.write, hd, ho, hbu, Bool.false_eq_true, if_false, if_true]
  have hbt : (Dk.new n).sync.burnt = (Dk.new n).sync := by
    unfold Dk.burnt
    rw [if_neg (by rw [hf]; omega), if_neg (by rw [hf]; omega)]
  have w1 : ((Dk.new n).saveW G p).down = false := by rw [hw]; simp only [Dk.wrote, hbt]; exact hd
  have w2 : ((Dk.new n).saveW G p).fuse = -1 := by rw [hw]; simp only [Dk.wrote, hbt]; exact hf
  have w3 : ((Dk.new n).saveW G p).all = [(G % 2, headSec G p)] := by rw [hw]; simp only [Dk.wrote, ha]; rfl
  have w4 : ((Dk.new n).saveW G p).size = (Dk.new n).size := by rw [hw]; simp only [Dk.wrote, hbt]; exact hs
  have wb : ((Dk.new n).saveW G p).burns = true := by simp [Dk.burns, w2]
  have wbt : ((Dk.new n).saveW G p).burnt = (Dk.new n).saveW G p := by
    unfold Dk.burnt
    rw [if_neg (by rw [w2]; omega), if_neg (by rw [w2]; omega)]
  have we : ((Dk.new n).saveW G p).syncE = 0 := by simp [Dk.syncE, w1, wb]
  have ws : ((Dk.new n).saveW G p).sync = ((Dk.new n).saveW G p).synced := by simp [Dk.sync, w1, wb]
  have hE : (Dk.new n).saveE G p = 0 := by
    simp only [Dk.saveE, if_neg hb, if_neg hlg, e1, e2, we]; simp
  have hS : (Dk.new n).saved G p = ((Dk.new n).saveW G p).synced := by
    simp only [Dk.saved, if_neg hb, if_neg hlg, e1, e2]; simpa using ws
  refine ⟨hE, ?_, ?_, ?_, ?_⟩
  · rw [hS]; simp only [Dk.synced, wbt]; exact w3
  · rw [hS]; simp only [Dk.synced, wbt]; exact w1
  · rw [hS]; simp only [Dk.synced, wbt]; exact w4
  · rw [hS]; simp only [Dk.synced, wbt]; exact w2

theorem last_one (k : Int) (x : Bytes) (n : Int) : last [(k, x)] n = if n = k then some x else none := rfl

theorem Dk.open_saved_new {n G : Int} {p : Bytes} (h2 : 2 ≤ (Dk.new n).size) (h0 : 0 < G) (h1 : G < 18446744073709551616) (hl : p.length ≤ 200) :
    ((Dk.new n).saved G p).openE = 0 ∧ ((Dk.new n).saved G p).openH = (G, p) := by
  obtain ⟨_, ha, hd, hs, _⟩ := Dk.saved_new h2 h0 hl (n := n)
  have hz : ¬ ((Dk.new n).saved G p).size < 2 := by rw [hs]; omega
  have hh := headOf_headSec G p h0 h1 hl
  refine ⟨by simp only [Dk.openE, if_neg hz, hd, Bool.false_eq_true, if_false], ?_⟩
  simp only [Dk.openH, if_neg hz, hd, Bool.false_eq_true, if_false, Dk.sec, ha, last_one]
  by_cases hg : G % 2 = 0
  · have e0 : (0 : Int) = G % 2 := hg.symm
    have e1 : ¬ (1 : Int) = G % 2 := by omega
    rw [if_pos e0, if_neg e1]
    simp only [Option.getD_some, Option.getD_none, hh, headOf_zeros]
    rw [if_neg (by omega)]
  · have e0 : ¬ (0 : Int) = G % 2 := by omega
    have e1 : (1 : Int) = G % 2 := by omega
    rw [if_neg e0, if_pos e1]
    simp only [Option.getD_some, Option.getD_none, hh, headOf_zeros]
    rw [if_pos h0]

end Go.Proofs.Ytkpoladbabhdmaa
