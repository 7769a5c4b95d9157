/- Same of two heads; a Save whatever burns, plain. Conditions: as each says. -/
import Derived.Test.YtkpoladbabhdmaaMeta12
namespace Go.Proofs.Ytkpoladbabhdmaa
open Go.RowKit

set_option maxRecDepth 100000 in
set_option maxHeartbeats 1000000 in
theorem same8_any {w : World} {g g' : Int} {v v' : Value} {l l' : Bytes} (h : BytesV w v l) (h' : BytesV w v' l') :
    Calls Try.prog 39 #[.agg #[.int .u64 g, v], .agg #[.int .u64 g', v']] w (Returns (.bool (decide ((g, l) = (g', l')))) (Upd [] w)) := by
  obtain ⟨a, c, rfl, _, _⟩ := h.shape
  obtain ⟨a', c', rfl, _, _⟩ := h'.shape
  have hU := ((Upd.refl [] w).alloc (.cells #[.int .u64 g, .slice a l.length c] 68)).alloc (.cells #[.int .u64 g', .slice a' l'.length c'] 68)
  have HH := Lib.hid (h.upd hU (by simp))
  have HH' := Lib.hid (h'.upd hU (by simp))
  have HU := Lib.hid hU
  clear h h' hU
  by_cases hg : g = g'
  · subst hg
    have hd : decide ((g, l) = (g, l')) = decide (l = l') := by simp
    have HD := Lib.hid hd
    clear hd
    go_enter Try.func39, Try.ntmps39
    go_wp2_with (fail)
    refine (same_any HH.out HH'.out).mono ?_
    rintro e w' ⟨rfl, hu⟩
    have HF := Lib.hid (HU.out.trans hu (by simp))
    clear hu
    go_wp2_with (fail)
    go_ret
    exact ⟨by rw [HD.out]; rfl, HF.out⟩
  · have hne : (g == g') = false := by simpa using hg
    have hd : decide ((g, l) = (g', l')) = false := by simp [hg]
    have HD := Lib.hid hd
    clear hd hg
    go_enter Try.func39, Try.ntmps39
    go_wp2_with (fail)
    go_ret
    exact ⟨by rw [HD.out]; rfl, HU.out⟩

/-- what a Save that is asked rightly of a disk that is up and synced leaves -/
theorem Dk.save_or {D : Dk} (hd : D.down = false) (h2 : 2 ≤ D.size) {G : Int} (h0 : 0 < G) {p : Bytes} (hl : p.length ≤ 200) :
    (D.saved G p).size = D.size ∧
    ((D.saveE G p = 0 ∧ (D.saved G p).down = false ∧ (D.saved G p).all = D.all ++ [(G % 2, headSec G p)] ∧ (D.saved G p).lasts = D.all.length + 1) ∨
     (D.saveE G p = 7 ∧ (((D.saved G p).all = D.all ∧ ((D.saved G p).lasts = D.lasts ∨ (D.saved G p).lasts = D.all.length)) ∨ ((D.saved G p).all = D.all ++ [(G % 2, headSec G p)] ∧ (D.saved G p).lasts = D.all.length)))) := by
  have hb : ¬ (D.size < 2 ∨ G = 0) := by omega
  have hlg : ¬ 200 < p.length := by omega
  by_cases e1 : D.syncE = 0
  · have u1 := Dk.sync_up e1
    have hS : D.sync = D.synced := by
      unfold Dk.syncE at e1
      unfold Dk.sync
      rw [if_neg (by simp [hd])] at e1 ⊢
      split at e1
      · rename_i hbu; rw [if_pos hbu]
      · cases e1
    have ha1 : D.sync.all = D.all := by rw [hS]; exact D.burnt_all
    have hl1 : D.sync.lasts = D.all.length := by rw [hS]; rfl
    have ho : D.sync.okArg (G % 2) (headSec G p) = true := by
      simp only [Dk.okArg, u1.2, headSec_len G p hl]; simp; omega
    by_cases e2 : D.sync.writeE (G % 2) (headSec G p) = 0
    · have hbw : D.sync.burns = true := by
        unfold Dk.writeE at e2
        rw [if_neg (by simp [u1.1]), if_pos ho] at e2
        split at e2
        · assumption
        · cases e2
      have hW : D.saveW G p = D.sync.wrote (G % 2) (headSec G p) := by
        simp only [Dk.saveW, Dk.write, u1.1, ho, hbw]; rfl
      have ha2 : (D.saveW G p).all = D.all ++ [(G % 2, headSec G p)] := by rw [hW]; simp only [Dk.wrote, ha1]
      have hl2 : (D.saveW G p).lasts = D.all.length := by rw [hW]; simp only [Dk.wrote, Dk.burnt_lasts, hl1]
      have hd2 : (D.saveW G p).down = false := by rw [hW]; exact Dk.burnt_down hbw u1.1
      have hz2 : (D.saveW G p).size = D.size := by rw [hW]; simp only [Dk.wrote, Dk.burnt_size, u1.2]
      by_cases e3 : (D.saveW G p).syncE = 0
      · have hbs : (D.saveW G p).burns = true := by
          unfold Dk.syncE at e3
          rw [if_neg (by simp [hd2])] at e3
          split at e3
          · assumption
          · cases e3
        have hs3 : (D.saveW G p).sync = (D.saveW G p).synced := by simp only [Dk.sync, hd2, hbs]; rfl
        have hF : D.saved G p = (D.saveW G p).synced := by
          simp only [Dk.saved, if_neg hb, if_neg hlg, e1, e2, hs3]; rfl
        refine ⟨by rw [hF]; simp only [Dk.synced, Dk.burnt_size, hz2], .inl ⟨by simp only [Dk.saveE, if_neg hb, if_neg hlg, e1, e2, e3]; rfl, by rw [hF]; exact Dk.burnt_down hbs hd2, by rw [hF]; simp only [Dk.synced, Dk.burnt_all, ha2], ?_⟩⟩
        rw [hF]; simp only [Dk.synced, ha2]; simp
      · have e3' : (D.saveW G p).syncE = 7 := by rcases (D.saveW G p).syncE_or with h | h; exact absurd h e3; exact h
        have hbs : (D.saveW G p).burns = false := by
          unfold Dk.syncE at e3
          rw [if_neg (by simp [hd2])] at e3
          split at e3
          · exact absurd rfl e3
          · rename_i h; simpa using h
        have hs3 : (D.saveW G p).sync = (D.saveW G p).burnt := by simp only [Dk.sync, hd2, hbs]; rfl
        have hF : D.saved G p = (D.saveW G p).burnt := by
          simp only [Dk.saved, if_neg hb, if_neg hlg, e1, e2, hs3]; rfl
        refine ⟨by rw [hF, Dk.burnt_size, hz2], .inr ⟨by simp only [Dk.saveE, if_neg hb, if_neg hlg, e1, e2, e3']; rfl, .inr ⟨by rw [hF, Dk.burnt_all, ha2], by rw [hF, Dk.burnt_lasts, hl2]⟩⟩⟩
    · have e2' : D.sync.writeE (G % 2) (headSec G p) = 7 := by
        rcases Dk.writeE_or (n := G % 2) (l := headSec G p) u1.1 (by omega) (by rw [u1.2]; omega) (headSec_len G p hl) with h | h
        · exact absurd h e2
        · exact h
      have hbw : D.sync.burns = false := by
        unfold Dk.writeE at e2
        rw [if_neg (by simp [u1.1]), if_pos ho] at e2
        split at e2
        · exact absurd rfl e2
        · rename_i h; simpa using h
      have hW : D.saveW G p = D.sync.burnt := by
        simp only [Dk.saveW, Dk.write, u1.1, ho, hbw]; rfl
      have hF : D.saved G p = D.sync.burnt := by
        simp only [Dk.saved, if_neg hb, if_neg hlg, e1, e2', hW]; rfl
      refine ⟨by rw [hF, Dk.burnt_size, u1.2], .inr ⟨by simp only [Dk.saveE, if_neg hb, if_neg hlg, e1, e2']; rfl, .inl ⟨by rw [hF, Dk.burnt_all, ha1], .inr (by rw [hF, Dk.burnt_lasts, hl1])⟩⟩⟩
  · have e1' : D.syncE = 7 := by rcases D.syncE_or with h | h; exact absurd h e1; exact h
    have hbu : D.burns = false := by
      unfold Dk.syncE at e1
      rw [if_neg (by simp [hd])] at e1
      split at e1
      · exact absurd rfl e1
      · rename_i h; simpa using h
    have hS : D.sync = D.burnt := by simp only [Dk.sync, hd, hbu]; rfl
    have hF : D.saved G p = D.burnt := by
      simp only [Dk.saved, if_neg hb, if_neg hlg, e1', hS]; rfl
    refine ⟨by rw [hF, Dk.burnt_size], .inr ⟨by simp only [Dk.saveE, if_neg hb, if_neg hlg, e1']; rfl, .inl ⟨by rw [hF, Dk.burnt_all], .inl (by rw [hF, Dk.burnt_lasts])⟩⟩⟩

end Go.Proofs.Ytkpoladbabhdmaa
