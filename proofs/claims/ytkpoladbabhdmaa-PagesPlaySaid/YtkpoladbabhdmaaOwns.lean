/- Several things in memory that share no block that may turn. Conditions: none. -/
import Derived.Test.YtkpoladbabhdmaaDisk3
namespace Go.Proofs.Ytkpoladbabhdmaa
open Go.RowKit

/-- something in memory that has the blocks F for its own; none of them is one of bytes -/
structure Thing where
  is : World → List Nat → Prop
  lt : ∀ w F, is w F → ∀ k ∈ F, k < w.heap.size
  nob : ∀ w F, is w F → ∀ k ∈ F, ∀ (c : Array Value) (fz : Nat × Nat), w.heap[k]? ≠ some (.cells c 5 fz)
  upd : ∀ w w' F S, is w F → Upd S w w' → (∀ k ∈ F, k ∉ S) → is w' F

def disk (b : Nat) (D : Dk) : Thing := ⟨fun w F => DiskAt w b D F, fun _ _ h => h.lt, fun _ _ h => h.nobyte, fun _ _ _ _ h hu hd => h.upd hu hd⟩

/-- T is what the thing with the blocks F has become -/
def Turned (w : World) (T : Thing) (F : List Nat) (w' : World) : Prop := ∃ F', T.is w' F' ∧ Upd F w w' ∧ ∀ k ∈ F', k ∈ F ∨ w.heap.size ≤ k

theorem TurnsTo.turned {w w' : World} {b : Nat} {D' : Dk} {F : List Nat} (h : TurnsTo w b D' F w') : Turned w (disk b D') F w' := h

/-- T is new -/
def Fresh (w : World) (T : Thing) (w' : World) : Prop := ∃ F', T.is w' F' ∧ Upd [] w w' ∧ ∀ k ∈ F', w.heap.size ≤ k

def Owns (w0 : World) (l : List Thing) (w : World) : Prop :=
  Upd [] w0 w ∧ ∃ Fs : List (List Nat), Fs.length = l.length ∧ (∀ (i : Nat) (T : Thing) (F : List Nat), l[i]? = some T → Fs[i]? = some F → T.is w F) ∧
    (∀ F ∈ Fs, ∀ k ∈ F, w0.heap.size ≤ k) ∧ ∀ (i j : Nat) (F G : List Nat), i ≠ j → Fs[i]? = some F → Fs[j]? = some G → ∀ k ∈ F, k ∉ G

theorem Owns.none (w : World) : Owns w [] w := ⟨Upd.refl _ _, [], rfl, by simp, by simp, by simp⟩

theorem Owns.upd {w0 w w' : World} {l : List Thing} (h : Owns w0 l w) (hu : Upd [] w w') : Owns w0 l w' := by
  obtain ⟨h0, Fs, h1, h2, h3, h4⟩ := h
  exact ⟨h0.trans hu (by simp), Fs, h1, fun i T F hi hF => T.upd _ _ _ _ (h2 i T F hi hF) hu (by simp), h3, h4⟩

theorem Owns.mine {w0 w : World} {l : List Thing} (h : Owns w0 l w) : Upd [] w0 w := h.1

theorem Owns.below {w0 w : World} {l : List Thing} (h : Owns w0 l w) : Below w0.heap.size w0 w := h.1.below (Nat.le_refl _) (by simp)

/-- one of them, and what becomes of all if it turns -/
theorem Owns.at_ {w0 w : World} {l : List Thing} (h : Owns w0 l w) (i : Nat) {T : Thing} (hi : l[i]? = some T) :
    ∃ F, T.is w F ∧ (∀ k ∈ F, w0.heap.size ≤ k) ∧ ∀ w' T', Turned w T' F w' → Owns w0 (l.set i T') w' := by
  obtain ⟨h0, Fs, h1, h2, h3, h4⟩ := h
  obtain ⟨hil, hie⟩ := List.getElem?_eq_some_iff.1 hi
  have hFi : Fs[i]? = some (Fs[i]'(by omega)) := List.getElem?_eq_getElem (by omega)
  generalize Fs[i]'(by omega) = F at hFi
  refine ⟨F, h2 i T F hi hFi, h3 F (List.mem_of_getElem? hFi), fun w' T' ⟨F', g1, g2, g3⟩ => ?_⟩
  have hF0 : ∀ k ∈ F, w0.heap.size ≤ k := h3 F (List.mem_of_getElem? hFi)
  refine ⟨h0.trans g2 (fun x hx => .inr (hF0 x hx)), Fs.set i F', by simp [h1], fun j U G hj hG => ?_, fun G hG k hk => ?_, fun a b A B hab hA hB k hk => ?_⟩
  · rw [List.getElem?_set] at hj hG
    split at hj
    · rename_i hij
      subst hij
      rw [if_pos rfl] at hG
      have hj' : T' = U := by simpa using hj
      subst hj'
      split at hG
      · cases hG; exact g1
      · cases hG
    · rename_i hij
      rw [if_neg hij] at hG
      exact U.upd _ _ _ _ (h2 j U G hj hG) g2 (h4 j i G F (Ne.symm hij) hG hFi)
  · rcases List.mem_or_eq_of_mem_set hG with hG | rfl
    · exact h3 G hG k hk
    · rcases g3 k hk with hk | hk
      · exact hF0 k hk
      · exact Nat.le_trans h0.size hk
  · have hltw : ∀ (j : Nat) (U : Thing) (G : List Nat), l[j]? = some U → Fs[j]? = some G → ∀ k ∈ G, k < w.heap.size := fun j U G hj hG => U.lt _ _ (h2 j U G hj hG)
    rw [List.getElem?_set] at hA hB
    split at hA
    · rename_i hia
      subst hia
      rw [if_neg hab] at hB
      split at hA
      · cases hA
        intro hkB
        rcases g3 k hk with hkF | hkw
        · exact h4 i b F B hab hFi hB k hkF hkB
        · obtain ⟨hbl, _⟩ := List.getElem?_eq_some_iff.1 hB
          have := hltw b _ B (List.getElem?_eq_getElem (by omega)) hB k hkB
          omega
      · cases hA
    · rename_i hia
      split at hB
      · rename_i hib
        subst hib
        split at hB
        · cases hB
          intro hkB
          rcases g3 k hkB with hkF | hkw
          · exact h4 a i A F hab hA hFi k hk hkF
          · obtain ⟨hal, _⟩ := List.getElem?_eq_some_iff.1 hA
            have := hltw a _ A (List.getElem?_eq_getElem (by omega)) hA k hk
            omega
        · cases hB
      · exact h4 a b A B hab hA hB k hk

theorem Owns.add {w0 w w' : World} {l : List Thing} (h : Owns w0 l w) {T : Thing} (hT : Fresh w T w') : Owns w0 (T :: l) w' := by
  obtain ⟨F', g1, g2, g3⟩ := hT
  obtain ⟨h0, Fs, h1, h2, h3, h4⟩ := h
  have hltw : ∀ (j : Nat) (G : List Nat), Fs[j]? = some G → ∀ k ∈ G, k < w.heap.size := by
    intro j G hG
    obtain ⟨hjl, _⟩ := List.getElem?_eq_some_iff.1 hG
    obtain ⟨U, hU⟩ : ∃ U, l[j]? = some U := ⟨_, List.getElem?_eq_getElem (by omega)⟩
    exact U.lt _ _ (h2 j U G hU hG)
  refine ⟨h0.trans g2 (by simp), F' :: Fs, by simp [h1], fun i U G hi hG => ?_, fun G hG k hk => ?_, fun a b A B hab hA hB k hk => ?_⟩
  · cases i with
    | zero => simp at hi hG; subst hi; subst hG; exact g1
    | succ i => simp at hi hG; exact U.upd _ _ _ _ (h2 i U G hi hG) g2 (by simp)
  · rcases List.mem_cons.1 hG with rfl | hG
    · exact Nat.le_trans h0.size (g3 k hk)
    · exact h3 G hG k hk
  · cases a with
    | zero =>
      cases b with
      | zero => exact absurd rfl hab
      | succ b =>
        simp at hA hB
        subst hA
        intro hkB
        have := hltw b B hB k hkB
        have := g3 k hk
        omega
    | succ a =>
      cases b with
      | zero =>
        simp at hA hB
        subst hB
        intro hkB
        have := hltw a A hA k hk
        have := g3 k hkB
        omega
      | succ b =>
        simp at hA hB
        exact h4 a b A B (by omega) hA hB k hk

/-- some of them, in another order -/
theorem Owns.pick {w0 w : World} {l l' : List Thing} (h : Owns w0 l w) (f : Nat → Nat) (hf : ∀ i T, l'[i]? = some T → l[f i]? = some T) (hinj : ∀ i j, i < l'.length → j < l'.length → f i = f j → i = j) : Owns w0 l' w := by
  obtain ⟨h0, Fs, h1, h2, h3, h4⟩ := h
  have hFs : ∀ i, i < l'.length → f i < Fs.length := by
    intro i hi
    have := hf i _ (List.getElem?_eq_getElem hi)
    obtain ⟨hl, _⟩ := List.getElem?_eq_some_iff.1 this
    omega
  refine ⟨h0, (List.range l'.length).map fun i => Fs.getD (f i) [], by simp, fun i T F hi hF => ?_, fun F hF k hk => ?_, fun a b A B hab hA hB k hk => ?_⟩
  · obtain ⟨hil, _⟩ := List.getElem?_eq_some_iff.1 hi
    simp only [List.getElem?_map, List.getElem?_range hil, Option.map_some, Option.some.injEq] at hF
    refine h2 (f i) T F (hf i T hi) ?_
    rw [← hF, List.getD_eq_getElem?_getD, List.getElem?_eq_getElem (hFs i hil)]
    rfl
  · obtain ⟨i, hi, rfl⟩ := List.mem_map.1 hF
    have hil := List.mem_range.1 hi
    rw [List.getD_eq_getElem?_getD, List.getElem?_eq_getElem (hFs i hil)] at hk
    exact h3 _ (List.getElem_mem _) k hk
  · have hal : a < l'.length := by obtain ⟨h, _⟩ := List.getElem?_eq_some_iff.1 hA; simpa using h
    have hbl : b < l'.length := by obtain ⟨h, _⟩ := List.getElem?_eq_some_iff.1 hB; simpa using h
    simp only [List.getElem?_map, List.getElem?_range hal, List.getElem?_range hbl, Option.map_some, Option.some.injEq] at hA hB
    refine h4 (f a) (f b) A B (fun he => hab (hinj a b hal hbl he)) ?_ ?_ k hk
    · rw [← hA, List.getD_eq_getElem?_getD, List.getElem?_eq_getElem (hFs a hal)]; rfl
    · rw [← hB, List.getD_eq_getElem?_getD, List.getElem?_eq_getElem (hFs b hbl)]; rfl

/-- bytes of our own lie in no block of a thing -/
theorem BytesO.sep {w : World} {v : Value} {l : Bytes} (h : BytesO w v l) {T : Thing} {F : List Nat} (hT : T.is w F) : ∀ g, v.ownBlock = some g → g ∉ F := by
  intro g hg hm
  rcases h.2 with ⟨rfl, _⟩ | ⟨g', cap, cur, rfl, _, hgg, _⟩
  · cases hg
  · cases hg; exact T.nob _ _ hT _ hm _ _ hgg

end Go.Proofs.Ytkpoladbabhdmaa
