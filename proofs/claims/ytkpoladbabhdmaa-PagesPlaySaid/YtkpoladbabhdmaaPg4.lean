/- The pages' put, plain: what it comes to, and that it leaves pages as they should be. Conditions: none. -/
import Derived.Test.YtkpoladbabhdmaaPg3
namespace Go.Proofs.Ytkpoladbabhdmaa
open Go.RowKit

def fdummy : Fr := ⟨0, 0, .bool false, [], false⟩
def flast (fs : List Fr) : Fr := fs.getLastD fdummy

/-- a frame is put into the pool -/
def PS.put (C : PC) (S : PS) (f : Fr) : PS × Bool :=
  let S1 := S.drop (f.n : Int)
  if C.pool ≤ S1.fs.length then
    if (flast S1.fs).dirty then
      if (pwr (C.base (flast S1.fs).n) (flast S1.fs).b 4 0 S1.D).2 then ({ S1 with D := (pwr (C.base (flast S1.fs).n) (flast S1.fs).b 4 0 S1.D).1, fs := f :: S1.fs.dropLast }, true)
      else ({ S1 with D := (pwr (C.base (flast S1.fs).n) (flast S1.fs).b 4 0 S1.D).1, over := true }, false)
    else ({ S1 with fs := f :: S1.fs.dropLast }, true)
  else ({ S1 with fs := f :: S1.fs }, true)

theorem pwr_size (base : Int) (b : Bytes) : ∀ (r i : Nat) (D : Dk), (pwr base b r i D).1.size = D.size ∧ (pwr base b r i D).1.all.length ≤ D.all.length + r
  | 0, i, D => ⟨rfl, Nat.le_refl _⟩
  | r + 1, i, D => by
    unfold pwr
    have hs : (D.write (base + (i : Int)) (psec b i)).size = D.size := by
      unfold Dk.write
      split
      · rfl
      · split
        · split
          · simp [Dk.wrote, D.burnt_size]
          · exact D.burnt_size
        · rfl
    have hl := Dk.write_len1 D (base + (i : Int)) (psec b i)
    split
    · obtain ⟨h1, h2⟩ := pwr_size base b r (i + 1) (D.write (base + (i : Int)) (psec b i))
      exact ⟨h1.trans hs, by omega⟩
    · exact ⟨hs, by show (D.write (base + (i : Int)) (psec b i)).all.length ≤ _; omega⟩

theorem fdrop_len (fs : List Fr) (k : Int) : (fdrop fs k).length ≤ fs.length := List.length_filter_le _ _
theorem fdrop_nodup {fs : List Fr} (h : FNodup fs) (k : Int) : FNodup (fdrop fs k) := List.Nodup.sublist (List.Sublist.map _ (List.filter_sublist)) h
theorem fdrop_no (fs : List Fr) (k : Int) : ∀ f ∈ fdrop fs k, (f.n : Int) ≠ k := by
  intro f hf
  have := (List.mem_filter.1 hf).2
  simpa using this
theorem fdrop_mem {fs : List Fr} {k : Int} {f : Fr} (h : f ∈ fdrop fs k) : f ∈ fs := (List.mem_filter.1 h).1

theorem PW.drop {C : PC} {S : PS} (h : PW C S) (k : Int) : PW C (S.drop k) :=
  ⟨fdrop_nodup h.nodup k, fun f hf => h.inis f (fdrop_mem hf), fun f hf => h.blen f (fdrop_mem hf), h.fits, h.size, h.pool, Nat.le_trans (fdrop_len _ _) h.full, h.few⟩

theorem dropLast_mem {fs : List Fr} {f : Fr} (h : f ∈ fs.dropLast) : f ∈ fs := List.dropLast_subset _ h

/-- frames of which none has f's number, and f -/
theorem PW.cons {C : PC} {S : PS} (h : PW C S) {f : Fr} (hf : f.n < S.is.length) (hb : f.b.length = 1024) {fs : List Fr} (hs : ∀ g ∈ fs, g ∈ S.fs ∧ (g.n : Int) ≠ (f.n : Int)) (hn : FNodup fs) (hl : fs.length + 1 ≤ C.pool) {D : Dk} (hD : D.size = S.D.size) (ov : Bool) :
    PW C { D := D, is := S.is, fs := f :: fs, over := ov } := by
  refine ⟨?_, fun g hg => ?_, fun g hg => ?_, by rw [hD]; exact h.fits, by rw [hD]; exact h.size, h.pool, hl, h.few⟩
  · unfold FNodup
    rw [List.map_cons, List.nodup_cons]
    refine ⟨fun hm => ?_, hn⟩
    obtain ⟨g, hg, he⟩ := List.mem_map.1 hm
    exact (hs g hg).2 (by omega)
  · rcases List.mem_cons.1 hg with rfl | hg
    · exact hf
    · exact h.inis g (hs g hg).1
  · rcases List.mem_cons.1 hg with rfl | hg
    · exact hb
    · exact h.blen g (hs g hg).1

theorem dropLast_nodup {fs : List Fr} (h : FNodup fs) : FNodup fs.dropLast := List.Nodup.sublist (List.Sublist.map _ (List.dropLast_sublist fs)) h

theorem PW.put {C : PC} {S : PS} (h : PW C S) {f : Fr} (hf : f.n < S.is.length) (hb : f.b.length = 1024) : PW C (S.put C f).1 := by
  have h1 := h.drop (f.n : Int)
  have hno := fdrop_no S.fs (f.n : Int)
  have hfull := h1.full
  have hpool := h.pool
  unfold PS.put
  simp only
  split
  · have hd : PW C { D := (S.drop (f.n : Int)).D, is := S.is, fs := f :: (S.drop (f.n : Int)).fs.dropLast, over := S.over } :=
      h1.cons hf hb (fun g hg => ⟨dropLast_mem hg, hno g (dropLast_mem hg)⟩) (dropLast_nodup h1.nodup) (by rw [List.length_dropLast]; omega) rfl _
    split
    · split
      · exact h1.cons hf hb (fun g hg => ⟨dropLast_mem hg, hno g (dropLast_mem hg)⟩) (dropLast_nodup h1.nodup) (by rw [List.length_dropLast]; omega) (pwr_size _ _ _ _ _).1 _
      · exact ⟨h1.nodup, h1.inis, h1.blen, by rw [(pwr_size _ _ _ _ _).1]; exact h1.fits, by rw [(pwr_size _ _ _ _ _).1]; exact h1.size, h1.pool, h1.full, h1.few⟩
    · exact hd
  · exact h1.cons hf hb (fun g hg => ⟨hg, hno g hg⟩) h1.nodup (by omega) rfl _

theorem PS.put_len (C : PC) (S : PS) (f : Fr) : (S.put C f).1.D.all.length ≤ S.D.all.length + 4 ∧ (S.put C f).1.D.size = S.D.size ∧ (S.put C f).1.is = S.is := by
  unfold PS.put
  simp only
  split
  · split
    · split
      · exact ⟨(pwr_size _ _ _ _ _).2, (pwr_size _ _ _ _ _).1, rfl⟩
      · exact ⟨(pwr_size _ _ _ _ _).2, (pwr_size _ _ _ _ _).1, rfl⟩
    · exact ⟨Nat.le_add_right _ _, rfl, rfl⟩
  · exact ⟨Nat.le_add_right _ _, rfl, rfl⟩

/-! ### lists of things -/
theorem Owns.skip {w0 w : World} {A G B : List Thing} (h : Owns w0 (A ++ (G ++ B)) w) : Owns w0 (A ++ B) w := by
  have h1 : (G ++ B).Perm (B ++ G) := List.perm_append_comm
  have h2 := h.perm h1
  rw [← List.append_assoc] at h2
  exact h2.rest
theorem pth_split (C : PC) (S : PS) (us : Value) (l : List Thing) : pth C S us l = (ph C S us (S.fs.map frameT)) ++ l := by
  simp [pth, ph]
theorem pth_skip {w0 w : World} {C : PC} {S : PS} {us : Value} {G l : List Thing} (h : Owns w0 (pth C S us (G ++ l)) w) : Owns w0 (pth C S us l) w := by
  rw [pth_split] at h ⊢
  exact h.skip

theorem flast_at {fs : List Fr} (h : 0 < fs.length) : fs[fs.length - 1]? = some (flast fs) := by
  unfold flast
  rw [← List.getLast?_eq_getElem?, List.getLastD_eq_getLast?]
  cases hl : fs.getLast? with
  | none => rw [List.getLast?_eq_none_iff] at hl; subst hl; simp at h
  | some x => rfl

end Go.Proofs.Ytkpoladbabhdmaa
