/- PagesLost, plain: what is lost is lost to a disk that is down. Conditions: none. -/
import Derived.Test.YtkpoladbabhdmaaPg12
import Derived.Test.YtkpoladbabhdmaaPg9
namespace Go.Proofs.Ytkpoladbabhdmaa
open Go.RowKit

theorem Dk.write_fail {D : Dk} {n : Int} {l : Bytes} (h0 : 0 ≤ n) (h1 : n < D.size) (hl : l.length = 256) (hE : D.writeE n l ≠ 0) : (D.write n l).down = true := by
  unfold Dk.writeE at hE
  unfold Dk.write
  cases hd : D.down with
  | true => simp [hd]
  | false =>
    have ho : D.okArg n l = true := by simp [Dk.okArg, hl, h0, h1]
    have hb : D.fuse = 0 := by
      by_cases hf : D.fuse = 0
      · exact hf
      · exfalso; apply hE; simp [hd, ho, Dk.burns, hf]
    simp [ho, Dk.burns, hb, Dk.burnt]

/-- where a page's write fails the disk is down -/
theorem pwr_fail {b : Bytes} (hb : b.length = 1024) : ∀ (r i : Nat) (D : Dk) (base : Int), r + i = 4 → 0 ≤ base → base + 4 ≤ D.size → (pwr base b r i D).2 = false → (pwr base b r i D).1.down = true
  | 0, _, _, _, _, _, _, h => by simp [pwr] at h
  | r + 1, i, D, base, hri, h0, h1, h => by
    unfold pwr at h ⊢
    split at h
    · rename_i hE
      rw [if_pos hE]
      refine pwr_fail hb r (i + 1) _ base (by omega) h0 ?_ h
      have hs : (D.write (base + (i : Int)) (psec b i)).size = D.size := by
        have := (pwr_size base b 1 i D).1
        unfold pwr at this
        rw [if_pos hE] at this
        exact this
      rw [hs]; exact h1
    · rename_i hE
      rw [if_neg hE]
      exact Dk.write_fail (by omega) (by omega) (psec_len hb (by omega)) hE

/-- all is well, or the disk is down -/
structure LostI (C : PC) (S : PS) : Prop where
  pw : PW C S
  size : S.D.size = 40
  len : S.is.length = 10
  from_ : C.from_ = 0
  down : S.over = true → S.D.down = true

theorem LostI.put {C : PC} {S : PS} (h : LostI C S) (hov : S.over = false) {f : Fr} (hf : f.n < 10) (hb : f.b.length = 1024) :
    LostI C (S.put C f).1 ∧ ((S.put C f).1.over = !(S.put C f).2) := by
  have hw := h.pw.put (f := f) (by rw [h.len]; exact hf) hb
  obtain ⟨-, q2, q3⟩ := PS.put_len C S f
  have hbase : ∀ g ∈ (S.drop (f.n : Int)).fs, 0 ≤ C.base g.n ∧ C.base g.n + 4 ≤ S.D.size := by
    intro g hg
    have := (h.pw.drop (f.n : Int)).inis g hg
    have hl := h.len
    have hs := h.size
    have h0 := h.from_
    unfold PC.base
    have : g.n < S.is.length := this
    omega
  have hd1 := h.pw.drop (f.n : Int)
  have hover : (S.put C f).1.over = !(S.put C f).2 := by
    unfold PS.put
    simp only
    split
    · split
      · split
        · exact hov
        · rfl
      · exact hov
    · exact hov
  refine ⟨⟨hw, by rw [q2]; exact h.size, by rw [q3]; exact h.len, h.from_, fun ho => ?_⟩, hover⟩
  unfold PS.put at ho ⊢
  simp only at ho ⊢
  split
  · rename_i hp
    rw [if_pos hp] at ho
    split
    · rename_i hdy
      rw [if_pos hdy] at ho
      split
      · rename_i hok
        rw [if_pos hok] at ho
        exact absurd (hov.symm.trans ho) (by simp)
      · rename_i hok
        have hpos : 0 < (S.drop (f.n : Int)).fs.length := by have := h.pw.pool; omega
        have hm := List.mem_of_getElem? (flast_at hpos)
        exact pwr_fail (hd1.blen _ hm) 4 0 _ _ rfl (hbase _ hm).1 (hbase _ hm).2 (by simpa using hok)
    · rename_i hdy
      rw [if_neg hdy] at ho
      exact absurd (hov.symm.trans ho) (by simp)
  · rename_i hp
    rw [if_neg hp] at ho
    exact absurd (hov.symm.trans ho) (by simp)

theorem LostI.same {C : PC} {S : PS} (h : LostI C S) {is : List Int} (hl : is.length = S.is.length) : LostI C { S with is := is } :=
  ⟨⟨h.pw.nodup, fun f hf => by rw [hl]; exact h.pw.inis f hf, h.pw.blen, by rw [hl]; exact h.pw.fits, h.pw.size, h.pw.pool, h.pw.full, h.pw.few⟩, h.size, by rw [hl]; exact h.len, h.from_, h.down⟩
theorem LostI.drop {C : PC} {S : PS} (h : LostI C S) (k : Int) : LostI C { S with fs := fdrop S.fs k } := ⟨h.pw.drop k, h.size, h.len, h.from_, h.down⟩

theorem LostI.alloc {C : PC} {S S' : PS} {n en : Int} (h : LostI C S) (hr : AllocR C S S' n en) : LostI C S' ∧ S'.over = decide (en = 7) := by
  rcases hr with ⟨ho, rfl, _, rfl⟩ | ⟨ho, _, rfl, _, rfl⟩ | ⟨ho, k, f, hk, _, hn, hb, _, hp⟩
  · exact ⟨h, by rw [ho]; rfl⟩
  · exact ⟨h, by rw [ho]; rfl⟩
  · have hkl := (List.getElem?_eq_some_iff.1 hk).1
    obtain ⟨h1, h2⟩ := h.put ho (f := f) (by rw [hn, ← h.len]; exact hkl) (by rw [hb]; exact z1k_len)
    rcases hp with ⟨hok, rfl, _, rfl⟩ | ⟨hok, rfl, _, rfl⟩
    · exact ⟨h1, by rw [h2, hok]; rfl⟩
    · refine ⟨h1.same (List.length_set ..), ?_⟩
      show (S.put C f).1.over = _
      rw [h2, hok]; rfl

theorem LostI.puts {C : PC} {S S' : PS} {n en : Int} {b : Bytes} (hb : b.length = 1024) (h : LostI C S) (hr : PutR C S S' n b en) : LostI C S' ∧ S'.over = decide (en = 7) := by
  rcases hr with ⟨ho, rfl, rfl⟩ | ⟨ho, _, rfl, rfl⟩ | ⟨ho, k, f, _, hk, hn, hfb, _, rfl, rfl⟩
  · exact ⟨h, by rw [ho]; rfl⟩
  · exact ⟨h, by rw [ho]; rfl⟩
  · have hkl := (List.getElem?_eq_some_iff.1 hk).1
    obtain ⟨h1, h2⟩ := h.put ho (f := f) (by rw [hn, ← h.len]; exact hkl) (by rw [hfb]; exact hb)
    refine ⟨h1, ?_⟩
    rw [h2]
    cases (S.put C f).2 <;> rfl

theorem LostI.frees {C : PC} {S S' : PS} {n en : Int} (h : LostI C S) (hr : FreeR S S' n en) : LostI C S' ∧ S'.over = decide (en = 7) := by
  rcases hr with ⟨ho, rfl, rfl⟩ | ⟨ho, _, _, rfl, rfl⟩ | ⟨ho, k, _, hk, rfl⟩
  · exact ⟨h, by rw [ho]; rfl⟩
  · exact ⟨h, by rw [ho]; rfl⟩
  · rcases hk with ⟨_, rfl⟩ | ⟨_, rfl⟩
    · exact ⟨(h.same (is := S.is.set k 0) (List.length_set ..)).drop n, by show S.over = _; rw [ho]; rfl⟩
    · exact ⟨(h.same (is := S.is.set k 3) (List.length_set ..)).drop n, by show S.over = _; rw [ho]; rfl⟩

theorem LostI.a0 {C : PC} {S : PS} (h : LostI C S) (x : Int) : LostI C { S with D := { S.D with a0 := x } } :=
  ⟨⟨h.pw.nodup, h.pw.inis, h.pw.blen, h.pw.fits, h.pw.size, h.pw.pool, h.pw.full, h.pw.few⟩, h.size, h.len, h.from_, h.down⟩

theorem LostI.gets {C : PC} {S S' : PS} {n en : Int} {b : Bytes} (hwf : S.D.Wf) (h : LostI C S) (hr : GetR C S S' n b en) : LostI C S' ∧ S'.over = decide (en = 7) := by
  rcases hr with ⟨ho, rfl, _, rfl⟩ | ⟨ho, _, _, rfl, _, rfl⟩ | ⟨ho, _, k, rfl, hkl, hc⟩
  · exact ⟨h, by rw [ho]; rfl⟩
  · exact ⟨h, by rw [ho]; rfl⟩
  · rcases hc with ⟨j, f, hj, hn, rfl, _, rfl⟩ | ⟨_, hd, rfl, _, rfl⟩ | ⟨_, _, x, f, hn, hb, _, rfl, hp⟩
    · have hm := List.mem_of_getElem? hj
      have h1 := put_again h.pw hj
      rw [hn] at h1
      obtain ⟨h2, _⟩ := LostI.put (S := S.drop (k : Int)) (h.drop (k : Int)) ho (f := f) (by rw [hn, ← h.len]; exact hkl) (h.pw.blen f hm)
      rw [h1] at h2
      exact ⟨h2, by show S.over = _; rw [ho]; rfl⟩
    · exact ⟨⟨⟨h.pw.nodup, h.pw.inis, h.pw.blen, h.pw.fits, h.pw.size, h.pw.pool, h.pw.full, h.pw.few⟩, h.size, h.len, h.from_, fun _ => hd⟩, rfl⟩
    · obtain ⟨h1, h2⟩ := (h.a0 x).put ho (f := f) (by rw [hn, ← h.len]; exact hkl) (by rw [hb, pgather_len hwf])
      refine ⟨h1, ?_⟩
      rw [h2]
      rcases hp with ⟨hok, _, rfl⟩ | ⟨hok, _, rfl⟩ <;> rw [hok] <;> rfl

theorem LostI.flushed {C : PC} : ∀ (r i : Nat) (S : PS), LostI C S → S.over = false → LostI C (flush C r i S).1 ∧ (flush C r i S).1.over = !(flush C r i S).2
  | 0, _, S, h, ho => ⟨h, ho⟩
  | r + 1, i, S, h, ho => by
    unfold flush
    cases hf : S.fs[i]? with
    | none => exact ⟨h, ho⟩
    | some f =>
      simp only
      have hm := List.mem_of_getElem? hf
      have hin := h.pw.inis f hm
      have hl := h.len
      have hs := h.size
      have h0 := h.from_
      have hsz := (pwr_size (C.base f.n) f.b 4 0 S.D).1
      split
      · split
        · refine LostI.flushed r (i + 1) _ ⟨h.pw.wrote (g := { f with dirty := false }) hf rfl rfl hsz _, by show (pwr _ _ 4 0 S.D).1.size = 40; rw [hsz]; exact hs, hl, h0, fun h' => absurd (ho.symm.trans h') (by simp)⟩ ho
        · rename_i hok
          refine ⟨⟨⟨h.pw.nodup, h.pw.inis, h.pw.blen, by show _ ≤ (pwr _ _ 4 0 S.D).1.size; rw [hsz]; exact h.pw.fits, by show (pwr _ _ 4 0 S.D).1.size ≤ _; rw [hsz]; exact h.pw.size, h.pw.pool, h.pw.full, h.pw.few⟩, by show (pwr _ _ 4 0 S.D).1.size = 40; rw [hsz]; exact hs, hl, h0, fun _ => ?_⟩, rfl⟩
          exact pwr_fail (h.pw.blen f hm) 4 0 _ _ rfl (by unfold PC.base; omega) (by unfold PC.base; omega) (by simpa using hok)
      · exact LostI.flushed r (i + 1) S h ho

theorem LostI.flushes {C : PC} {S : PS} (h : LostI C S) : LostI C (S.flush C).1 ∧ (S.flush C).1.over = decide ((S.flush C).2 = 7) := by
  unfold PS.flush
  cases ho : S.over with
  | true => exact ⟨h, by simp [ho]⟩
  | false =>
    obtain ⟨h1, h2⟩ := LostI.flushed S.fs.length 0 S h ho
    refine ⟨h1, ?_⟩
    simp only [Bool.false_eq_true, if_false]
    rw [h2]
    cases (flush C S.fs.length 0 S).2 <;> rfl

end Go.Proofs.Ytkpoladbabhdmaa
