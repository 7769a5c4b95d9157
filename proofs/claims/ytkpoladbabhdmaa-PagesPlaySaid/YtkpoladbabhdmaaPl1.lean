/- PagesPlay, plain: each page that is held or fresh has its bytes, in the pool or on the disk. Conditions: none. -/
import Derived.Test.YtkpoladbabhdmaaPg9
namespace Go.Proofs.Ytkpoladbabhdmaa
open Go.RowKit

/-- a disk that cannot fail -/
structure Calm (D : Dk) : Prop where
  down : D.down = false
  fuse : D.fuse = -1

theorem Calm.burnt {D : Dk} (h : Calm D) : D.burnt = D := by
  unfold Dk.burnt
  rw [h.fuse]
  rfl

theorem Calm.write {D : Dk} (h : Calm D) {n : Int} {l : Bytes} (h0 : 0 ≤ n) (h1 : n < D.size) (hl : l.length = 256) :
    D.writeE n l = 0 ∧ Calm (D.write n l) ∧ (D.write n l).size = D.size ∧ ∀ m, (D.write n l).sec m = if m = n then l else D.sec m := by
  have ho : D.okArg n l = true := by simp [Dk.okArg, hl, h0, h1]
  have hb : D.burns = true := by simp [Dk.burns, h.fuse]
  have hw : D.write n l = D.wrote n l := by unfold Dk.write; rw [h.down, ho, hb]; rfl
  have hd : D.wrote n l = { D with all := D.all ++ [(n, l)], a1 := wrap64 (D.a1 + 1) } := by unfold Dk.wrote; rw [h.burnt]
  refine ⟨by unfold Dk.writeE; rw [h.down, ho, hb]; rfl, by rw [hw, hd]; exact ⟨h.down, h.fuse⟩, by rw [hw, hd], fun m => ?_⟩
  rw [hw, hd]
  unfold Dk.sec
  rw [last_snoc]
  unfold put
  simp only
  split <;> rfl

theorem Calm.sync {D : Dk} (h : Calm D) : D.syncE = 0 ∧ Calm D.sync ∧ D.sync.size = D.size ∧ D.sync.all = D.all := by
  have hb : D.burns = true := by simp [Dk.burns, h.fuse]
  have hw : D.sync = D.synced := by unfold Dk.sync; rw [h.down, hb]; rfl
  have hd : D.synced = { D with a2 := wrap64 (D.a2 + 1), lasts := D.all.length } := by unfold Dk.synced; rw [h.burnt]
  exact ⟨by unfold Dk.syncE; rw [h.down, hb]; rfl, by rw [hw, hd]; exact ⟨h.down, h.fuse⟩, by rw [hw, hd], by rw [hw, hd]⟩

theorem pwr_calm {b : Bytes} (hb : b.length = 1024) : ∀ (r i : Nat) (D : Dk) (base : Int), r + i = 4 → 0 ≤ base → base + 4 ≤ D.size → Calm D →
    (pwr base b r i D).2 = true ∧ Calm (pwr base b r i D).1 ∧ ∀ m, (pwr base b r i D).1.sec m = if base + (i : Int) ≤ m ∧ m < base + 4 then psec b (m - base).toNat else D.sec m
  | 0, i, D, base, hri, _, _, hc => ⟨rfl, hc, fun m => by rw [if_neg (by omega)]; rfl⟩
  | r + 1, i, D, base, hri, h0, h1, hc => by
    obtain ⟨w1, w2, w3, w4⟩ := hc.write (n := base + (i : Int)) (l := psec b i) (by omega) (by omega) (psec_len hb (by omega))
    unfold pwr
    rw [if_pos w1]
    obtain ⟨i1, i2, i3⟩ := pwr_calm hb r (i + 1) (D.write (base + (i : Int)) (psec b i)) base (by omega) h0 (by rw [w3]; exact h1) w2
    refine ⟨i1, i2, fun m => ?_⟩
    rw [i3, w4]
    by_cases hm : m = base + (i : Int)
    · subst hm
      rw [if_neg (by omega), if_pos rfl, if_pos (by omega)]
      congr 1
      omega
    · rw [if_neg hm]
      by_cases h2 : base + ((i + 1 : Nat) : Int) ≤ m ∧ m < base + 4
      · rw [if_pos h2, if_pos (by omega)]
      · rw [if_neg h2, if_neg (by omega)]

theorem psec_all {b : Bytes} (hb : b.length = 1024) : psec b 0 ++ psec b 1 ++ psec b 2 ++ psec b 3 = b := by
  unfold psec
  have e3 : (b.drop (3 * 256)).take 256 = b.drop 768 := List.take_of_length_le (by rw [List.length_drop]; omega)
  have d : ∀ n, (b.drop n).take 256 ++ b.drop (n + 256) = b.drop n := fun n => by
    rw [show b.drop (n + 256) = (b.drop n).drop 256 by rw [List.drop_drop]]
    exact List.take_append_drop 256 _
  rw [e3, List.append_assoc, List.append_assoc]
  have h2 := d 512
  have h1 := d 256
  have h0 := d 0
  show (b.drop 0).take 256 ++ ((b.drop 256).take 256 ++ ((b.drop 512).take 256 ++ b.drop 768)) = b
  rw [h2, h1, h0]
  rfl

theorem pgather4 (D : Dk) (base : Int) : pgather D base 4 = D.sec base ++ D.sec (base + 1) ++ D.sec (base + 2) ++ D.sec (base + 3) := by
  rw [pgather_succ, pgather_succ, pgather_succ, pgather_succ]
  simp [pgather]

theorem pgather_same {D D' : Dk} {base : Int} (h : ∀ m, base ≤ m → m < base + 4 → D'.sec m = D.sec m) : pgather D' base 4 = pgather D base 4 := by
  rw [pgather4, pgather4, h _ (by omega) (by omega), h _ (by omega) (by omega), h _ (by omega) (by omega), h _ (by omega) (by omega)]

/-- what a page's write leaves: its own bytes are there, and all other pages are as they were -/
theorem pwr_gather {b : Bytes} (hb : b.length = 1024) {D : Dk} (C : PC) {n : Nat} (h1 : C.base n + 4 ≤ D.size) (hc : Calm D) :
    (pwr (C.base n) b 4 0 D).2 = true ∧ Calm (pwr (C.base n) b 4 0 D).1 ∧ pgather (pwr (C.base n) b 4 0 D).1 (C.base n) 4 = b ∧ ∀ k : Nat, k ≠ n → pgather (pwr (C.base n) b 4 0 D).1 (C.base k) 4 = pgather D (C.base k) 4 := by
  obtain ⟨i1, i2, i3⟩ := pwr_calm hb 4 0 D (C.base n) rfl (by unfold PC.base; omega) h1 hc
  refine ⟨i1, i2, ?_, fun k hk => pgather_same fun m m0 m1 => ?_⟩
  · rw [pgather4, i3, i3, i3, i3, if_pos (by omega), if_pos (by omega), if_pos (by omega), if_pos (by omega)]
    rw [show (C.base n - C.base n).toNat = 0 by omega, show (C.base n + 1 - C.base n).toNat = 1 by omega, show (C.base n + 2 - C.base n).toNat = 2 by omega, show (C.base n + 3 - C.base n).toNat = 3 by omega]
    exact psec_all hb
  · rw [i3, if_neg (by unfold PC.base at *; omega)]

structure PlayI (C : PC) (S : PS) (B : List Bytes) : Prop where
  pw : PW C S
  calm : Calm S.D
  over : S.over = false
  len : B.length = S.is.length
  blen : ∀ b ∈ B, b.length = 1024
  frm : ∀ f ∈ S.fs, B[f.n]? = some f.b
  cln : ∀ f ∈ S.fs, f.dirty = false → pgather S.D (C.base f.n) 4 = f.b
  off : ∀ k : Nat, (S.is[k]? = some 1 ∨ S.is[k]? = some 2) → (∀ f ∈ S.fs, f.n ≠ k) → B[k]? = some (pgather S.D (C.base k) 4)

section
variable {C : PC} {S S' : PS} {B : List Bytes}

theorem PW.base {f : Fr} (h : PW C S) (hf : f.n < S.is.length) : C.base f.n + 4 ≤ S.D.size := by
  have := h.fits
  unfold PC.base
  omega

theorem PlayI.cons (h : PlayI C S B) {f : Fr} (hf : f.n < S.is.length) (hb : f.b.length = 1024) (hc : f.dirty = false → pgather S.D (C.base f.n) 4 = f.b) {fs' : List Fr} {D' : Dk} (hw : PW C ⟨D', S.is, f :: fs', S.over⟩) (hcalm : Calm D')
    (hs : ∀ g ∈ fs', g ∈ S.fs ∧ g.n ≠ f.n) (hg : ∀ g ∈ f :: fs', pgather D' (C.base g.n) 4 = pgather S.D (C.base g.n) 4)
    (hoff : ∀ k : Nat, (S.is[k]? = some 1 ∨ S.is[k]? = some 2) → k ≠ f.n → (∀ g ∈ fs', g.n ≠ k) → B[k]? = some (pgather D' (C.base k) 4)) : PlayI C ⟨D', S.is, f :: fs', S.over⟩ (B.set f.n f.b) := by
  refine ⟨hw, hcalm, h.over, by rw [List.length_set]; exact h.len, fun b hb' => ?_, fun g hg' => ?_, fun g hg' hd => ?_, fun k hk hno => ?_⟩
  · rcases List.mem_or_eq_of_mem_set hb' with h1 | rfl
    · exact h.blen b h1
    · exact hb
  · rcases List.mem_cons.1 hg' with rfl | hg'
    · rw [List.getElem?_set, if_pos rfl, if_pos (by rw [h.len]; exact hf)]
    · obtain ⟨h1, h2⟩ := hs g hg'
      rw [List.getElem?_set, if_neg (fun e => h2 e.symm)]
      exact h.frm g h1
  · show pgather D' _ _ = _
    rw [hg g hg']
    rcases List.mem_cons.1 hg' with rfl | hg'
    · exact hc hd
    · exact h.cln g (hs g hg').1 hd
  · have hkf : f.n ≠ k := hno f (List.mem_cons_self ..)
    rw [List.getElem?_set, if_neg hkf]
    exact hoff k hk (fun e => hkf e.symm) (fun g hg' => hno g (List.mem_cons_of_mem _ hg'))

theorem PlayI.off1 (h : PlayI C S B) {k : Nat} (hk : S.is[k]? = some 1 ∨ S.is[k]? = some 2) {n : Int} (hn : (k : Int) ≠ n) (hno : ∀ g ∈ fdrop S.fs n, g.n ≠ k) : B[k]? = some (pgather S.D (C.base k) 4) := by
  refine h.off k hk fun g hg e => hno g ?_ e
  unfold fdrop
  rw [List.mem_filter]
  exact ⟨hg, by simp; omega⟩

theorem flast_concat {fs : List Fr} (h : fs ≠ []) : fs.dropLast ++ [flast fs] = fs := by
  have e : flast fs = fs.getLast h := by
    cases fs with
    | nil => exact absurd rfl h
    | cons a l => rfl
  rw [e]
  exact List.dropLast_concat_getLast h

theorem dropLast_or {fs : List Fr} {g : Fr} (h : g ∈ fs) : g ∈ fs.dropLast ∨ g = flast fs := by
  rw [← flast_concat (List.ne_nil_of_mem h)] at h
  rcases List.mem_append.1 h with h | h
  · exact .inl h
  · rw [List.mem_singleton] at h
    exact .inr h

theorem PlayI.put (h : PlayI C S B) {f : Fr} (hf : f.n < S.is.length) (hb : f.b.length = 1024) (hc : f.dirty = false → pgather S.D (C.base f.n) 4 = f.b) : (S.put C f).2 = true ∧ PlayI C (S.put C f).1 (B.set f.n f.b) := by
  have hw := h.pw.put hf hb
  have hno := fdrop_no S.fs (f.n : Int)
  have h1 := h.pw.drop (f.n : Int)
  have hpool := h.pw.pool
  have hdm : ∀ g ∈ (S.drop (f.n : Int)).fs, g ∈ S.fs ∧ g.n ≠ f.n := fun g hg => ⟨fdrop_mem hg, fun e => hno g hg (by rw [e])⟩
  unfold PS.put at hw ⊢
  simp only at hw ⊢
  split
  · rename_i hp
    rw [if_pos hp] at hw
    have hpos : 0 < (S.drop (f.n : Int)).fs.length := by omega
    have hlm := List.mem_of_getElem? (flast_at hpos)
    obtain ⟨hl1, hl2⟩ := hdm _ hlm
    have hbase := PW.base h.pw (h.pw.inis _ hl1)
    have hlast : ∀ g ∈ (S.drop (f.n : Int)).fs.dropLast, g.n ≠ (flast (S.drop (f.n : Int)).fs).n := by
      intro g hg e
      have hnd := h1.nodup
      unfold FNodup at hnd
      rw [← flast_concat (List.ne_nil_of_mem hlm), List.map_append, List.nodup_append] at hnd
      exact hnd.2.2 g.n (List.mem_map.2 ⟨g, hg, rfl⟩) _ (by rw [List.map_cons, List.map_nil, List.mem_singleton]) e
    generalize hL : flast (S.drop (f.n : Int)).fs = L at hw hlm hl1 hl2 hbase hlast ⊢
    have hoffL : ∀ (D' : Dk), (∀ k : Nat, k ≠ L.n → pgather D' (C.base k) 4 = pgather S.D (C.base k) 4) → pgather D' (C.base L.n) 4 = L.b → ∀ k : Nat, (S.is[k]? = some 1 ∨ S.is[k]? = some 2) → k ≠ f.n → (∀ g ∈ (S.drop (f.n : Int)).fs.dropLast, g.n ≠ k) → B[k]? = some (pgather D' (C.base k) 4) := by
      intro D' hD' hDL k hk hkf hnok
      by_cases hkl : k = L.n
      · subst hkl
        rw [hDL]
        exact h.frm L hl1
      · rw [hD' k hkl]
        refine h.off1 hk (n := (f.n : Int)) (by omega) fun g hg e => ?_
        rcases dropLast_or hg with h2 | h2
        · exact hnok g h2 e
        · exact hkl (by rw [← e, h2, ← hL]; rfl)
    have hsub : ∀ g ∈ (S.drop (f.n : Int)).fs.dropLast, g ∈ S.fs ∧ g.n ≠ f.n := fun g hg => hdm g (dropLast_mem hg)
    split
    · rename_i hdy
      rw [if_pos hdy] at hw
      obtain ⟨p1, p2, p3, p4⟩ := pwr_gather (h.pw.blen _ hl1) C hbase h.calm
      have p1 : (pwr (C.base L.n) L.b 4 0 (S.drop (f.n : Int)).D).2 = true := p1
      rw [if_pos p1] at hw ⊢
      refine ⟨rfl, h.cons hf hb hc hw p2 hsub (fun g hg => p4 g.n ?_) (hoffL _ p4 p3)⟩
      rcases List.mem_cons.1 hg with rfl | hg
      · exact fun e => hl2 e.symm
      · exact hlast g hg
    · rename_i hdy
      rw [if_neg hdy] at hw
      exact ⟨rfl, h.cons hf hb hc hw h.calm hsub (fun g _ => rfl) (hoffL S.D (fun _ _ => rfl) (h.cln L hl1 (by simpa using hdy)))⟩
  · rename_i hp
    rw [if_neg hp] at hw
    exact ⟨rfl, h.cons hf hb hc hw h.calm hdm (fun g _ => rfl) (fun k hk hkf hnok => h.off1 hk (n := (f.n : Int)) (by omega) hnok)⟩

/-- what it is turns at one page which is not in need of the disk -/
theorem PlayI.turn (h : PlayI C S B) {k : Nat} {x : Int} (hk : (∃ f ∈ S.fs, f.n = k) ∨ (x ≠ 1 ∧ x ≠ 2)) : PlayI C { S with is := S.is.set k x } B := by
  refine ⟨⟨h.pw.nodup, fun f hf => by rw [List.length_set]; exact h.pw.inis f hf, h.pw.blen, by rw [List.length_set]; exact h.pw.fits, h.pw.size, h.pw.pool, h.pw.full, h.pw.few⟩, h.calm, h.over, by rw [List.length_set]; exact h.len, h.blen, h.frm, h.cln, fun j hj hno => ?_⟩
  by_cases hjk : k = j
  · subst hjk
    rcases hk with ⟨f, hf, hn⟩ | ⟨h1, h2⟩
    · exact absurd hn (hno f hf)
    · exfalso
      rw [List.getElem?_set, if_pos rfl] at hj
      split at hj
      · rcases hj with hj | hj
        · exact h1 (by simpa using hj)
        · exact h2 (by simpa using hj)
      · rcases hj with hj | hj <;> cases hj
  · rw [List.getElem?_set, if_neg hjk] at hj
    exact h.off j hj hno

theorem PlayI.dropped (h : PlayI C S B) {k : Nat} (hk : ¬ (S.is[k]? = some 1 ∨ S.is[k]? = some 2)) : PlayI C { S with fs := fdrop S.fs (k : Int) } B := by
  refine ⟨h.pw.drop (k : Int), h.calm, h.over, h.len, h.blen, fun f hf => h.frm f (fdrop_mem hf), fun f hf => h.cln f (fdrop_mem hf), fun j hj hno => ?_⟩
  by_cases hjk : (j : Int) = (k : Int)
  · have : j = k := by omega
    subst this
    exact absurd hj hk
  · exact h.off1 hj hjk hno

theorem set_same {B : List Bytes} {k : Nat} {b : Bytes} (h : B[k]? = some b) : B.set k b = B := by
  apply List.ext_getElem?
  intro j
  rw [List.getElem?_set]
  split
  · rename_i hj
    subst hj
    rw [h, if_pos (List.getElem?_eq_some_iff.1 h).1]
  · rfl

theorem PlayI.a0 (h : PlayI C S B) (x : Int) : PlayI C { S with D := { S.D with a0 := x } } B :=
  ⟨⟨h.pw.nodup, h.pw.inis, h.pw.blen, h.pw.fits, h.pw.size, h.pw.pool, h.pw.full, h.pw.few⟩, ⟨h.calm.down, h.calm.fuse⟩, h.over, h.len, h.blen, h.frm, h.cln, h.off⟩

theorem PS.put_is (C : PC) (S : PS) (f : Fr) : (S.put C f).1.is = S.is := (PS.put_len C S f).2.2

/-- a frame is put: it lies there -/
theorem PS.put_mem (C : PC) (S : PS) (f : Fr) (h : (S.put C f).2 = true) : f ∈ (S.put C f).1.fs := by
  unfold PS.put at h ⊢
  simp only at h ⊢
  split
  · rename_i hp
    rw [if_pos hp] at h
    split
    · rename_i hd
      rw [if_pos hd] at h
      split
      · exact List.mem_cons_self ..
      · rename_i hx
        rw [if_neg hx] at h
        cases h
    · exact List.mem_cons_self ..
  · exact List.mem_cons_self ..

/-! ### the acts, beside the reference's -/

/-- what the reference's Alloc comes to -/
def RAlloc (is is' : List Int) (B B' : List Bytes) (n en : Int) : Prop :=
  ((∀ j : Nat, is[j]? ≠ some 0) ∧ is' = is ∧ B' = B ∧ n = 0 ∧ en = 6) ∨ ∃ k : Nat, is[k]? = some 0 ∧ (∀ j : Nat, j < k → is[j]? ≠ some 0) ∧ is' = is.set k 2 ∧ B' = B.set k z1k ∧ n = (k : Int) ∧ en = 0

theorem PlayI.alloc (h : PlayI C S B) {n en : Int} (hr : AllocR C S S' n en) {is' : List Int} {B' : List Bytes} {n' en' : Int} (hq : RAlloc S.is is' B B' n' en') : n = n' ∧ en = en' ∧ is' = S'.is ∧ PlayI C S' B' := by
  rcases hr with ⟨ho, _⟩ | ⟨_, hno, rfl, rfl, rfl⟩ | ⟨_, k, f, hk, hk0, hn, hb, hd, hp⟩
  · rw [h.over] at ho; cases ho
  · rcases hq with ⟨_, rfl, rfl, rfl, rfl⟩ | ⟨k, hk, _⟩
    · exact ⟨rfl, rfl, rfl, h⟩
    · exact absurd hk (hno k)
  · rcases hq with ⟨hno, _⟩ | ⟨k', hk', hk0', rfl, rfl, rfl, rfl⟩
    · exact absurd hk (hno k)
    · have hkk : k = k' := by
        rcases Nat.lt_trichotomy k k' with h1 | h1 | h1
        · exact absurd hk (hk0' k h1)
        · exact h1
        · exact absurd hk' (hk0 k' h1)
      subst hkk
      have hkl := (List.getElem?_eq_some_iff.1 hk).1
      obtain ⟨g1, g2⟩ := h.put (f := f) (by rw [hn]; exact hkl) (by rw [hb]; exact z1k_len) (by rw [hd]; intro h; cases h)
      rcases hp with ⟨hok, _⟩ | ⟨hok, rfl, rfl, rfl⟩
      · rw [g1] at hok; cases hok
      · have hm := PS.put_mem C S f hok
        have g3 := g2.turn (k := k) (x := 2) (.inl ⟨f, hm, hn⟩)
        rw [hn, hb] at g3
        refine ⟨rfl, rfl, ?_, g3⟩
        show _ = (S.put C f).1.is.set k 2
        rw [PS.put_is]

/-- what the reference's Put comes to -/
def RPut (is : List Int) (B B' : List Bytes) (n : Int) (b : Bytes) (en : Int) : Prop :=
  ((∀ k : Nat, n = (k : Int) → is[k]? ≠ some 2) ∧ B' = B ∧ en = 1) ∨ ∃ k : Nat, n = (k : Int) ∧ is[k]? = some 2 ∧ B' = B.set k b ∧ en = 0

theorem at_of {n : Int} {k : Nat} {x : Int} (hn : n = (k : Int)) (hk : S.is[k]? = some x) : S.at_ n = x := by
  have hkl := (List.getElem?_eq_some_iff.1 hk).1
  unfold PS.at_
  rw [if_pos (by omega), hn, Int.toNat_natCast]
  simp [List.getD, hk]

theorem PlayI.puts (h : PlayI C S B) {n en : Int} {b : Bytes} (hb : b.length = 1024) (hr : PutR C S S' n b en) {B' : List Bytes} {en' : Int} (hq : RPut S.is B B' n b en') : en = en' ∧ S.is = S'.is ∧ PlayI C S' B' := by
  rcases hr with ⟨ho, _⟩ | ⟨_, hat, rfl, rfl⟩ | ⟨_, k, f, rfl, hk, hn, hfb, hd, rfl, rfl⟩
  · rw [h.over] at ho; cases ho
  · rcases hq with ⟨_, rfl, rfl⟩ | ⟨k, hn, hk, _⟩
    · exact ⟨rfl, rfl, h⟩
    · exact absurd (at_of hn hk) hat
  · rcases hq with ⟨hno, _⟩ | ⟨k', hn', _, rfl, rfl⟩
    · exact absurd hk (hno k rfl)
    · obtain rfl : k = k' := by omega
      have hkl := (List.getElem?_eq_some_iff.1 hk).1
      obtain ⟨g1, g2⟩ := h.put (f := f) (by rw [hn]; exact hkl) (by rw [hfb]; exact hb) (by rw [hd]; intro h; cases h)
      rw [hn, hfb] at g2
      exact ⟨by rw [g1]; rfl, (PS.put_is C S f).symm, g2⟩

/-- what the reference's Get comes to -/
def RGet (is : List Int) (B : List Bytes) (n : Int) (b : Bytes) (en : Int) : Prop :=
  ((∀ k : Nat, n = (k : Int) → is[k]? ≠ some 1 ∧ is[k]? ≠ some 2) ∧ b = [] ∧ en = 1) ∨ ∃ k : Nat, n = (k : Int) ∧ (is[k]? = some 1 ∨ is[k]? = some 2) ∧ B[k]? = some b ∧ en = 0

theorem PlayI.gets (h : PlayI C S B) (hwf : S.D.Wf) {n en : Int} {b : Bytes} (hr : GetR C S S' n b en) {b' : Bytes} {en' : Int} (hq : RGet S.is B n b' en') : en = en' ∧ b = b' ∧ S.is = S'.is ∧ PlayI C S' B := by
  rcases hr with ⟨ho, _⟩ | ⟨_, hat1, hat2, rfl, rfl, rfl⟩ | ⟨_, hat, k, rfl, hkl, hc⟩
  · rw [h.over] at ho; cases ho
  · rcases hq with ⟨_, rfl, rfl⟩ | ⟨k, hn, hk | hk, _⟩
    · exact ⟨rfl, rfl, rfl, h⟩
    · exact absurd (at_of hn hk) hat1
    · exact absurd (at_of hn hk) hat2
  · have hk : S.is[k]? = some 1 ∨ S.is[k]? = some 2 := by
      rcases hat with h1 | h1
      · obtain ⟨k', e, hx⟩ := at_nat h1 (by omega)
        obtain rfl : k = k' := by omega
        exact .inl hx
      · obtain ⟨k', e, hx⟩ := at_nat h1 (by omega)
        obtain rfl : k = k' := by omega
        exact .inr hx
    rcases hq with ⟨hno, _⟩ | ⟨k', hn', _, hb', rfl⟩
    · rcases hk with hk | hk
      · exact absurd hk (hno k rfl).1
      · exact absurd hk (hno k rfl).2
    · obtain rfl : k = k' := by omega
      rcases hc with ⟨j, f, hj, hn, rfl, rfl, rfl⟩ | ⟨_, hd, _⟩ | ⟨hno, _, x, f, hn, hfb, hdy, rfl, hp⟩
      · have hm := List.mem_of_getElem? hj
        have hfr := h.frm f hm
        rw [hn] at hfr
        have he : f.b = b' := by rw [hb'] at hfr; exact (Option.some.inj hfr).symm
        refine ⟨rfl, he, rfl, ?_⟩
        have hpw := (h.pw.drop (k : Int)).put (f := f) (by rw [hn]; exact hkl) (h.pw.blen f hm)
        have hpa := put_again h.pw hj
        rw [hn] at hpa
        rw [hpa] at hpw
        have hk2 := h.cons (f := f) (fs' := fdrop S.fs (k : Int)) (D' := S.D) (by rw [hn]; exact hkl) (h.pw.blen f hm) (h.cln f hm) hpw h.calm
          (fun g hg => ⟨fdrop_mem hg, fun e => fdrop_no S.fs (k : Int) g hg (by rw [e, hn])⟩) (fun _ _ => rfl) (fun j hj hjf hnoj => h.off1 hj (n := (k : Int)) (by omega) hnoj)
        rw [hn, set_same hfr] at hk2
        exact hk2
      · rw [h.calm.down] at hd; cases hd
      · have hofk := h.off k hk hno
        obtain ⟨g1, g2⟩ := (h.a0 x).put (f := f) (by rw [hn]; exact hkl) (by rw [hfb, pgather_len hwf]) (fun _ => by rw [hn, hfb]; rfl)
        rw [hn, hfb, set_same hofk] at g2
        rcases hp with ⟨_, rfl, rfl⟩ | ⟨hok, _⟩
        · refine ⟨rfl, ?_, (PS.put_is C { S with D := { S.D with a0 := x } } f).symm, g2⟩
          rw [hfb]
          rw [hb'] at hofk
          exact (Option.some.inj hofk).symm
        · rw [g1] at hok; cases hok

/-- what the reference's Free comes to -/
def RFree (is is' : List Int) (n en : Int) : Prop :=
  ((∀ k : Nat, n = (k : Int) → is[k]? ≠ some 1 ∧ is[k]? ≠ some 2) ∧ is' = is ∧ en = 1) ∨ ∃ k : Nat, n = (k : Int) ∧ en = 0 ∧ ((is[k]? = some 2 ∧ is' = is.set k 0) ∨ (is[k]? = some 1 ∧ is' = is.set k 3))

theorem PlayI.frees (h : PlayI C S B) {n en : Int} (hr : FreeR S S' n en) {is' : List Int} {en' : Int} (hq : RFree S.is is' n en') : en = en' ∧ is' = S'.is ∧ PlayI C S' B := by
  have hstep : ∀ (k : Nat) (x : Int), x ≠ 1 → x ≠ 2 → PlayI C { S with is := S.is.set k x, fs := fdrop S.fs (k : Int) } B := by
    intro k x h1 h2
    refine (h.turn (k := k) (x := x) (.inr ⟨h1, h2⟩)).dropped (k := k) ?_
    show ¬ ((S.is.set k x)[k]? = _ ∨ (S.is.set k x)[k]? = _)
    rw [List.getElem?_set, if_pos rfl]
    split
    · intro h3
      rcases h3 with h3 | h3
      · exact h1 (by simpa using h3)
      · exact h2 (by simpa using h3)
    · intro h3; rcases h3 with h3 | h3 <;> cases h3
  rcases hr with ⟨ho, _⟩ | ⟨_, hat1, hat2, rfl, rfl⟩ | ⟨_, k, rfl, hk, rfl⟩
  · rw [h.over] at ho; cases ho
  · rcases hq with ⟨_, rfl, rfl⟩ | ⟨k, hn, _, ⟨hk, _⟩ | ⟨hk, _⟩⟩
    · exact ⟨rfl, rfl, h⟩
    · exact absurd (at_of hn hk) hat2
    · exact absurd (at_of hn hk) hat1
  · rcases hq with ⟨hno, _⟩ | ⟨k', hn', rfl, hk'⟩
    · rcases hk with ⟨hk, _⟩ | ⟨hk, _⟩
      · exact absurd hk (hno k rfl).2
      · exact absurd hk (hno k rfl).1
    · obtain rfl : k = k' := by omega
      rcases hk with ⟨hk, rfl⟩ | ⟨hk, rfl⟩
      · rcases hk' with ⟨_, rfl⟩ | ⟨hk', _⟩
        · exact ⟨rfl, rfl, hstep k 0 (by omega) (by omega)⟩
        · rw [hk] at hk'; simp at hk'
      · rcases hk' with ⟨hk', _⟩ | ⟨_, rfl⟩
        · rw [hk] at hk'; simp at hk'
        · exact ⟨rfl, rfl, hstep k 3 (by omega) (by omega)⟩

theorem PlayI.flushed : ∀ (r i : Nat) (S : PS), PlayI C S B → PlayI C (flush C r i S).1 B ∧ (flush C r i S).2 = true ∧ (flush C r i S).1.is = S.is
  | 0, _, S, h => ⟨h, rfl, rfl⟩
  | r + 1, i, S, h => by
    unfold flush
    cases hf : S.fs[i]? with
    | none => exact ⟨h, rfl, rfl⟩
    | some f =>
      simp only
      have hm := List.mem_of_getElem? hf
      split
      · obtain ⟨p1, p2, p3, p4⟩ := pwr_gather (h.pw.blen f hm) C (PW.base h.pw (h.pw.inis f hm)) h.calm
        rw [if_pos p1]
        refine PlayI.flushed r (i + 1) _ ?_
        have hset : ∀ g ∈ S.fs.set i { f with dirty := false }, (g ∈ S.fs ∧ g.n ≠ f.n) ∨ g = { f with dirty := false } := by
          intro g hg
          obtain ⟨j, hj⟩ := List.mem_iff_getElem?.1 hg
          rw [List.getElem?_set] at hj
          split at hj
          · split at hj
            · right; exact (Option.some.inj hj).symm
            · cases hj
          · rename_i hij
            left
            refine ⟨List.mem_of_getElem? hj, fun e => ?_⟩
            have hnd := h.pw.nodup
            unfold FNodup List.Nodup at hnd
            rw [List.pairwise_iff_getElem] at hnd
            obtain ⟨hjl, hje⟩ := List.getElem?_eq_some_iff.1 hj
            obtain ⟨hil, hie⟩ := List.getElem?_eq_some_iff.1 hf
            rcases Nat.lt_or_gt_of_ne hij with hlt | hlt
            · exact hnd i j (by simpa using hil) (by simpa using hjl) hlt (by simp [hie, hje, e])
            · exact hnd j i (by simpa using hjl) (by simpa using hil) hlt (by simp [hie, hje, e])
        refine ⟨h.pw.wrote (g := { f with dirty := false }) hf rfl rfl (pwr_size _ _ _ _ _).1 _, p2, h.over, h.len, h.blen, fun g hg => ?_, fun g hg hd => ?_, fun k hk hno => ?_⟩
        · rcases hset g hg with ⟨hg, _⟩ | rfl
          · exact h.frm g hg
          · exact h.frm f hm
        · rcases hset g hg with ⟨hg, hgn⟩ | rfl
          · show pgather (pwr (C.base f.n) f.b 4 0 S.D).1 _ _ = _
            rw [p4 g.n hgn]
            exact h.cln g hg hd
          · exact p3
        · have hil := (List.getElem?_eq_some_iff.1 hf).1
          have hkf : k ≠ f.n := fun e => hno { f with dirty := false } (List.mem_of_getElem? (i := i) (by rw [List.getElem?_set, if_pos rfl, if_pos hil])) e.symm
          show _ = some (pgather (pwr (C.base f.n) f.b 4 0 S.D).1 _ _)
          rw [p4 k hkf]
          refine h.off k hk fun g hg e => ?_
          obtain ⟨j, hj⟩ := List.mem_iff_getElem?.1 hg
          by_cases hij : i = j
          · subst hij
            rw [hf] at hj
            cases hj
            exact hkf e.symm
          · exact hno g (List.mem_of_getElem? (i := j) (by rw [List.getElem?_set, if_neg hij]; exact hj)) e
      · exact PlayI.flushed r (i + 1) S h

theorem PlayI.flushes (h : PlayI C S B) : PlayI C (S.flush C).1 B ∧ (S.flush C).2 = 0 ∧ (S.flush C).1.is = S.is := by
  obtain ⟨h1, h2, h3⟩ := PlayI.flushed S.fs.length 0 S h
  unfold PS.flush
  rw [h.over]
  simp only [Bool.false_eq_true, if_false]
  exact ⟨h1, by rw [h2]; rfl, h3⟩

theorem PlayI.synced (h : PlayI C S B) : S.D.syncE = 0 ∧ PlayI C { S with D := S.D.sync } B := by
  obtain ⟨h1, h2, h3, h4⟩ := h.calm.sync
  have hs : ∀ n, S.D.sync.sec n = S.D.sec n := fun n => by unfold Dk.sec; rw [h4]
  have hg : ∀ k, pgather S.D.sync (C.base k) 4 = pgather S.D (C.base k) 4 := fun k => pgather_same fun m _ _ => hs m
  refine ⟨h1, ⟨h.pw.nodup, h.pw.inis, h.pw.blen, by rw [h3]; exact h.pw.fits, by rw [h3]; exact h.pw.size, h.pw.pool, h.pw.full, h.pw.few⟩, h2, h.over, h.len, h.blen, h.frm, fun f hf hd => ?_, fun k hk hno => ?_⟩
  · show pgather S.D.sync _ _ = _
    rw [hg]; exact h.cln f hf hd
  · show _ = some (pgather S.D.sync _ _)
    rw [hg]; exact h.off k hk hno

/-- Settle -/
def settle1 (x : Int) : Int := if x = 2 then 1 else if x = 3 then 0 else x
def settle (is : List Int) : List Int := is.map settle1
def settleTo (is : List Int) (k : Nat) : List Int := settle (is.take k) ++ is.drop k

theorem settleTo_zero (is : List Int) : settleTo is 0 = is := by simp [settleTo, settle]
theorem settleTo_all (is : List Int) : settleTo is is.length = settle is := by simp [settleTo, settle]
theorem settleTo_len (is : List Int) (k : Nat) : (settleTo is k).length = is.length := by simp [settleTo, settle]; omega
theorem settleTo_at {is : List Int} {k : Nat} {x : Int} (h : is[k]? = some x) : (settleTo is k)[k]? = some x := by
  have hl := (List.getElem?_eq_some_iff.1 h).1
  unfold settleTo settle
  rw [List.getElem?_append_right (by simp; omega)]
  simp only [List.length_map, List.length_take, Nat.min_eq_left (Nat.le_of_lt hl), Nat.sub_self]
  rw [List.getElem?_drop, Nat.add_zero]
  exact h
theorem settleTo_succ {is : List Int} {k : Nat} {x : Int} (h : is[k]? = some x) : settleTo is (k + 1) = (settleTo is k).set k (settle1 x) := by
  obtain ⟨hl, he⟩ := List.getElem?_eq_some_iff.1 h
  apply List.ext_getElem?
  intro j
  unfold settleTo settle
  rw [List.getElem?_set]
  simp only [List.getElem?_append, List.length_map, List.length_take, List.getElem?_map, List.getElem?_take, List.getElem?_drop, List.length_append, List.length_drop]
  by_cases hjk : k = j
  · subst hjk
    rw [if_pos (by omega), if_pos (by omega), if_pos rfl, if_pos (by omega), h]
    rfl
  · rw [if_neg hjk]
    by_cases hlt : j < k
    · rw [if_pos (by omega), if_pos (by omega), if_pos (by omega), if_pos (by omega)]
    · rw [if_neg (by omega), if_neg (by omega)]
      rw [Nat.min_eq_left (by omega), Nat.min_eq_left (by omega)]
      rw [show k + 1 + (j - (k + 1)) = j by omega, show k + (j - k) = j by omega]

theorem PlayI.settled (h : PlayI C S B) : PlayI C { S with is := settle S.is } B := by
  have hl : (settle S.is).length = S.is.length := by simp [settle]
  refine ⟨⟨h.pw.nodup, fun f hf => by rw [hl]; exact h.pw.inis f hf, h.pw.blen, by rw [hl]; exact h.pw.fits, h.pw.size, h.pw.pool, h.pw.full, h.pw.few⟩, h.calm, h.over, by rw [hl]; exact h.len, h.blen, h.frm, h.cln, fun k hk hno => h.off k ?_ hno⟩
  have hx : ∀ y : Int, (settle S.is)[k]? = some y → (y = 1 ∨ y = 2) → S.is[k]? = some 1 ∨ S.is[k]? = some 2 := by
    intro y hy h12
    unfold settle at hy
    rw [List.getElem?_map] at hy
    cases hs : S.is[k]? with
    | none => rw [hs] at hy; cases hy
    | some x =>
      rw [hs] at hy
      have hy : settle1 x = y := by simpa using hy
      unfold settle1 at hy
      split at hy
      · rename_i h2; exact .inr (by rw [h2])
      · split at hy
        · omega
        · rw [← hy] at h12; rcases h12 with h12 | h12
          · exact .inl (by rw [h12])
          · exact .inr (by rw [h12])
  rcases hk with hk | hk
  · exact hx 1 hk (.inl rfl)
  · exact hx 2 hk (.inr rfl)
end

end Go.Proofs.Ytkpoladbabhdmaa
