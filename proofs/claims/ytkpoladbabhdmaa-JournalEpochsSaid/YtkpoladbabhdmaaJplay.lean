/- What a script leaves in a journal's area, and what is found there behind a power cut, plain. Conditions: as each says. -/
import Derived.Test.YtkpoladbabhdmaaJrec
import Derived.Test.YtkpoladbabhdmaaJrn5
import Derived.Test.YtkpoladbabhdmaaMeta13
namespace Go.Proofs.Ytkpoladbabhdmaa
open Go.RowKit

/-- the sectors of a record, of records -/
def jsecs (E : Int) (a num : Nat) (b : Bytes) (r : Nat) : List Bytes := (List.range r).map fun p : Nat => jsec E ((a : Int) + (p : Int)) (num : Int) p b
theorem jsecs_len (E : Int) (a num : Nat) (b : Bytes) (r : Nat) : (jsecs E a num b r).length = r := by simp [jsecs]
theorem jsecs_at (E : Int) (a num : Nat) (b : Bytes) {r p : Nat} (h : p < r) : (jsecs E a num b r)[p]? = some (jsec E ((a : Int) + (p : Int)) (num : Int) p b) := by simp [jsecs, h]
theorem jsecs_succ (E : Int) (a num : Nat) (b : Bytes) (r : Nat) : jsecs E a num b (r + 1) = jsecs E a num b r ++ [jsec E ((a : Int) + (r : Int)) (num : Int) r b] := by simp [jsecs, List.range_succ]

def joff : List Bytes → Nat
  | [] => 0
  | b :: L => jparts b.length + joff L
theorem joff_snoc (b : Bytes) : ∀ L : List Bytes, joff (L ++ [b]) = joff L + jparts b.length
  | [] => by simp [joff]
  | x :: L => by simp only [List.cons_append, joff, joff_snoc b L]; omega

def jall (E : Int) : Nat → Nat → List Bytes → List Bytes
  | _, _, [] => []
  | a, num, b :: L => jsecs E a num b (jparts b.length) ++ jall E (a + jparts b.length) (num + 1) L
theorem jall_len (E : Int) : ∀ (L : List Bytes) (a num : Nat), (jall E a num L).length = joff L
  | [], _, _ => rfl
  | b :: L, a, num => by simp only [jall, joff, List.length_append, jsecs_len, jall_len E L]
theorem jall_snoc (E : Int) (b : Bytes) : ∀ (L : List Bytes) (a num : Nat), jall E a num (L ++ [b]) = jall E a num L ++ jsecs E (a + joff L) (num + L.length) b (jparts b.length)
  | [], a, num => by simp [jall, joff]
  | x :: L, a, num => by
    simp only [List.cons_append, jall, joff, jall_snoc E b L, List.append_assoc, List.length_cons]
    rw [show a + jparts x.length + joff L = a + (jparts x.length + joff L) by omega, show num + 1 + L.length = num + (L.length + 1) by omega]

/-- no sector of a record of this epoch -/
def Foreign (E : Int) (x : Bytes) : Prop := ∀ (n r : Int) (p : Nat) (b : Bytes), 0 < b.length → b.length ≤ 8000 → p < jparts b.length → x ≠ jsec E n r p b

/-- what follows the records: parts of one that was not ended -/
def Broken (E : Int) (a num : Nat) (T : List Bytes) : Prop := T = [] ∨ ∃ b r, T = jsecs E a num b r ∧ r < jparts b.length ∧ 0 < b.length ∧ b.length ≤ 8000

theorem scan_suffix {s base : Nat → Bytes} {c : Nat} {E : Int} (hfor : ∀ i, i < c → Foreign E (base i)) (K : Nat → Bool) :
    ∀ (L T : List Bytes) (a num fu sy : Nat), (∀ b ∈ L, 0 < b.length ∧ b.length ≤ 8000) → Broken E (a + joff L) (num + L.length) T → c - a ≤ fu → a + (jall E a num L ++ T).length ≤ c →
      (∀ i, a ≤ i → s i = match (jall E a num L ++ T)[i - a]? with | some x => if K i then x else base i | none => base i) →
      sy ≤ L.length → (∀ i, a ≤ i → i < a + joff (L.take sy) → K i = true) → ∃ j, sy ≤ j ∧ scanFrom s c E fu a num = L.take j
  | [], T, a, num, fu, sy, _, hT, hfu, hlen, hs, hsy, _ => by
    refine ⟨0, by simpa using hsy, ?_⟩
    cases fu with
    | zero => rfl
    | succ fu =>
      unfold scanFrom
      rw [recAt_none fun b hb => ?_]
      · simp
      simp only [jall, List.nil_append] at hs hlen
      have hp := hb.pos
      have hft := hb.fits
      have hac : a < c := by omega
      have h0 := hb.secs 0 (by omega)
      have hs0 := hs a (Nat.le_refl _)
      rw [Nat.sub_self] at hs0
      rcases hT with rfl | ⟨b', r, hT, hr, hb1, hb2⟩
      · simp at hs0
        simp only [Nat.add_zero] at h0
        rw [hs0] at h0
        exact hfor a hac _ _ _ b hb.ne hb.le (by omega) h0
      · simp only [joff, List.length_nil, Nat.add_zero] at hT
        cases r with
        | zero =>
          simp [hT, jsecs] at hs0
          simp only [Nat.add_zero] at h0
          rw [hs0] at h0
          exact hfor a hac _ _ _ b hb.ne hb.le (by omega) h0
        | succ r =>
          rw [hT, jsecs_at _ _ _ _ (by omega)] at hs0
          simp only at hs0
          simp only [Nat.add_zero] at h0
          cases hk : K a with
          | false =>
            rw [hk] at hs0
            simp only [Bool.false_eq_true, if_false] at hs0
            rw [hs0] at h0
            exact hfor a hac _ _ _ b hb.ne hb.le (by omega) h0
          | true =>
            rw [hk] at hs0
            simp only [if_true] at hs0
            have hpar : jparts b'.length = jparts b.length := by
              have h1 := jsec_parts (E := E) (n := (a : Int) + ((0 : Nat) : Int)) (r := (num : Int)) (p := 0) hb2
              rw [← hs0, h0, jsec_parts hb.le] at h1
              exact h1.symm
            have hsr := hs (a + (r + 1)) (by omega)
            rw [show a + (r + 1) - a = r + 1 by omega, hT, List.getElem?_eq_none (by rw [jsecs_len]; omega)] at hsr
            have hr1 := hb.secs (r + 1) (by omega)
            rw [hsr] at hr1
            exact hfor (a + (r + 1)) (by omega) _ _ _ b hb.ne hb.le (by omega) hr1
  | b :: L, T, a, num, fu, sy, hL, hT, hfu, hlen, hs, hsy, hK => by
    obtain ⟨hb1, hb2⟩ := hL b (by simp)
    have hP := jparts_pos hb1
    have hV : jall E a num (b :: L) ++ T = jsecs E a num b (jparts b.length) ++ (jall E (a + jparts b.length) (num + 1) L ++ T) := by simp only [jall, List.append_assoc]
    rw [hV] at hs hlen
    have hlen' := hlen
    rw [List.length_append, jsecs_len] at hlen'
    have hfirst : ∀ p, p < jparts b.length → s (a + p) = if K (a + p) then jsec E ((a : Int) + (p : Int)) (num : Int) p b else base (a + p) := by
      intro p hp
      have h1 := hs (a + p) (by omega)
      rw [show a + p - a = p by omega, List.getElem?_append_left (by rw [jsecs_len]; exact hp), jsecs_at _ _ _ _ hp] at h1
      exact h1
    obtain ⟨fu', rfl⟩ : ∃ fu', fu = fu' + 1 := ⟨fu - 1, by omega⟩
    by_cases hall : ∀ p, p < jparts b.length → K (a + p) = true
    · have hrec : IsRec (fun p : Nat => s (a + p)) (c - a) E a num b := ⟨hb1, hb2, by omega, fun p hp => by rw [hfirst p hp, hall p hp]; simp⟩
      have ih := scan_suffix (s := s) hfor K L T (a + jparts b.length) (num + 1) fu' (sy - 1) (fun x hx => hL x (by simp [hx]))
        (by simp only [joff, List.length_cons] at hT; rw [show a + jparts b.length + joff L = a + (jparts b.length + joff L) by omega, show num + 1 + L.length = num + (L.length + 1) by omega]; exact hT)
        (by omega) (by omega) (fun i hi => by
          have h1 := hs i (by omega)
          rw [List.getElem?_append_right (by rw [jsecs_len]; omega), jsecs_len, show i - a - jparts b.length = i - (a + jparts b.length) by omega] at h1
          exact h1) (by simp only [List.length_cons] at hsy; omega) (fun i hi hi2 => by
          refine hK i (by omega) ?_
          cases sy with
          | zero => simp [joff] at hi2; omega
          | succ sy =>
            simp only [List.take_succ_cons, joff]
            simp only [Nat.add_sub_cancel] at hi2
            omega)
      obtain ⟨j, hj1, hj2⟩ := ih
      refine ⟨j + 1, by omega, ?_⟩
      unfold scanFrom
      rw [recAt_some hrec]
      simp only [hj2, List.take_succ_cons]
    · have hsy0 : sy = 0 := by
        cases sy with
        | zero => rfl
        | succ sy =>
          exfalso
          refine hall fun p hp => hK (a + p) (by omega) ?_
          simp only [List.take_succ_cons, joff]; omega
      refine ⟨0, by omega, ?_⟩
      unfold scanFrom
      rw [recAt_none fun b' hb' => hall ?_]
      · simp
      have h0 := hb'.secs 0 (by have := hb'.pos; omega)
      rw [hfirst 0 (by omega)] at h0
      have hk0 : K (a + 0) = true := by
        cases hk : K (a + 0) with
        | true => rfl
        | false =>
          rw [hk] at h0
          simp only [Bool.false_eq_true, if_false] at h0
          exact absurd h0 (hfor (a + 0) (by omega) _ _ _ b' hb'.ne hb'.le (by have := hb'.pos; omega))
      rw [hk0] at h0
      simp only [if_true] at h0
      have hpar : jparts b.length = jparts b'.length := by
        have h1 := jsec_parts (E := E) (n := (a : Int) + ((0 : Nat) : Int)) (r := (num : Int)) (p := 0) hb2
        rw [h0, jsec_parts hb'.le] at h1
        exact h1.symm
      intro p hp
      cases hk : K (a + p) with
      | true => rfl
      | false =>
        have hp1 := hb'.secs p (by omega)
        rw [hfirst p hp, hk] at hp1
        simp only [Bool.false_eq_true, if_false] at hp1
        exact absurd hp1 (hfor (a + p) (by omega) _ _ _ b' hb'.ne hb'.le (by omega))

/-- sectors as writes, from a place on -/
def posFrom (f : Int) : Nat → List Bytes → List (Int × Bytes)
  | _, [] => []
  | a, x :: V => (f + (a : Int), x) :: posFrom f (a + 1) V
theorem posFrom_len (f : Int) : ∀ (V : List Bytes) (a : Nat), (posFrom f a V).length = V.length
  | [], _ => rfl
  | _ :: V, a => by simp [posFrom, posFrom_len f V]
theorem posFrom_app (f : Int) (V2 : List Bytes) : ∀ (V1 : List Bytes) (a : Nat), posFrom f a (V1 ++ V2) = posFrom f a V1 ++ posFrom f (a + V1.length) V2
  | [], a => by simp [posFrom]
  | x :: V1, a => by
    simp only [List.cons_append, posFrom, posFrom_app f V2 V1, List.length_cons]
    rw [show a + 1 + V1.length = a + (V1.length + 1) by omega]

/-- those of them that are kept -/
def sel (f : Int) (K : Nat → Bool) : Nat → List Bytes → List (Int × Bytes)
  | _, [] => []
  | a, x :: V => (if K a then [(f + (a : Int), x)] else []) ++ sel f K (a + 1) V
theorem sel_all (f : Int) (K : Nat → Bool) : ∀ (V : List Bytes) (a : Nat), (∀ i, a ≤ i → i < a + V.length → K i = true) → sel f K a V = posFrom f a V
  | [], _, _ => rfl
  | x :: V, a, h => by
    simp only [sel, posFrom]
    rw [h a (Nat.le_refl _) (by simp), sel_all f K V (a + 1) (fun i h1 h2 => h i (by omega) (by simp only [List.length_cons]; omega))]
    rfl
theorem sel_app (f : Int) (K : Nat → Bool) (V2 : List Bytes) : ∀ (V1 : List Bytes) (a : Nat), sel f K a (V1 ++ V2) = sel f K a V1 ++ sel f K (a + V1.length) V2
  | [], a => by simp [sel]
  | x :: V1, a => by
    simp only [List.cons_append, sel, sel_app f K V2 V1, List.length_cons, List.append_assoc]
    rw [show a + 1 + V1.length = a + (V1.length + 1) by omega]
theorem sel_kept (f : Int) (keep : List Bool) (m : Nat) : ∀ (V : List Bytes) (i : Nat), kept keep i (posFrom f (m + i) V) = sel f (fun j => decide (j < m) || keeps keep (j - m)) (m + i) V
  | [], i => rfl
  | x :: V, i => by
    simp only [posFrom, kept, sel]
    have ih := sel_kept f keep m V (i + 1)
    rw [← Nat.add_assoc] at ih
    rw [ih]
    have e : (decide (m + i < m) || keeps keep (m + i - m)) = keeps keep i := by
      rw [show m + i - m = i by omega, decide_eq_false (by omega : ¬ m + i < m), Bool.false_or]
    simp only [e]
    split <;> simp
theorem last_sel (f : Int) (K : Nat → Bool) : ∀ (V : List Bytes) (base : List (Int × Bytes)) (a n : Nat),
    last (base ++ sel f K a V) (f + (n : Int)) = if a ≤ n then (match V[n - a]? with | some x => if K n then some x else last base (f + (n : Int)) | none => last base (f + (n : Int))) else last base (f + (n : Int))
  | [], base, a, n => by simp [sel]
  | x :: V, base, a, n => by
    simp only [sel]
    rw [← List.append_assoc, last_sel f K V _ (a + 1) n]
    have hb : last (base ++ if K a then [(f + (a : Int), x)] else []) (f + (n : Int)) = if n = a ∧ K a then some x else last base (f + (n : Int)) := by
      by_cases hk : K a
      · rw [if_pos hk, last_snoc]
        unfold put
        by_cases hn : n = a
        · rw [if_pos (by simp only; omega), if_pos ⟨hn, hk⟩]
        · rw [if_neg (by simp only; omega), if_neg (by simp [hn])]
      · rw [if_neg hk, List.append_nil, if_neg (by simp [hk])]
    rw [hb]
    by_cases h1 : a + 1 ≤ n
    · have e : n - a = (n - (a + 1)) + 1 := by omega
      rw [if_pos h1, if_pos (by omega : a ≤ n), e, List.getElem?_cons_succ, if_neg (by omega : ¬ (n = a ∧ K a = true))]
    · by_cases h2 : n = a
      · subst h2
        rw [if_neg h1, if_pos (Nat.le_refl _), Nat.sub_self]
        simp
      · rw [if_neg h1, if_neg (by omega : ¬ a ≤ n), if_neg (by simp [h2])]

/-- a journal, its records and how many of them were there at the last Sync; base: the writes ahead of it -/
structure PlayI (base : List (Int × Bytes)) (size : Int) (f : Int) (c : Nat) (E : Int) (S : JS) (L : List Bytes) (sy : Nat) : Prop where
  size : S.D.size = size
  next : S.next ≤ c
  num : S.num = L.length
  recs : ∀ b ∈ L, 0 < b.length ∧ b.length ≤ 8000
  lasts : base.length ≤ S.D.lasts ∧ S.D.lasts ≤ S.D.all.length
  synced : sy ≤ L.length ∧ base.length + joff (L.take sy) ≤ S.D.lasts
  all : ∃ T, Broken E (joff L) L.length T ∧ (S.over = false → T = []) ∧ S.next = (jall E 0 0 L ++ T).length ∧ S.D.all = base ++ posFrom f 0 (jall E 0 0 L ++ T)

theorem PlayI.start {base : List (Int × Bytes)} {f E : Int} {c : Nat} {D : Dk} (ha : D.all = base) (hl : D.lasts = base.length) : PlayI base D.size f c E ⟨D, 0, 0, false⟩ [] 0 :=
  ⟨rfl, Nat.zero_le _, rfl, by simp, ⟨by rw [hl]; exact Nat.le_refl _, by rw [hl, ha]; exact Nat.le_refl _⟩, ⟨Nat.le_refl _, by simp [joff, hl]⟩, [], .inl rfl, fun _ => rfl, rfl, by rw [ha]; simp [jall, posFrom]⟩

section
variable {base : List (Int × Bytes)} {size f E : Int} {c : Nat} {S : JS} {L : List Bytes} {sy : Nat}

theorem PlayI.fuse (h : PlayI base size f c E S L sy) (n : Int) : PlayI base size f c E { S with D := S.D.fused n } L sy :=
  ⟨h.size, h.next, h.num, h.recs, h.lasts, h.synced, h.all⟩

theorem Dk.sync_or (D : Dk) : D.sync.size = D.size ∧ D.sync.all = D.all ∧ ((D.syncE = 0 ∧ D.sync.lasts = D.all.length) ∨ (D.syncE = 7 ∧ D.sync.lasts = D.lasts)) := by
  unfold Dk.sync Dk.syncE
  split
  · exact ⟨rfl, rfl, .inr ⟨rfl, rfl⟩⟩
  · split
    · exact ⟨by simp only [Dk.synced, Dk.burnt_size], by simp only [Dk.synced, Dk.burnt_all], .inl ⟨rfl, rfl⟩⟩
    · exact ⟨D.burnt_size, D.burnt_all, .inr ⟨rfl, D.burnt_lasts⟩⟩

theorem PlayI.sync (h : PlayI base size f c E S L sy) : (S.syncE = 0 ∧ PlayI base size f c E S.sync L L.length) ∨ (S.syncE ≠ 0 ∧ PlayI base size f c E S.sync L sy) := by
  obtain ⟨z1, z2, z3⟩ := S.D.sync_or
  obtain ⟨T, t1, t2, t3, t4⟩ := h.all
  cases ho : S.over with
  | true =>
    have e : S.sync = S := by simp [JS.sync, ho]
    exact .inr ⟨by simp [JS.syncE, ho], by rw [e]; exact h⟩
  | false =>
    have hT := t2 ho
    subst hT
    rcases z3 with ⟨e1, e2⟩ | ⟨e1, e2⟩
    · have e : S.sync = { S with D := S.D.sync, over := false } := by simp [JS.sync, ho, e1]
      refine .inl ⟨by simp [JS.syncE, ho, e1], ?_⟩
      rw [e]
      refine ⟨z1.trans h.size, h.next, h.num, h.recs, ⟨?_, ?_⟩, ⟨Nat.le_refl _, ?_⟩, [], .inl rfl, fun _ => rfl, t3, z2.trans t4⟩
      · show base.length ≤ S.D.sync.lasts; rw [e2]; exact Nat.le_trans h.lasts.1 h.lasts.2
      · show S.D.sync.lasts ≤ S.D.sync.all.length; rw [e2, z2]; exact Nat.le_refl _
      · show _ ≤ S.D.sync.lasts
        rw [e2, t4, List.length_append, posFrom_len, List.append_nil, jall_len, List.take_length]; exact Nat.le_refl _
    · have e : S.sync = { S with D := S.D.sync, over := true } := by simp [JS.sync, ho, e1]
      refine .inr ⟨by simp [JS.syncE, ho, e1], ?_⟩
      rw [e]
      refine ⟨z1.trans h.size, h.next, h.num, h.recs, ⟨?_, ?_⟩, ⟨h.synced.1, ?_⟩, [], .inl rfl, fun _ => rfl, t3, z2.trans t4⟩
      · show base.length ≤ S.D.sync.lasts; rw [e2]; exact h.lasts.1
      · show S.D.sync.lasts ≤ S.D.sync.all.length; rw [e2, z2]; exact h.lasts.2
      · show _ ≤ S.D.sync.lasts; rw [e2]; exact h.synced.2

theorem Dk.write_or (D : Dk) (n : Int) (l : Bytes) : (D.write n l).size = D.size ∧ (D.write n l).lasts = D.lasts ∧ ((D.writeE n l = 0 ∧ (D.write n l).all = D.all ++ [(n, l)]) ∨ (D.writeE n l ≠ 0 ∧ (D.write n l).all = D.all)) := by
  unfold Dk.write Dk.writeE
  split
  · exact ⟨rfl, rfl, .inr ⟨by omega, rfl⟩⟩
  · split
    · split
      · exact ⟨by simp only [Dk.wrote, Dk.burnt_size], by simp only [Dk.wrote, Dk.burnt_lasts], .inl ⟨rfl, by simp only [Dk.wrote]⟩⟩
      · exact ⟨D.burnt_size, D.burnt_lasts, .inr ⟨by omega, D.burnt_all⟩⟩
    · exact ⟨rfl, rfl, .inr ⟨by omega, rfl⟩⟩

/-- the writes of an Append, from a part on -/
theorem jw_play {b : Bytes} (hb : 0 < b.length) (hb8 : b.length ≤ 8000) {V : List Bytes} : ∀ (r p : Nat) (S : JS), p + r = jparts b.length → S.next = V.length + p → S.D.all = base ++ posFrom f 0 (V ++ jsecs E V.length S.num b p) → S.over = false →
    (jw f E b r p S).1.D.size = S.D.size ∧ (jw f E b r p S).1.D.lasts = S.D.lasts ∧
    (((jw f E b r p S).2 = 0 ∧ (jw f E b r p S).1.over = false ∧ (jw f E b r p S).1.num = S.num + 1 ∧ (jw f E b r p S).1.next = V.length + jparts b.length ∧ (jw f E b r p S).1.D.all = base ++ posFrom f 0 (V ++ jsecs E V.length S.num b (jparts b.length))) ∨
     ((jw f E b r p S).2 ≠ 0 ∧ (jw f E b r p S).1.over = true ∧ (jw f E b r p S).1.num = S.num ∧ ∃ q, q < jparts b.length ∧ (jw f E b r p S).1.next = V.length + q ∧ (jw f E b r p S).1.D.all = base ++ posFrom f 0 (V ++ jsecs E V.length S.num b q)))
  | 0, p, S, hp, hn, ha, ho => by
    obtain rfl : p = jparts b.length := by omega
    exact ⟨rfl, rfl, .inl ⟨rfl, ho, rfl, hn, ha⟩⟩
  | r + 1, p, S, hp, hn, ha, ho => by
    simp only [jw]
    obtain ⟨w1, w2, w3⟩ := S.D.write_or (f + (S.next : Int)) (jsec E S.next S.num p b)
    rcases w3 with ⟨e1, e2⟩ | ⟨e1, e2⟩
    · rw [if_pos e1]
      have ih := jw_play hb hb8 (V := V) r (p + 1) { S with D := S.D.write (f + (S.next : Int)) (jsec E S.next S.num p b), next := S.next + 1 } (by omega) (by show S.next + 1 = _; omega) (by
        show (S.D.write _ _).all = _
        rw [e2, ha, jsecs_succ, ← List.append_assoc, posFrom_app f [_] (V ++ jsecs E V.length S.num b p), List.append_assoc]
        congr 2
        simp only [posFrom, List.length_append, jsecs_len, Nat.zero_add]
        rw [hn]
        congr 2) ho
      refine ⟨ih.1.trans w1, ih.2.1.trans w2, ih.2.2⟩
    · rw [if_neg e1]
      refine ⟨w1, w2, .inr ⟨by simp, rfl, rfl, p, by omega, hn, ?_⟩⟩
      show (S.D.write _ _).all = _
      rw [e2]; exact ha

theorem PlayI.app (h : PlayI base size f c E S L sy) (b : Bytes) : ((S.app f c E b).2 = 0 ∧ PlayI base size f c E (S.app f c E b).1 (L ++ [b]) sy) ∨ ((S.app f c E b).2 ≠ 0 ∧ PlayI base size f c E (S.app f c E b).1 L sy) := by
  unfold JS.app
  cases ho : S.over with
  | true => exact .inr ⟨by simp, by simpa using h⟩
  | false =>
    rw [if_neg (by simp)]
    by_cases hb0 : b = []
    · rw [if_pos hb0]; exact .inr ⟨by simp, h⟩
    · rw [if_neg hb0]
      by_cases h8 : 8000 < b.length
      · rw [if_pos h8]; exact .inr ⟨by simp, h⟩
      · rw [if_neg h8]
        by_cases hf : (c : Int) - (S.next : Int) < (jparts b.length : Int)
        · rw [if_pos hf]; exact .inr ⟨by simp, h⟩
        · rw [if_neg hf]
          have hbp : 0 < b.length := List.length_pos_iff.2 hb0
          obtain ⟨T, t1, t2, t3, t4⟩ := h.all
          have hT := t2 ho
          subst hT
          rw [List.append_nil] at t3 t4
          have hvl := jall_len E L 0 0
          obtain ⟨j1, j2, j3⟩ := jw_play (base := base) (f := f) (E := E) hbp (by omega) (V := jall E 0 0 L) (jparts b.length) 0 S (by omega) (by omega) (by rw [t4]; simp [jsecs]) ho
          have hlast : base.length ≤ S.D.lasts := h.lasts.1
          have hlast2 : S.D.lasts ≤ base.length + (jall E 0 0 L).length := by have := h.lasts.2; rw [t4, List.length_append, posFrom_len] at this; exact this
          rcases j3 with ⟨q1, q2, q3, q4, q5⟩ | ⟨q1, q2, q3, q, q4, q5, q6⟩
          · refine .inl ⟨q1, ⟨j1.trans h.size, by rw [q4]; omega, by rw [q3, h.num]; simp, fun x hx => ?_, ⟨by rw [j2]; exact hlast, ?_⟩, ⟨by have := h.synced.1; simp; omega, ?_⟩, [], .inl rfl, fun _ => rfl, ?_, ?_⟩⟩
            · rcases List.mem_append.1 hx with hx | hx
              · exact h.recs x hx
              · simp at hx; subst hx; exact ⟨hbp, by omega⟩
            · rw [j2, q5, List.length_append, posFrom_len, List.length_append]; omega
            · rw [j2, List.take_append_of_le_length h.synced.1]; exact h.synced.2
            · rw [List.append_nil, jall_snoc, List.length_append, jsecs_len, q4]
            · rw [List.append_nil, jall_snoc, q5, h.num, hvl]; simp
          · refine .inr ⟨q1, ⟨j1.trans h.size, by rw [q5]; omega, by rw [q3, h.num], h.recs, ⟨by rw [j2]; exact hlast, ?_⟩, ⟨h.synced.1, by rw [j2]; exact h.synced.2⟩, jsecs E (joff L) L.length b q, .inr ⟨b, q, rfl, q4, hbp, by omega⟩, (fun hc => by rw [q2] at hc; cases hc), ?_, ?_⟩⟩
            · rw [j2, q6, List.length_append, posFrom_len, List.length_append]; omega
            · rw [List.length_append, jsecs_len, q5]
            · rw [q6, h.num, hvl]

/-- what a scan finds behind a power cut -/
theorem PlayI.cut (h : PlayI base size f c E S L sy) (hfor : ∀ i : Nat, i < c → Foreign E ((last base (f + (i : Int))).getD zeros)) (keep : List Bool) :
    ∃ j, sy ≤ j ∧ scanAll (fun i : Nat => (S.D.cut keep).sec (f + (i : Int))) c E = L.take j := by
  obtain ⟨T, t1, t2, t3, t4⟩ := h.all
  obtain ⟨m, hm⟩ : ∃ m, S.D.lasts = base.length + m := ⟨S.D.lasts - base.length, by have := h.lasts.1; omega⟩
  have hmv : m ≤ (jall E 0 0 L ++ T).length := by have := h.lasts.2; rw [t4, List.length_append, posFrom_len] at this; omega
  obtain ⟨K, hK⟩ : ∃ K : Nat → Bool, K = fun j => decide (j < m) || keeps keep (j - m) := ⟨_, rfl⟩
  have hall : (S.D.cut keep).all = base ++ sel f K 0 (jall E 0 0 L ++ T) := by
    show S.D.all.take S.D.lasts ++ kept keep 0 (S.D.all.drop S.D.lasts) = _
    generalize jall E 0 0 L ++ T = V at *
    have hV : V = V.take m ++ V.drop m := (List.take_append_drop m V).symm
    have hl1 : (V.take m).length = m := by rw [List.length_take]; omega
    have hp : posFrom f 0 V = posFrom f 0 (V.take m) ++ posFrom f m (V.drop m) := by
      conv => lhs; rw [hV]
      rw [posFrom_app, hl1, Nat.zero_add]
    have hs : sel f K 0 V = posFrom f 0 (V.take m) ++ kept keep 0 (posFrom f m (V.drop m)) := by
      conv => lhs; rw [hV]
      rw [sel_app, hl1, Nat.zero_add, sel_all f K (V.take m) 0 (fun i _ hi => by rw [hl1] at hi; rw [hK]; simp; omega)]
      have := sel_kept f keep m (V.drop m) 0
      rw [Nat.add_zero] at this
      rw [this, hK]
    rw [t4, hm, hp, ← List.append_assoc, List.take_left' (by rw [List.length_append, posFrom_len, hl1]), List.drop_left' (by rw [List.length_append, posFrom_len, hl1]), hs, List.append_assoc]
  obtain ⟨j, j1, j2⟩ := scan_suffix (s := fun i : Nat => (S.D.cut keep).sec (f + (i : Int))) (base := fun i : Nat => (last base (f + (i : Int))).getD zeros) hfor K L T 0 0 c sy h.recs (by simpa using t1) (by omega) (by rw [← t3]; have := h.next; omega) (fun i _ => by
    show (S.D.cut keep).sec (f + (i : Int)) = _
    unfold Dk.sec
    rw [hall, last_sel, if_pos (Nat.zero_le _), Nat.sub_zero]
    cases (jall E 0 0 L ++ T)[i]? with
    | none => rfl
    | some x =>
      simp only
      split <;> rfl) h.synced.1 (fun i _ hi => by
    have := h.synced.2
    rw [hK]
    simp
    left
    omega)
  exact ⟨j, j1, j2⟩
end

theorem foreign_zeros (E : Int) : Foreign E zeros := by
  intro n r p b h0 h8 hp he
  have h1 := jsec_parts (E := E) (n := n) (r := r) (p := p) h8
  rw [← he] at h1
  have h2 : num16 zeros 18 = 0 := by
    unfold num16 zeros
    rw [List.drop_replicate, List.take_replicate]
    rfl
  have := jparts_pos h0
  omega

end Go.Proofs.Ytkpoladbabhdmaa
