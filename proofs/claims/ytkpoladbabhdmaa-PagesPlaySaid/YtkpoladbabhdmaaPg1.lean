/- Pages in memory: the frames' map, the frames, all side by side. Conditions: none. -/
import Derived.Test.YtkpoladbabhdmaaPg0
import Derived.Test.YtkpoladbabhdmaaMeta5
namespace Go.Proofs.Ytkpoladbabhdmaa
open Go.RowKit
open Go.ChangeMaps (setBlock)

/-! ### lists of things -/

theorem Owns.perm {w0 w : World} {l l' : List Thing} (hp : l.Perm l') : ∀ {A : List Thing}, Owns w0 (A ++ l) w → Owns w0 (A ++ l') w := by
  induction hp with
  | nil => exact fun h => h
  | cons x _ ih =>
    intro A h
    rw [List.append_cons] at h ⊢
    exact ih h
  | swap x y l =>
    intro A h
    refine h.pick (fun i => if i = A.length then A.length + 1 else if i = A.length + 1 then A.length else i) (fun i T hT => ?_) (fun i j _ _ hij => ?_)
    · by_cases h1 : i = A.length
      · subst h1
        rw [List.getElem?_append_right (Nat.le_refl _)] at hT
        rw [if_pos rfl, List.getElem?_append_right (by omega)]
        simpa using hT
      · rw [if_neg h1]
        by_cases h2 : i = A.length + 1
        · subst h2
          rw [List.getElem?_append_right (by omega)] at hT
          rw [if_pos rfl, List.getElem?_append_right (Nat.le_refl _)]
          simpa using hT
        · rw [if_neg h2]
          by_cases h3 : i < A.length
          · rw [List.getElem?_append_left h3] at hT ⊢; exact hT
          · rw [List.getElem?_append_right (by omega)] at hT ⊢
            rw [show i - A.length = (i - A.length - 2) + 2 by omega] at hT ⊢
            simpa using hT
    · split at hij <;> split at hij <;> (try split at hij) <;> (try split at hij) <;> omega
  | trans _ _ ih1 ih2 => exact fun h => ih2 (ih1 h)

theorem Owns.rest {w0 w : World} {A B : List Thing} (h : Owns w0 (A ++ B) w) : Owns w0 A w :=
  h.pick id (fun i T hT => by
    have := (List.getElem?_eq_some_iff.1 hT).1
    show (A ++ B)[i]? = _
    rw [List.getElem?_append_left this]; exact hT) (fun _ _ _ _ h => h)
theorem Owns.behind {w0 w : World} {A B : List Thing} (h : Owns w0 (A ++ B) w) : Owns w0 B w :=
  h.pick (fun i => A.length + i) (fun i T hT => by rw [List.getElem?_append_right (by omega)]; simpa using hT) (fun _ _ _ _ h => by omega)

/-! ### a frame -/

structure Fr where
  blk : Nat
  n : Nat
  v : Value
  b : Bytes
  dirty : Bool

def frameT (f : Fr) : Thing :=
  ⟨fun w F => w.heap[f.blk]? = some (.cells #[.int .i64 (f.n : Int), f.v, .bool f.dirty] 158 (0, 0)) ∧ BytesV w f.v f.b ∧ InBytes w f.v ∧ F = [f.blk],
   fun w F h k hk => by obtain ⟨h1, _, _, rfl⟩ := h; simp at hk; subst hk; exact lt_of_heap h1,
   fun w F h k hk c fz => by obtain ⟨h1, _, _, rfl⟩ := h; simp at hk; subst hk; rw [h1]; simp,
   fun w w' F S h hu hd => by obtain ⟨h1, h2, h3, rfl⟩ := h; exact ⟨hu.kept h1 (hd f.blk (by simp)), h2.keep h3 hu.keeps, h3.keep hu.keeps, rfl⟩⟩

section
variable {w0 w : World} {l : List Thing}

theorem own_frame {f : Fr} (h : Owns w0 l w) (i : Nat) (hi : l[i]? = some (frameT f)) : w.heap[f.blk]? = some (.cells #[.int .i64 (f.n : Int), f.v, .bool f.dirty] 158 (0, 0)) ∧ BytesV w f.v f.b ∧ InBytes w f.v := by
  obtain ⟨F, ⟨h1, h2, h3, _⟩, _⟩ := h.at_ i hi
  exact ⟨h1, h2, h3⟩

theorem own_frame_dirty {f : Fr} (h : Owns w0 l w) (i : Nat) (hi : l[i]? = some (frameT f)) (x : Bool) : Owns w0 (l.set i (frameT { f with dirty := x })) (w.setCell ⟨f.blk, 2, none⟩ (.bool x)) ∧ Keeps w (w.setCell ⟨f.blk, 2, none⟩ (.bool x)) := by
  obtain ⟨F, ⟨h1, h2, h3, rfl⟩, _, ht⟩ := h.at_ i hi
  have hu : Upd [f.blk] w (w.setCell ⟨f.blk, 2, none⟩ (.bool x)) := (Upd.refl _ _).setCell _ (.inl (by simp)) (.inr (by intro c fz; rw [h1]; simp))
  exact ⟨ht _ _ ⟨[f.blk], ⟨heap_setCell_eq _ _ _ _ h1, h2.keep h3 hu.keeps, h3.keep hu.keeps, rfl⟩, hu, fun k hk => .inl hk⟩, hu.keeps⟩

theorem own_frame_new (h : Owns w0 l w) {bv : Value} {b : Bytes} (hb : BytesV w bv b) (hi : InBytes w bv) (n : Nat) (x : Bool) :
    Owns w0 (frameT ⟨w.heap.size, n, bv, b, x⟩ :: l) (w.alloc (.cells #[.int .i64 (n : Int), bv, .bool x] 158)) := by
  have hu := (Upd.refl [] w).alloc (.cells #[.int .i64 (n : Int), bv, .bool x] 158)
  exact h.add ⟨[w.heap.size], ⟨heap_alloc_new' _ _, hb.keep hi hu.keeps, hi.keep hu.keeps, rfl⟩, hu, by simp⟩
end

/-! ### the frames' map -/

def PtrV (v : Value) (b : Nat) : Prop := v = .pointer (some ⟨b, 0, none⟩)
/-- the block of the frame of a page -/
def fmap (fs : List Fr) : Int → Option Nat := fun k => (fs.find? fun f => decide ((f.n : Int) = k)).map (·.blk)

def FNodup (fs : List Fr) : Prop := (fs.map (·.n)).Nodup

theorem fmap_nil : fmap [] = fun _ => none := rfl
theorem fmap_cons (f : Fr) (fs : List Fr) : fmap (f :: fs) = put (fmap fs) (f.n : Int) (some f.blk) := by
  funext k
  unfold fmap put
  simp only [List.find?_cons]
  by_cases h : k = (f.n : Int)
  · rw [if_pos h, decide_eq_true h.symm]; rfl
  · rw [if_neg h, decide_eq_false (fun h' => h h'.symm)]

def fdrop (fs : List Fr) (k : Int) : List Fr := fs.filter fun f => decide ((f.n : Int) ≠ k)
theorem fmap_drop (fs : List Fr) (k : Int) : fmap (fdrop fs k) = put (fmap fs) k none := by
  induction fs with
  | nil => funext x; simp [fdrop, fmap, put]
  | cons f fs ih =>
    have e : fdrop (f :: fs) k = if (f.n : Int) ≠ k then f :: fdrop fs k else fdrop fs k := by
      unfold fdrop; rw [List.filter_cons]; simp
    rw [e]
    by_cases h : (f.n : Int) = k
    · rw [if_neg (by simpa using h), ih, fmap_cons]
      funext x
      unfold put
      by_cases hx : x = k
      · simp [hx]
      · simp [hx, h]
    · rw [if_pos h, fmap_cons, ih, fmap_cons]
      funext x
      unfold put
      by_cases hx : x = k
      · subst hx; rw [if_neg (fun e => h e.symm)]; simp
      · simp [hx]

theorem fmap_none {fs : List Fr} {k : Int} (h : fmap fs k = none) : ∀ f ∈ fs, (f.n : Int) ≠ k := by
  intro f hf he
  unfold fmap at h
  rw [Option.map_eq_none_iff, List.find?_eq_none] at h
  exact h f hf (by simpa using he)
theorem fmap_some {fs : List Fr} {k : Int} {b : Nat} (h : fmap fs k = some b) : ∃ (j : Nat) (f : Fr), fs[j]? = some f ∧ (f.n : Int) = k ∧ f.blk = b ∧ ∀ (i : Nat) (g : Fr), i < j → fs[i]? = some g → (g.n : Int) ≠ k := by
  induction fs with
  | nil => simp [fmap] at h
  | cons f fs ih =>
    rw [fmap_cons] at h
    unfold put at h
    by_cases hk : k = (f.n : Int)
    · rw [if_pos hk] at h
      exact ⟨0, f, rfl, hk.symm, by simpa using h, by omega⟩
    · rw [if_neg hk] at h
      obtain ⟨j, g, h1, h2, h3, h4⟩ := ih h
      refine ⟨j + 1, g, by simpa using h1, h2, h3, fun i x hi hx => ?_⟩
      cases i with
      | zero => simp at hx; subst hx; exact fun e => hk e.symm
      | succ i => exact h4 i x (by omega) (by simpa using hx)

theorem nodup_map_int {l : List Nat} (h : l.Nodup) : (l.map fun n : Nat => Value.int .i64 (n : Int)).Nodup := by
  unfold List.Nodup at h ⊢
  rw [List.pairwise_map]
  refine h.imp (fun {a b} hab he => hab ?_)
  simp only [Value.int.injEq, true_and] at he
  omega

theorem MOk.fsize {es : Array MapEntry} {c : Nat} {fs : List Fr} (h : MOk PtrV es c (fmap fs)) (hn : FNodup fs) : es.size = fs.length := by
  have h1 : (es.toList.map (·.key)).Perm ((fs.map (·.n)).map fun n : Nat => Value.int .i64 (n : Int)) := by
    rw [List.perm_ext_iff_of_nodup h.kdup (nodup_map_int hn)]
    intro v
    constructor
    · intro hv
      obtain ⟨e, he, rfl⟩ := List.mem_map.1 hv
      obtain ⟨k, b, h1, _, h3⟩ := h.ent e he
      obtain ⟨j, f, g1, g2, _, _⟩ := fmap_some h3
      rw [h1, ← g2]
      exact List.mem_map.2 ⟨f.n, List.mem_map.2 ⟨f, List.mem_of_getElem? g1, rfl⟩, rfl⟩
    · intro hv
      obtain ⟨n, hn, rfl⟩ := List.mem_map.1 hv
      obtain ⟨f, hf, rfl⟩ := List.mem_map.1 hn
      cases hb : fmap fs (f.n : Int) with
      | none => exact absurd rfl (fmap_none hb f hf)
      | some b =>
        obtain ⟨e, he, hk⟩ := h.cov _ _ hb
        exact List.mem_map.2 ⟨e, he, hk⟩
  have := h1.length_eq
  simpa using this

def mapT (b : Nat) (fs : List Fr) : Thing :=
  ⟨fun w F => ∃ es c, w.heap[b]? = some (.map es c) ∧ MOk PtrV es c (fmap fs) ∧ F = [b],
   fun w F h k hk => by obtain ⟨es, c, h1, _, rfl⟩ := h; simp at hk; subst hk; exact lt_of_heap h1,
   fun w F h k hk c fz => by obtain ⟨es, c', h1, _, rfl⟩ := h; simp at hk; subst hk; rw [h1]; simp,
   fun w w' F S h hu hd => by obtain ⟨es, c, h1, h2, rfl⟩ := h; exact ⟨es, c, hu.kept h1 (hd b (by simp)), h2, rfl⟩⟩

theorem own_map {w0 w : World} {l : List Thing} {b : Nat} {fs : List Fr} (h : Owns w0 l w) (i : Nat) (hi : l[i]? = some (mapT b fs)) : ∃ es c, w.heap[b]? = some (.map es c) ∧ MOk PtrV es c (fmap fs) := by
  obtain ⟨F, ⟨es, c, h1, h2, _⟩, _⟩ := h.at_ i hi; exact ⟨es, c, h1, h2⟩

theorem own_map_set {w0 w : World} {l : List Thing} {b : Nat} {fs fs' : List Fr} (h : Owns w0 l w) (i : Nat) (hi : l[i]? = some (mapT b fs)) {es : Array MapEntry} {c : Nat} (hm : MOk PtrV es c (fmap fs')) :
    Owns w0 (l.set i (mapT b fs')) (setBlock w b (.map es c)) ∧ Keeps w (setBlock w b (.map es c)) := by
  obtain ⟨F, ⟨es0, c0, h1, h2, rfl⟩, _, ht⟩ := h.at_ i hi
  have hu : Upd [b] w (setBlock w b (.map es c)) := (Upd.refl _ _).setBlock _ (.inl (by simp)) (.inr (by intro c fz; rw [h1]; simp))
  exact ⟨ht _ _ ⟨[b], ⟨es, c, heap_setBlock_eq _ _ _ (lt_of_heap h1), hm, rfl⟩, hu, fun k hk => .inl hk⟩, hu.keeps⟩

/-! ### all of it -/

structure PC where
  p : Nat
  d : Nat
  isb : Nat
  mb : Nat
  from_ : Nat
  pool : Nat

structure PS where
  D : Dk
  is : List Int
  fs : List Fr
  over : Bool

def pgcells (C : PC) (S : PS) (us : Value) : Array Value :=
  #[.pointer (some ⟨C.d, 0, none⟩), .int .i64 (C.from_ : Int), .int .i64 (C.pool : Int), .slice (some ⟨C.isb, 0, none⟩) S.is.length S.is.length, .map (some C.mb), us, .bool S.over]

def usedOf (fs : List Fr) : List Int := fs.map fun f => (f.n : Int)
theorem usedOf_len (fs : List Fr) : (usedOf fs).length = fs.length := by simp [usedOf]

def pth (C : PC) (S : PS) (us : Value) (l : List Thing) : List Thing :=
  row C.p (pgcells C S us) 152 (by decide) :: row C.isb (S.is.map gint).toArray 153 (by decide) :: mapT C.mb S.fs :: intsT us (usedOf S.fs) :: disk C.d S.D :: (S.fs.map frameT ++ l)

/-- what always holds of pages -/
structure PW (C : PC) (S : PS) : Prop where
  nodup : FNodup S.fs
  inis : ∀ f ∈ S.fs, f.n < S.is.length
  blen : ∀ f ∈ S.fs, f.b.length = 1024
  fits : (C.from_ : Int) + 4 * (S.is.length : Int) ≤ S.D.size
  size : S.D.size ≤ 65536
  pool : 1 ≤ C.pool
  full : S.fs.length ≤ C.pool
  few : C.pool ≤ 1000

theorem pth_frame {C : PC} {S : PS} {us : Value} {l : List Thing} {j : Nat} {f : Fr} (h : S.fs[j]? = some f) : (pth C S us l)[5 + j]? = some (frameT f) := by
  have hj := (List.getElem?_eq_some_iff.1 h).1
  rw [show 5 + j = j + 1 + 1 + 1 + 1 + 1 by omega]
  unfold pth
  simp only [List.getElem?_cons_succ]
  rw [List.getElem?_append_left (by simpa using hj), List.getElem?_map, h]
  rfl

end Go.Proofs.Ytkpoladbabhdmaa
