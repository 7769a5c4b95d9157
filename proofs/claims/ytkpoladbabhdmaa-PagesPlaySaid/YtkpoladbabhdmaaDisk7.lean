/- The contract of the disk's Cut: words and plain facts. Conditions: as each says. -/
import Derived.Test.YtkpoladbabhdmaaDisk6
import Derived.Maps.Range
namespace Go.Proofs.Ytkpoladbabhdmaa
open Go.RowKit
open Go.ChangeMaps (setBlock)

/-- v is a slice of bools that read l -/
def BoolsV (w : World) (v : Value) (l : List Bool) : Prop :=
  (Empty v ∧ l = []) ∨
    ∃ g off cap, v = .slice (some ⟨g, off, none⟩) l.length cap ∧ l.length ≤ cap ∧ cap ≤ maxLen ∧ ∀ i b, l[i]? = some b → w.cell? ⟨g, off + i, none⟩ = some (.bool b)

theorem BoolsV.nil (w : World) : BoolsV w (.slice none 0 0) [] := .inl ⟨.nil, rfl⟩

theorem BoolsV.shape {w : World} {v : Value} {l : List Bool} (h : BoolsV w v l) : ∃ a cap, v = .slice a l.length cap ∧ l.length ≤ cap ∧ cap ≤ maxLen := by
  rcases h with ⟨⟨a, cap, rfl, hc⟩, rfl⟩ | ⟨g, off, cap, rfl, h1, h2, _⟩
  · exact ⟨a, cap, rfl, Nat.zero_le _, hc⟩
  · exact ⟨_, cap, rfl, h1, h2⟩

theorem BoolsV.lt {w : World} {v : Value} {l : List Bool} (h : BoolsV w v l) : ∀ g, v.ownBlock = some g → l ≠ [] → g < w.heap.size := by
  intro g hg hne
  rcases h with ⟨_, rfl⟩ | ⟨g', off, cap, rfl, h1, h2, h3⟩
  · exact absurd rfl hne
  · cases hg
    cases l with
    | nil => exact absurd rfl hne
    | cons x l => exact World.block_lt_of_cell? w _ (h3 0 x rfl)

theorem BoolsV.upd {S : List Nat} {w w' : World} {v : Value} {l : List Bool} (h : BoolsV w v l) (hu : Upd S w w') (hs : ∀ g, v.ownBlock = some g → l ≠ [] → g ∉ S) : BoolsV w' v l := by
  have hlt := h.lt
  rcases h with h | ⟨g, off, cap, rfl, h1, h2, h3⟩
  · exact .inl h
  · refine .inr ⟨g, off, cap, rfl, h1, h2, fun i b hi => ?_⟩
    have hne : l ≠ [] := by rintro rfl; simp at hi
    rw [World.cell?_of_block (w := w) (a := ⟨g, off + i, none⟩) (hu.block g (hlt g rfl hne) (hs g rfl hne))]
    exact h3 i b hi

def keeps (keep : List Bool) (i : Nat) : Bool := keep.isEmpty || keep.getD (i % keep.length) false

/-- those of the writes that are kept; the first one has the number i -/
def kept (keep : List Bool) : Nat → List (Int × Bytes) → List (Int × Bytes)
  | _, [] => []
  | i, p :: l => if keeps keep i then p :: kept keep (i + 1) l else kept keep (i + 1) l

theorem kept_snoc (keep : List Bool) (p : Int × Bytes) : ∀ (l : List (Int × Bytes)) (i : Nat), kept keep i (l ++ [p]) = kept keep i l ++ if keeps keep (i + l.length) then [p] else []
  | [], i => by simp only [List.nil_append, kept, List.length_nil, Nat.add_zero]
  | q :: l, i => by
    simp only [List.cons_append, kept, kept_snoc keep p l (i + 1), List.length_cons]
    rw [show i + 1 + l.length = i + (l.length + 1) by omega]
    split <;> simp

theorem kept_mem (keep : List Bool) : ∀ (l : List (Int × Bytes)) (i : Nat) (p : Int × Bytes), p ∈ kept keep i l → p ∈ l
  | [], _, _, h => h
  | q :: l, i, p, h => by
    unfold kept at h
    split at h
    · rcases List.mem_cons.1 h with rfl | h
      · simp
      · exact List.mem_cons_of_mem _ (kept_mem keep l _ p h)
    · exact List.mem_cons_of_mem _ (kept_mem keep l _ p h)

def Dk.cutAll (D : Dk) (keep : List Bool) : List (Int × Bytes) := D.all.take D.lasts ++ kept keep 0 (D.all.drop D.lasts)
def Dk.cut (D : Dk) (keep : List Bool) : Dk := { Dk.new D.size with all := D.cutAll keep, lasts := (D.cutAll keep).length }

theorem Dk.new_size {D : Dk} (h : D.Wf) : (Dk.new D.size).size = D.size := by
  have := h.s0; have := h.s1; simp only [Dk.new]; omega

theorem Dk.cut_wf {D : Dk} (h : D.Wf) (keep : List Bool) : (D.cut keep).Wf := by
  have hn := Dk.new_wf D.size
  refine ⟨hn.s0, hn.s1, hn.f0, hn.f1, Nat.le_refl _, fun p hp => ?_⟩
  have hp : p ∈ D.all.take D.lasts ++ kept keep 0 (D.all.drop D.lasts) := hp
  have hs : (D.cut keep).size = D.size := Dk.new_size h
  rw [hs]
  rcases List.mem_append.1 hp with hp | hp
  · exact h.wr p (List.mem_of_mem_take hp)
  · exact h.wr p (List.mem_of_mem_drop (kept_mem keep _ _ _ hp))

theorem run_range_map {P : Program} {t kt et : TypeId} (ht : P.underlying t = some (.map kt et)) {w : World} {b : Nat} {es : Array MapEntry} {clock : Nat} (hb : w.heap[b]? = some (.map es clock)) :
    (Instr.range t (.map (some b))).run P w = .ok (.pointer (some ⟨w.heap.size, 0, none⟩)) (w.alloc (.mapIter (some b) clock #[] clock)) := by
  simp only [Instr.range, Sem.run_bind, run_underlying ht, Result.andThen, getObj, Sem.run, hb]
  rfl

/-- in the midst of the first loop of a Cut: what has been seen of the map at bl is in the new disk at ob -/
def CutI (w1 : World) (r bl ob on ol : Nat) (Fo : List Nat) (D0 : Dk) (pvo : Value) (es2 : Array MapEntry) (c2 : Nat) (lf : Int → Option Bytes) (seen : Array Nat) (w : World) : Prop :=
  Upd Fo w1 w ∧ w.heap[r]? = some (.mapIter (some bl) c2 seen c2) ∧ w.heap[ob]? = some (.cells (dcells D0 on ol pvo) 125 (0, 0)) ∧
    (∃ esn cn esl cl g, w.heap[on]? = some (.map esn cn) ∧ MOk (BytesO w) esn cn g ∧ w.heap[ol]? = some (.map esl cl) ∧ MOk (BytesO w) esl cl g ∧
      (∀ k l, g k = some l → lf k = some l) ∧ ∀ e ∈ es2.toList, seen.contains e.born = true → ∀ k, e.key = .int .i64 k → g k = lf k) ∧
    w.ownsRow 0 129 2 pvo 0 []

/-- two maps get one more entry, one behind the other, as the model does it -/
theorem two_entries {w : World} {on ol : Nat} {esn esl : Array MapEntry} {cn cl : Nat} {g : Int → Option Bytes} (hn : w.heap[on]? = some (.map esn cn)) (hno : MOk (BytesO w) esn cn g)
    (hl : w.heap[ol]? = some (.map esl cl)) (hlo : MOk (BytesO w) esl cl g) (hne : on ≠ ol) (k : Int) {v : Value} {l : Bytes} (hv : BytesO w v l) :
    ∃ v0 s0 v1 s1 wa wb wc wd, (Instr.mapEntry 116 (.map (some ol)) (.int .i64 k)).run Try.prog w = .ok (.tuple #[v0, .int .i64 s0]) wa ∧
      (Instr.entryStore 116 (.map (some ol)) (.int .i64 s0) v).run Try.prog wa = .ok () wb ∧
      (Instr.mapEntry 116 (.map (some on)) (.int .i64 k)).run Try.prog wb = .ok (.tuple #[v1, .int .i64 s1]) wc ∧
      (Instr.entryStore 116 (.map (some on)) (.int .i64 s1) v).run Try.prog wc = .ok () wd ∧
      (∃ es' c', wd.heap[on]? = some (.map es' c') ∧ MOk (BytesO wd) es' c' (put g k (some l))) ∧ (∃ es' c', wd.heap[ol]? = some (.map es' c') ∧ MOk (BytesO wd) es' c' (put g k (some l))) ∧
      Upd [on, ol] w wd ∧ (∀ x, x ≠ on → x ≠ ol → wd.heap[x]? = w.heap[x]?) ∧ (∀ x, x ≠ on → x ≠ ol → wa.heap[x]? = w.heap[x]? ∧ wb.heap[x]? = w.heap[x]? ∧ wc.heap[x]? = w.heap[x]?) := by
  have hz : ∀ w, (zeroValue 33).run Try.prog w = .ok (.slice none 0 0) w := fun w => by kernel_rfl
  have hltn := lt_of_heap hn
  have hltl := lt_of_heap hl
  obtain ⟨e1, k1, v0, s0, r1, q1⟩ := run_entryAt (P := Try.prog) Try.underlying116 Try.underlying3 hz hl hlo k
  obtain ⟨e2, r2, m2⟩ := q1 (setBlock w ol (.map e1 k1)) v l (heap_setBlock_eq _ _ _ hltl) hv
  have hu1 : Upd [on, ol] w (setBlock w ol (.map e1 k1)) := (Upd.refl _ w).setBlock _ (.inl (by simp)) (.inr (by intro c fz; rw [hl]; simp))
  have hu2 : Upd [on, ol] w (setBlock (setBlock w ol (.map e1 k1)) ol (.map e2 k1)) := hu1.setBlock _ (.inl (by simp)) (.inr (by intro c fz; rw [hl]; simp))
  have hn2 : (setBlock (setBlock w ol (.map e1 k1)) ol (.map e2 k1)).heap[on]? = some (.map esn cn) := by rw [heap_setBlock_ne _ _ _ hne, heap_setBlock_ne _ _ _ hne]; exact hn
  obtain ⟨e3, k3, v1, s1, r3, q3⟩ := run_entryAt (P := Try.prog) Try.underlying116 Try.underlying3 hz hn2 (hno.mono fun v l hv => hv.upd hu2) k
  have hu3 := hu2.setBlock (b := on) (.map e3 k3) (.inl (by simp)) (.inr (by intro c fz; rw [hn]; simp))
  obtain ⟨e4, r4, m4⟩ := q3 (setBlock (setBlock (setBlock w ol (.map e1 k1)) ol (.map e2 k1)) on (.map e3 k3)) v l (heap_setBlock_eq _ _ _ (by rw [size_setBlock, size_setBlock]; exact hltn)) (hv.upd hu2)
  have hu4 := hu3.setBlock (b := on) (.map e4 k3) (.inl (by simp)) (.inr (by intro c fz; rw [hn]; simp))
  refine ⟨v0, s0, v1, s1, _, _, _, _, r1, r2, r3, r4, ⟨e4, k3, heap_setBlock_eq _ _ _ (by simp only [size_setBlock]; exact hltn), ?_⟩, ⟨e2, k1, ?_, m2.mono fun v l hv => hv.upd hu4⟩, hu4, ?_, ?_⟩
  · refine m4.mono fun v l hv => hv.upd (S := [on]) ?_
    refine ((Upd.refl [on] _).setBlock (b := on) _ (.inl (by simp)) (.inr ?_)).setBlock (b := on) _ (.inl (by simp)) (.inr ?_) <;> (intro c fz; rw [hn2]; simp)
  · rw [heap_setBlock_ne _ _ _ (Ne.symm hne), heap_setBlock_ne _ _ _ (Ne.symm hne), heap_setBlock_eq _ _ _ (by rw [size_setBlock]; exact hltl)]
  · intro x h1 h2
    rw [heap_setBlock_ne _ _ _ h1, heap_setBlock_ne _ _ _ h1, heap_setBlock_ne _ _ _ h2, heap_setBlock_ne _ _ _ h2]
  · intro x h1 h2
    refine ⟨heap_setBlock_ne _ _ _ h2, ?_, ?_⟩
    · rw [heap_setBlock_ne _ _ _ h2, heap_setBlock_ne _ _ _ h2]
    · rw [heap_setBlock_ne _ _ _ h1, heap_setBlock_ne _ _ _ h2, heap_setBlock_ne _ _ _ h2]

theorem CutI.step {w1 wr wa w2 : World} {r bl ob on ol : Nat} {Fo : List Nat} {D0 : Dk} {pvo : Value} {es2 : Array MapEntry} {c2 : Nat} {lf : Int → Option Bytes} {seen : Array Nat} {e : MapEntry}
    (hI : CutI w1 r bl ob on ol Fo D0 pvo es2 c2 lf seen wr) (he : e ∈ (leftOf es2 seen).toList) (hal : wa = wr ∨ wa = wr.drew) (hw2 : setBlock wa r (.mapIter (some bl) c2 (seen.push e.born) c2) = w2)
    (hr : w1.heap.size ≤ r) (hF : Fo = ob :: on :: ol :: pvo.ownBlock.toList) (hne : on ≠ ol) (hFl : ∀ x ∈ Fo, x < w1.heap.size) (hM : MOk (BytesO w1) es2 c2 lf) (hbl : w1.heap[bl]? = some (.map es2 c2)) (hblF : bl ∉ Fo) :
    ∃ k l a cap, e.key = .int .i64 k ∧ e.val = .slice a (List.length (α := UInt8) l) cap ∧ (Instr.entry (.pointer (some ⟨r, 0, none⟩))).run Try.prog w2 = .ok (.tuple #[.int .i64 k, .slice a l.length cap]) w2 ∧
      w2.cell? ⟨ob, 1, none⟩ = some (.map (some on)) ∧ w2.cell? ⟨ob, 2, none⟩ = some (.map (some ol)) ∧
      ∃ v0 s0 v1 s1 wa wb wc wd, (Instr.mapEntry 116 (.map (some ol)) (.int .i64 k)).run Try.prog w2.drew = .ok (.tuple #[v0, .int .i64 s0]) wa ∧
        (Instr.entryStore 116 (.map (some ol)) (.int .i64 s0) (.slice a l.length cap)).run Try.prog wa = .ok () wb ∧
        (Instr.mapEntry 116 (.map (some on)) (.int .i64 k)).run Try.prog wb = .ok (.tuple #[v1, .int .i64 s1]) wc ∧
        (Instr.entryStore 116 (.map (some on)) (.int .i64 s1) (.slice a l.length cap)).run Try.prog wc = .ok () wd ∧
        CutI w1 r bl ob on ol Fo D0 pvo es2 c2 lf (seen.push e.born) wd ∧ wd.rangeLeft bl r < wr.rangeLeft bl r := by
  obtain ⟨hU, i1, i2, ⟨esn, cn, esl, cl, g, i3, i4, i5, i6, i7, i8⟩, i9⟩ := hI
  obtain ⟨hel, hes⟩ := mem_left he
  obtain ⟨k, l, hk, hv, hlf⟩ := hM.ent e hel
  obtain ⟨a, cap, hval, _, _⟩ := hv.view.shape
  have hwr1 : Upd [] wr wa ∧ wa.heap.size = wr.heap.size ∧ ∀ x : Nat, wa.heap[x]? = wr.heap[x]? := by
    rcases hal with rfl | rfl
    · exact ⟨Upd.refl _ _, rfl, fun _ => rfl⟩
    · exact ⟨(Upd.refl _ _).drew, rfl, fun _ => rfl⟩
  have hrl := lt_of_heap i1
  have hob : ob < w1.heap.size := hFl ob (by rw [hF]; simp)
  have hon : on < w1.heap.size := hFl on (by rw [hF]; simp)
  have hol : ol < w1.heap.size := hFl ol (by rw [hF]; simp)
  have hbll := lt_of_heap hbl
  have hu12 : Upd [r] wr w2 := by
    rw [← hw2]
    exact (hwr1.1.mono (S' := [r]) (by simp)).setBlock _ (.inl (by simp)) (.inr (by intro c fz; rw [i1]; simp))
  have hother : ∀ x : Nat, x ≠ r → w2.heap[x]? = wr.heap[x]? := by
    intro x hx; rw [← hw2, heap_setBlock_ne _ _ _ hx]; exact hwr1.2.2 x
  have hr2 : w2.heap[r]? = some (.mapIter (some bl) c2 (seen.push e.born) c2) := by rw [← hw2]; exact heap_setBlock_eq _ _ _ (by rw [hwr1.2.1]; exact hrl)
  have hbl2 : w2.heap[bl]? = some (.map es2 c2) := by rw [hother bl (by omega)]; exact hU.kept hbl hblF
  have hob2 : w2.heap[ob]? = some (.cells (dcells D0 on ol pvo) 125 (0, 0)) := by rw [hother ob (by omega)]; exact i2
  have hent := run_entry_at (P := Try.prog) w2 r bl c2 seen es2 c2 e hr2 hbl2 hel hM.bdup
  rw [hk, hval] at hent
  have hn2 : w2.drew.heap[on]? = some (.map esn cn) := (hother on (by omega)).trans i3
  have hl2 : w2.drew.heap[ol]? = some (.map esl cl) := (hother ol (by omega)).trans i5
  obtain ⟨v0, s0, v1, s1, xa, xb, xc, xd, t1, t2, t3, t4, ⟨en, ccn, t5, t6⟩, ⟨el, ccl, t7, t8⟩, t9, t10, _⟩ := two_entries hn2 (i4.mono fun v l hv => hv.upd (hu12.drew)) hl2 (i6.mono fun v l hv => hv.upd (hu12.drew)) hne k ((hv.upd hU).upd hu12.drew)
  rw [hval] at t2 t4
  refine ⟨k, l, a, cap, hk, hval, hent, cell_of_heap hob2 rfl, cell_of_heap hob2 rfl, v0, s0, v1, s1, xa, xb, xc, xd, t1, t2, t3, t4, ⟨?_, ?_, ?_, ⟨en, ccn, el, ccl, put g k (some l), t5, t6, t7, t8, ?_, ?_⟩, ?_⟩, ?_⟩
  · refine ((hU.trans (S' := [r]) hu12.drew (by simpa using Or.inr hr)).trans t9 ?_)
    intro x hx
    simp only [List.mem_cons, List.not_mem_nil, or_false] at hx
    rcases hx with rfl | rfl <;> exact .inl (by rw [hF]; simp)
  · rw [t10 r (by omega) (by omega)]; exact hr2
  · have h1 : ob ≠ on := by rintro rfl; rw [i2] at i3; cases i3
    have h2 : ob ≠ ol := by rintro rfl; rw [i2] at i5; cases i5
    rw [t10 ob h1 h2]; exact hob2
  · intro k' l' hg
    unfold put at hg
    split at hg
    · rename_i hkk; cases hg; rw [hkk]; exact hlf
    · exact i7 k' l' hg
  · intro e' he' hs' k' hk'
    unfold put
    split
    · rename_i hkk; rw [hkk]; exact hlf.symm
    · rename_i hkk
      refine i8 e' he' ?_ k' hk'
      rw [Array.contains_push] at hs'
      simp only [Bool.or_eq_true, beq_iff_eq] at hs'
      rcases hs' with hs' | hs'
      · exact hs'
      · exfalso
        have hb := hM.bdup
        have : e' = e := by
          obtain ⟨i, hi, hie⟩ := List.mem_iff_getElem.1 he'
          obtain ⟨j, hj, hje⟩ := List.mem_iff_getElem.1 hel
          unfold List.Nodup at hb
          rw [List.pairwise_iff_getElem] at hb
          rcases Nat.lt_trichotomy i j with hlt | rfl | hgt
          · exact (hb i j (by simpa using hi) (by simpa using hj) hlt (by simp [hie, hje, hs'])).elim
          · rw [← hie, hje]
          · exact (hb j i (by simpa using hj) (by simpa using hi) hgt (by simp [hie, hje, hs'])).elim
        rw [this, hk] at hk'
        simp at hk'
        exact hkk hk'.symm
  · have hu2 : Upd [r, on, ol] wr xd := (hu12.mono (S' := [r, on, ol]) (by simp)).drew.trans t9 (by intro x hx; simp at hx ⊢; exact .inl (.inr hx))
    refine ownsRow_upd i9 hu2 fun x hx => ?_
    have hxF : x ∈ Fo := by rw [hF]; simp [hx]
    have hxl := hFl x hxF
    simp only [List.mem_cons, List.not_mem_nil, or_false, not_or]
    refine ⟨by omega, ?_, ?_⟩
    · rintro rfl
      rcases i9.2 with ⟨rfl, _⟩ | ⟨g, cap, cur, rfl, _, hgg, _⟩
      · cases hx
      · cases hx; rw [i3] at hgg; simp at hgg
    · rintro rfl
      rcases i9.2 with ⟨rfl, _⟩ | ⟨g, cap, cur, rfl, _, hgg, _⟩
      · cases hx
      · cases hx; rw [i5] at hgg; simp at hgg
  · have hbd : xd.heap[bl]? = some (.map es2 c2) := by
      rw [t10 bl (by rintro rfl; exact hblF (by rw [hF]; simp)) (by rintro rfl; exact hblF (by rw [hF]; simp))]; exact hbl2
    have hrd : xd.heap[r]? = some (.mapIter (some bl) c2 (seen.push e.born) c2) := by rw [t10 r (by omega) (by omega)]; exact hr2
    have hbr : wr.heap[bl]? = some (.map es2 c2) := hU.kept hbl hblF
    unfold World.rangeLeft
    rw [hbd, hrd, hbr, i1]
    exact left_shrinks es2 seen e he

/-- all is seen: the new disk's maps are that map -/
theorem CutI.all {w1 wr : World} {r bl ob on ol : Nat} {Fo : List Nat} {D0 : Dk} {pvo : Value} {es2 : Array MapEntry} {c2 : Nat} {lf : Int → Option Bytes} {seen : Array Nat}
    (hI : CutI w1 r bl ob on ol Fo D0 pvo es2 c2 lf seen wr) (h0 : (leftOf es2 seen).size = 0) (hM : MOk (BytesO w1) es2 c2 lf) :
    ∃ esn cn esl cl, wr.heap[on]? = some (.map esn cn) ∧ MOk (BytesO wr) esn cn lf ∧ wr.heap[ol]? = some (.map esl cl) ∧ MOk (BytesO wr) esl cl lf := by
  obtain ⟨hU, i1, i2, ⟨esn, cn, esl, cl, g, i3, i4, i5, i6, i7, i8⟩, i9⟩ := hI
  have hg : g = lf := by
    funext k
    cases hl : lf k with
    | none =>
      cases hgk : g k with
      | none => rfl
      | some l => rw [i7 k l hgk] at hl; cases hl
    | some l =>
      obtain ⟨e, he, hk⟩ := hM.cov k l hl
      rw [i8 e he (all_seen es2 seen h0 e he) k hk, hl]
  subst hg
  exact ⟨esn, cn, esl, cl, i3, i4, i5, i6⟩

/-- in the midst of the second loop of a Cut -/
def CutJ (w1 : World) (ob on ol : Nat) (Fo : List Nat) (D0 : Dk) (pvo : Value) (l : List (Int × Bytes)) (w : World) : Prop :=
  Upd Fo w1 w ∧ w.heap[ob]? = some (.cells (dcells D0 on ol pvo) 125 (0, 0)) ∧
    (∃ esn cn esl cl, w.heap[on]? = some (.map esn cn) ∧ MOk (BytesO w) esn cn (last l) ∧ w.heap[ol]? = some (.map esl cl) ∧ MOk (BytesO w) esl cl (last l)) ∧
    w.ownsRow 0 129 2 pvo 0 []

theorem CutJ.alloc {w1 wr : World} {ob on ol : Nat} {Fo : List Nat} {D0 : Dk} {pvo : Value} {l : List (Int × Bytes)} (h : CutJ w1 ob on ol Fo D0 pvo l wr) (o : Obj) : CutJ w1 ob on ol Fo D0 pvo l (wr.alloc o) := by
  obtain ⟨hU, i2, ⟨esn, cn, esl, cl, i3, i4, i5, i6⟩, i9⟩ := h
  have hu : Upd [] wr (wr.alloc o) := (Upd.refl _ _).alloc o
  exact ⟨hU.alloc o, hu.kept i2 (by simp), ⟨esn, cn, esl, cl, hu.kept i3 (by simp), i4.mono fun v l hv => hv.upd hu, hu.kept i5 (by simp), i6.mono fun v l hv => hv.upd hu⟩, ownsRow_upd i9 hu (by simp)⟩

theorem CutJ.drew {w1 wr : World} {ob on ol : Nat} {Fo : List Nat} {D0 : Dk} {pvo : Value} {l : List (Int × Bytes)} (h : CutJ w1 ob on ol Fo D0 pvo l wr) : CutJ w1 ob on ol Fo D0 pvo l wr.drew := by
  obtain ⟨hU, i2, ⟨esn, cn, esl, cl, i3, i4, i5, i6⟩, i9⟩ := h
  have hu : Upd [] wr wr.drew := (Upd.refl _ _).drew
  exact ⟨hU.drew, i2, ⟨esn, cn, esl, cl, i3, i4.mono fun v l hv => hv.upd hu, i5, i6.mono fun v l hv => hv.upd hu⟩, i9⟩

theorem CutJ.step {w1 wr : World} {ob on ol : Nat} {Fo : List Nat} {D0 : Dk} {pvo : Value} {l : List (Int × Bytes)} (h : CutJ w1 ob on ol Fo D0 pvo l wr) (hF : Fo = ob :: on :: ol :: pvo.ownBlock.toList) (hne : on ≠ ol)
    (k : Int) {v : Value} {x : Bytes} (hv : BytesO wr v x) :
    ∃ v0 s0 v1 s1 wa wb wc wd, (Instr.mapEntry 116 (.map (some ol)) (.int .i64 k)).run Try.prog wr = .ok (.tuple #[v0, .int .i64 s0]) wa ∧
        (Instr.entryStore 116 (.map (some ol)) (.int .i64 s0) v).run Try.prog wa = .ok () wb ∧
        (Instr.mapEntry 116 (.map (some on)) (.int .i64 k)).run Try.prog wb = .ok (.tuple #[v1, .int .i64 s1]) wc ∧
        (Instr.entryStore 116 (.map (some on)) (.int .i64 s1) v).run Try.prog wc = .ok () wd ∧
        CutJ w1 ob on ol Fo D0 pvo (l ++ [(k, x)]) wd ∧ ∀ x, x ≠ on → x ≠ ol → wa.heap[x]? = wr.heap[x]? ∧ wb.heap[x]? = wr.heap[x]? ∧ wc.heap[x]? = wr.heap[x]? := by
  obtain ⟨hU, i2, ⟨esn, cn, esl, cl, i3, i4, i5, i6⟩, i9⟩ := h
  obtain ⟨v0, s0, v1, s1, xa, xb, xc, xd, t1, t2, t3, t4, ⟨en, ccn, t5, t6⟩, ⟨el, ccl, t7, t8⟩, t9, t10, t11⟩ := two_entries i3 i4 i5 i6 hne k hv
  refine ⟨v0, s0, v1, s1, xa, xb, xc, xd, t1, t2, t3, t4, ⟨?_, ?_, ⟨en, ccn, el, ccl, t5, by rw [last_snoc]; exact t6, t7, by rw [last_snoc]; exact t8⟩, ?_⟩, t11⟩
  · refine hU.trans t9 ?_
    intro x hx
    simp only [List.mem_cons, List.not_mem_nil, or_false] at hx
    rcases hx with rfl | rfl <;> exact .inl (by rw [hF]; simp)
  · have h1 : ob ≠ on := by rintro rfl; rw [i2] at i3; cases i3
    have h2 : ob ≠ ol := by rintro rfl; rw [i2] at i5; cases i5
    rw [t10 ob h1 h2]; exact i2
  · refine ownsRow_upd i9 t9 fun x hx => ?_
    simp only [List.mem_cons, List.not_mem_nil, or_false, not_or]
    refine ⟨?_, ?_⟩
    · rintro rfl
      rcases i9.2 with ⟨rfl, _⟩ | ⟨g, cap, cur, rfl, _, hgg, _⟩
      · cases hx
      · cases hx; rw [i3] at hgg; simp at hgg
    · rintro rfl
      rcases i9.2 with ⟨rfl, _⟩ | ⟨g, cap, cur, rfl, _, hgg, _⟩
      · cases hx
      · cases hx; rw [i5] at hgg; simp at hgg

end Go.Proofs.Ytkpoladbabhdmaa
