/- Maps keyed by int: what a look-up, a store, a delete, a range over one comes to. Conditions: none. -/
import Derived.Test.YtkpoladbabhdmaaBase
namespace Go.Proofs.Ytkpoladbabhdmaa
open Go.RowKit
open Go.ChangeMaps (setBlock)

/-- f with k standing for l -/
def put {α : Type} (f : Int → Option α) (k : Int) (l : Option α) : Int → Option α := fun x => if x = k then l else f x

/-- the entries es read as f, a value by V -/
structure MOk {α : Type} (V : Value → α → Prop) (es : Array MapEntry) (clock : Nat) (f : Int → Option α) : Prop where
  ent : ∀ e ∈ es.toList, ∃ k l, e.key = .int .i64 k ∧ V e.val l ∧ f k = some l
  cov : ∀ k l, f k = some l → ∃ e ∈ es.toList, e.key = .int .i64 k
  kdup : (es.toList.map (·.key)).Nodup
  bdup : (es.toList.map (·.born)).Nodup
  old : ∀ e ∈ es.toList, e.born < clock

section
variable {α : Type} {V : Value → α → Prop} {es : Array MapEntry} {clock : Nat} {f : Int → Option α} {P : Program} {w : World} {b : Nat}

theorem MOk.mono {V' : Value → α → Prop} (h : MOk V es clock f) (hv : ∀ v l, V v l → V' v l) : MOk V' es clock f :=
  ⟨fun e he => let ⟨k, l, h1, h2, h3⟩ := h.ent e he; ⟨k, l, h1, hv _ _ h2, h3⟩, h.cov, h.kdup, h.bdup, h.old⟩

theorem MOk.empty : MOk V #[] 0 (fun _ => none) := ⟨by simp, by simp, by simp, by simp, by simp⟩

theorem findNow_int (k : Int) : ∀ (es : List MapEntry) (i : Nat), (∀ e ∈ es, ∃ n, e.key = .int .i64 n) →
    (Instr.findNow (.int .i64) (.int .i64 k) es i = some none ∧ ∀ e ∈ es, e.key ≠ .int .i64 k) ∨
      ∃ j e, es[j]? = some e ∧ e.key = .int .i64 k ∧ Instr.findNow (.int .i64) (.int .i64 k) es i = some (some (i + j, e.val))
  | [], i, _ => .inl ⟨rfl, by simp⟩
  | e :: es, i, h => by
    obtain ⟨n, hn⟩ := h e (by simp)
    by_cases hk : k = n
    · refine .inr ⟨0, e, rfl, by rw [hn, hk], ?_⟩
      simp [Instr.findNow, hn, Instr.sameNow, hk]
    · have hkn : (k == n) = false := by simpa using hk
      rcases findNow_int k es (i + 1) (fun x hx => h x (by simp [hx])) with ⟨h1, h2⟩ | ⟨j, e', h1, h2, h3⟩
      · refine .inl ⟨?_, ?_⟩
        · simp [Instr.findNow, hn, Instr.sameNow, hkn, h1]
        · intro x hx
          rcases List.mem_cons.1 hx with rfl | hx
          · rw [hn]; simpa using Ne.symm hk
          · exact h2 x hx
      · refine .inr ⟨j + 1, e', by simpa using h1, h2, ?_⟩
        simp [Instr.findNow, hn, Instr.sameNow, hkn, h3]; omega

theorem run_findKey_int {kt : TypeId} (hk : P.underlying kt = some (.int .i64)) (h : MOk V es clock f) (k : Int) (w : World) :
    (f k = none ∧ (∀ e ∈ es.toList, e.key ≠ .int .i64 k) ∧ (Instr.findKey kt (.int .i64 k) es.toList).run P w = .ok none w) ∨
      ∃ (j : Nat) (e : MapEntry) (l : α), es[j]? = some e ∧ e.key = .int .i64 k ∧ f k = some l ∧ V e.val l ∧ (Instr.findKey kt (.int .i64 k) es.toList).run P w = .ok (some (j, e.val)) w := by
  have hkeys : ∀ e ∈ es.toList, ∃ n, e.key = .int .i64 n := fun e he => let ⟨n, _, h1, _⟩ := h.ent e he; ⟨n, h1⟩
  rcases findNow_int k es.toList 0 hkeys with ⟨h1, h2⟩ | ⟨j, e, h1, h2, h3⟩
  · refine .inl ⟨?_, h2, by simp [Instr.findKey, run_underlying hk, h1]⟩
    cases hf : f k with
    | none => rfl
    | some l => obtain ⟨e, he, hek⟩ := h.cov k l hf; exact absurd hek (h2 e he)
  · have hm : e ∈ es.toList := List.mem_of_getElem? h1
    obtain ⟨k', l, g1, g2, g3⟩ := h.ent e hm
    rw [h2] at g1
    simp only [Value.int.injEq, true_and] at g1
    subst g1
    refine .inr ⟨j, e, l, by simpa using h1, h2, g3, g2, by simp [Instr.findKey, run_underlying hk, h3]⟩

theorem run_checkKey_int {kt : TypeId} (hk : P.underlying kt = some (.int .i64)) (em : Bool) (k : Int) (w : World) : (Instr.checkKey em 10000 kt (.int .i64 k)).run P w = .ok () w := by
  rw [show (10000 : Nat) = 9999 + 1 from rfl, Instr.checkKey]
  simp [run_underlying hk]

/-- v, ok := m[k] -/
theorem run_look {t kt et : TypeId} (ht : P.underlying t = some (.map kt et)) (hk : P.underlying kt = some (.int .i64)) {z : Value} (hz : (zeroValue et).run P w = .ok z w)
    (hb : w.heap[b]? = some (.map es clock)) (h : MOk V es clock f) (k : Int) (ok : Bool) :
    (f k = none ∧ (Instr.lookup t (.map (some b)) (.int .i64 k) ok).run P w = .ok (if ok then .tuple #[z, .bool false] else z) w) ∨
      ∃ v l, f k = some l ∧ V v l ∧ (Instr.lookup t (.map (some b)) (.int .i64 k) ok).run P w = .ok (if ok then .tuple #[v, .bool true] else v) w := by
  have hck := run_checkKey_int (P := P) hk es.isEmpty k w
  rcases run_findKey_int (P := P) hk h k w with ⟨h1, h2, h3⟩ | ⟨j, e, l, h1, h2, h3, h4, h5⟩
  · refine .inl ⟨h1, ?_⟩
    simp [Instr.lookup, run_underlying ht, getObj, Sem.run, hb, Result.andThen, hck, h3, hz]
  · refine .inr ⟨e.val, l, h3, h4, ?_⟩
    simp [Instr.lookup, run_underlying ht, getObj, Sem.run, hb, Result.andThen, hck, h5]

theorem getElem_mod {es : Array MapEntry} {g : MapEntry → MapEntry} {j : Nat} {x : MapEntry} (hx : x ∈ (es.modify j g).toList) : (∃ i, i ≠ j ∧ es[i]? = some x) ∨ ∃ y, es[j]? = some y ∧ x = g y := by
  obtain ⟨i, hi⟩ := List.mem_iff_getElem?.1 hx
  rw [Array.getElem?_toList, Array.getElem?_modify] at hi
  split at hi
  · rename_i hij
    subst hij
    cases hj : es[j]? with
    | none => rw [hj] at hi; cases hi
    | some y => rw [hj] at hi; simp at hi; exact .inr ⟨y, rfl, hi.symm⟩
  · rename_i hij
    exact .inl ⟨i, fun h => hij h.symm, hi⟩

theorem map_mod {β : Type} (es : Array MapEntry) (j : Nat) (g : MapEntry → MapEntry) (q : MapEntry → β) (hg : ∀ e, es[j]? = some e → q (g e) = q e) : (es.modify j g).toList.map q = es.toList.map q := by
  apply List.ext_getElem?
  intro i
  simp only [List.getElem?_map, Array.getElem?_toList, Array.getElem?_modify]
  split
  · rename_i hij
    subst hij
    cases hj : es[j]? with
    | none => rfl
    | some y => simp [hg y hj]
  · rfl

/-- an entry that is there gets another value -/
theorem MOk.set (h : MOk V es clock f) {j : Nat} {e : MapEntry} {k : Int} (hj : es[j]? = some e) (hk : e.key = .int .i64 k) {v : Value} {l : α} (hv : V v l) :
    MOk V (es.modify j fun e => { e with key := .int .i64 k, val := v }) clock (put f k (some l)) := by
  have hkm : (es.modify j fun e => { e with key := .int .i64 k, val := v }).toList.map (·.key) = es.toList.map (·.key) :=
    map_mod _ _ _ _ fun y hy => by rw [hj] at hy; cases hy; exact hk.symm
  have hbm : (es.modify j fun e => { e with key := .int .i64 k, val := v }).toList.map (·.born) = es.toList.map (·.born) := map_mod _ _ _ _ fun y hy => rfl
  refine ⟨fun x hx => ?_, fun k' l' hf => ?_, by rw [hkm]; exact h.kdup, by rw [hbm]; exact h.bdup, fun x hx => ?_⟩
  · rcases getElem_mod hx with ⟨i, hi, hix⟩ | ⟨y, hy, rfl⟩
    · obtain ⟨k', l', h1, h2, h3⟩ := h.ent x (by simpa using Array.mem_of_getElem? hix)
      refine ⟨k', l', h1, h2, ?_⟩
      unfold put
      rw [if_neg]
      · exact h3
      · rintro rfl
        have h4 := h.kdup
        unfold List.Nodup at h4
        rw [List.pairwise_iff_getElem] at h4
        obtain ⟨hjl, hje⟩ := Array.getElem?_eq_some_iff.1 hj
        obtain ⟨hil, hie⟩ := Array.getElem?_eq_some_iff.1 hix
        rcases Nat.lt_or_gt_of_ne hi with hlt | hlt
        · exact h4 i j (by simpa using hil) (by simpa using hjl) hlt (by simp [hie, hje, h1, hk])
        · exact h4 j i (by simpa using hjl) (by simpa using hil) hlt (by simp [hie, hje, h1, hk])
    · exact ⟨k, l, rfl, hv, by simp [put]⟩
  · unfold put at hf
    split at hf
    · rename_i hkk
      subst hkk
      have hm : (Value.int .i64 k') ∈ es.toList.map (·.key) := by
        rw [← hk]; exact List.mem_map.2 ⟨e, by simpa using Array.mem_of_getElem? hj, rfl⟩
      rw [← hkm] at hm
      obtain ⟨x, hx, hxk⟩ := List.mem_map.1 hm
      exact ⟨x, hx, hxk⟩
    · obtain ⟨x, hx, hxk⟩ := h.cov k' l' hf
      have hm : (Value.int .i64 k') ∈ es.toList.map (·.key) := List.mem_map.2 ⟨x, hx, hxk⟩
      rw [← hkm] at hm
      obtain ⟨x, hx, hxk⟩ := List.mem_map.1 hm
      exact ⟨x, hx, hxk⟩
  · have hm : x.born ∈ (es.modify j fun e => { e with key := .int .i64 k, val := v }).toList.map (·.born) := List.mem_map.2 ⟨x, hx, rfl⟩
    rw [hbm] at hm
    obtain ⟨y, hy, hyb⟩ := List.mem_map.1 hm
    rw [← hyb]; exact h.old y hy

/-- an entry that is new -/
theorem MOk.push (h : MOk V es clock f) {k : Int} (hk : ∀ e ∈ es.toList, e.key ≠ .int .i64 k) {v : Value} {l : α} (hv : V v l) :
    MOk V (es.push { key := .int .i64 k, val := v, born := clock }) (clock + 1) (put f k (some l)) := by
  refine ⟨fun x hx => ?_, fun k' l' hf => ?_, ?_, ?_, fun x hx => ?_⟩
  · simp only [Array.toList_push, List.mem_append, List.mem_singleton] at hx
    rcases hx with hx | rfl
    · obtain ⟨k', l', h1, h2, h3⟩ := h.ent x hx
      refine ⟨k', l', h1, h2, ?_⟩
      unfold put
      rw [if_neg]
      · exact h3
      · rintro rfl; exact hk x hx h1
    · exact ⟨k, l, rfl, hv, by simp [put]⟩
  · unfold put at hf
    split at hf
    · rename_i hkk
      exact ⟨{ key := .int .i64 k, val := v, born := clock }, by simp, by rw [hkk]⟩
    · obtain ⟨x, hx, hxk⟩ := h.cov k' l' hf
      exact ⟨x, by simp [hx], hxk⟩
  · simp only [Array.toList_push, List.map_append, List.map_cons, List.map_nil]
    refine List.nodup_append.2 ⟨h.kdup, by simp, ?_⟩
    intro a ha b hb
    simp only [List.mem_singleton] at hb
    subst hb
    obtain ⟨x, hx, rfl⟩ := List.mem_map.1 ha
    exact hk x hx
  · simp only [Array.toList_push, List.map_append, List.map_cons, List.map_nil]
    refine List.nodup_append.2 ⟨h.bdup, by simp, ?_⟩
    intro a ha b hb
    simp only [List.mem_singleton] at hb
    subst hb
    obtain ⟨x, hx, rfl⟩ := List.mem_map.1 ha
    exact Nat.ne_of_lt (h.old x hx)
  · simp only [Array.toList_push, List.mem_append, List.mem_singleton] at hx
    rcases hx with hx | rfl
    · exact Nat.lt_succ_of_lt (h.old x hx)
    · exact Nat.lt_succ_self _

theorem keyThatStays_int (k : Int) (w : World) : (Instr.keyThatStays (.int .i64 k) (.int .i64 k)).run P w = .ok (.int .i64 k) w := by
  simp [Instr.keyThatStays, Instr.sameBits]

theorem run_setObj_map {b : Nat} (hb : w.heap[b]? = some (.map es clock)) (o : Obj) : (setObj b o).run P w = .ok () (setBlock w b o) := by
  simp [setObj, Sem.run, hb, setBlock]

/-- m[k] = v -/
theorem run_store {t kt et : TypeId} (ht : P.underlying t = some (.map kt et)) (hk : P.underlying kt = some (.int .i64))
    (hb : w.heap[b]? = some (.map es clock)) (h : MOk V es clock f) (k : Int) {v : Value} {l : α} (hv : V v l) :
    ∃ es' clock', (Instr.mapUpdate t (.map (some b)) (.int .i64 k) v).run P w = .ok () (setBlock w b (.map es' clock')) ∧ MOk V es' clock' (put f k (some l)) := by
  have hck := run_checkKey_int (P := P) hk false k w
  rcases run_findKey_int (P := P) hk h k w with ⟨h1, h2, h3⟩ | ⟨j, e, l', h1, h2, h3, h4, h5⟩
  · refine ⟨_, _, ?_, h.push h2 hv⟩
    simp [Instr.mapUpdate, run_underlying ht, getObj, Sem.run, hb, Result.andThen, hck, h3, run_setObj_map hb]
  · refine ⟨_, _, ?_, h.set h1 h2 hv⟩
    simp [Instr.mapUpdate, run_underlying ht, getObj, Sem.run, hb, Result.andThen, hck, h5, run_setObj_map hb, h1, h2, keyThatStays_int]

/-- the model's 'm[k], .. = ..': the entry is there first, then its value -/
theorem run_entryAt {t kt et : TypeId} (ht : P.underlying t = some (.map kt et)) (hk : P.underlying kt = some (.int .i64)) {z : Value} (hz : ∀ w, (zeroValue et).run P w = .ok z w)
    (hb : w.heap[b]? = some (.map es clock)) (h : MOk V es clock f) (k : Int) :
    ∃ es1 clock1 v0 st, (Instr.mapEntry t (.map (some b)) (.int .i64 k)).run P w = .ok (.tuple #[v0, .int .i64 st]) (setBlock w b (.map es1 clock1)) ∧
      ∀ (w1 : World) (v : Value) (l : α), w1.heap[b]? = some (.map es1 clock1) → V v l →
        ∃ es2, (Instr.entryStore t (.map (some b)) (.int .i64 st) v).run P w1 = .ok () (setBlock w1 b (.map es2 clock1)) ∧ MOk V es2 clock1 (put f k (some l)) := by
  have hck := run_checkKey_int (P := P) hk false k w
  rcases run_findKey_int (P := P) hk h k w with ⟨h1, h2, h3⟩ | ⟨j, e, l', h1, h2, h3, h4, h5⟩
  · refine ⟨es.push { key := .int .i64 k, val := z, born := clock }, clock + 1, z, clock, ?_, fun w1 v l hb1 hv => ⟨es.push { key := .int .i64 k, val := v, born := clock }, ?_, h.push h2 hv⟩⟩
    · simp [Instr.mapEntry, run_underlying ht, getObj, Sem.run, hb, Result.andThen, hck, h3, run_setObj_map hb, hz, goInt]
    · have hf : (es.push { key := .int .i64 k, val := z, born := clock }).findIdx? (fun e => (e.born : Int) == (clock : Int)) = some es.size := by
        rw [Array.findIdx?_push]
        have : es.findIdx? (fun e => (e.born : Int) == (clock : Int)) = none := by
          rw [Array.findIdx?_eq_none_iff]
          intro x hx
          have := h.old x (by simpa using hx)
          simp; omega
        simp [this]
      have hm : (es.push { key := .int .i64 k, val := z, born := clock }).modify es.size (fun e => { e with val := v }) = es.push { key := .int .i64 k, val := v, born := clock } := by
        apply Array.ext_getElem?
        intro i
        simp only [Array.getElem?_modify, Array.getElem?_push]
        split
        · rename_i hi; subst hi; simp
        · rename_i hi; rw [if_neg (Ne.symm hi), if_neg (Ne.symm hi)]
      simp [Instr.entryStore, getObj, Sem.run, hb1, Result.andThen, asInt, asIntOf, hf, run_setObj_map hb1, hm]
  · refine ⟨es.modify j fun e => { e with key := .int .i64 k }, clock, e.val, e.born, ?_, fun w1 v l hb1 hv => ⟨es.modify j fun e => { e with key := .int .i64 k, val := v }, ?_, h.set h1 h2 hv⟩⟩
    · simp [Instr.mapEntry, run_underlying ht, getObj, Sem.run, hb, Result.andThen, hck, h5, run_setObj_map hb, h1, h2, keyThatStays_int, goInt]
    · have hf : (es.modify j fun e => { e with key := .int .i64 k }).findIdx? (fun x => (x.born : Int) == (e.born : Int)) = some j := by
        rw [Array.findIdx?_eq_some_iff_getElem]
        obtain ⟨hjl, hje⟩ := Array.getElem?_eq_some_iff.1 h1
        refine ⟨by simpa using hjl, by simp [Array.getElem_modify, hje], fun i hij => ?_⟩
        have h4 := h.bdup
        unfold List.Nodup at h4
        rw [List.pairwise_iff_getElem] at h4
        have := h4 i j (by simp; omega) (by simpa using hjl) hij
        simp only [List.getElem_map, Array.getElem_toList, hje] at this
        simp only [Array.getElem_modify, if_neg (show ¬ j = i by omega)]
        simp only [beq_iff_eq, Int.ofNat_inj]
        exact this
      have hm : (es.modify j fun e => { e with key := .int .i64 k }).modify j (fun e => { e with val := v }) = es.modify j fun e => { e with key := .int .i64 k, val := v } := by
        apply Array.ext_getElem?
        intro i
        simp only [Array.getElem?_modify]
        split
        · simp [Option.map_map, Function.comp_def]
        · rfl
      simp [Instr.entryStore, getObj, Sem.run, hb1, Result.andThen, asInt, asIntOf, hf, run_setObj_map hb1, hm]

/-- delete(m, k) -/
theorem run_del {t kt et : TypeId} {ats : Array TypeId} (hats : ats[0]? = some t) (ht : P.underlying t = some (.map kt et)) (hk : P.underlying kt = some (.int .i64))
    (hb : w.heap[b]? = some (.map es clock)) (h : MOk V es clock f) (k : Int) (ty : TypeId) :
    ∃ es', (Builtin.delete_ ats ty #[.map (some b), .int .i64 k]).run P w = .ok (.tuple #[]) (setBlock w b (.map es' clock)) ∧ MOk V es' clock (put f k none) ∧
      es'.size = if f k = none then es.size else es.size - 1 := by
  have hck := run_checkKey_int (P := P) hk es.isEmpty k w
  rcases run_findKey_int (P := P) hk h k w with ⟨h1, h2, h3⟩ | ⟨j, e, l', h1, h2, h3, h4, h5⟩
  · refine ⟨es, ?_, ?_, by simp [h1]⟩
    · simp [Builtin.delete_, hats, run_underlying ht, getObj, Sem.run, hb, Result.andThen, hck, h3, run_setObj_map hb]
    · have : put f k none = f := by
        funext x; unfold put; split
        · rename_i hx; rw [hx, h1]
        · rfl
      rw [this]; exact h
  · obtain ⟨hjl, hje⟩ := Array.getElem?_eq_some_iff.1 h1
    have hsub : (es.eraseIdxIfInBounds j).toList.Sublist es.toList := by
      simp only [Array.eraseIdxIfInBounds, hjl, dif_pos, Array.toList_eraseIdx]
      exact List.eraseIdx_sublist _ _
    have hnot : ∀ x ∈ (es.eraseIdxIfInBounds j).toList, x.key ≠ .int .i64 k := by
      intro x hx
      simp only [Array.eraseIdxIfInBounds, hjl, dif_pos, Array.toList_eraseIdx] at hx
      obtain ⟨i, hij, hix⟩ := List.mem_eraseIdx_iff_getElem?.1 hx
      intro hxk
      have h6 := h.kdup
      unfold List.Nodup at h6
      rw [List.pairwise_iff_getElem] at h6
      obtain ⟨hil, hie⟩ := List.getElem?_eq_some_iff.1 hix
      have hil' : i < es.size := by simpa using hil
      have hie' : es[i] = x := by simpa using hie
      rcases Nat.lt_or_gt_of_ne hij with hlt | hlt
      · exact h6 i j (by simpa using hil') (by simpa using hjl) hlt (by simp [hie', hje, hxk, h2])
      · exact h6 j i (by simpa using hjl) (by simpa using hil') hlt (by simp [hie', hje, hxk, h2])
    refine ⟨es.eraseIdxIfInBounds j, ?_, ⟨fun x hx => ?_, fun k' l hf => ?_, h.kdup.sublist (hsub.map _), h.bdup.sublist (hsub.map _), fun x hx => h.old x (hsub.subset hx)⟩, ?_⟩
    · simp [Builtin.delete_, hats, run_underlying ht, getObj, Sem.run, hb, Result.andThen, hck, h5, run_setObj_map hb]
    · obtain ⟨k', l, g1, g2, g3⟩ := h.ent x (hsub.subset hx)
      refine ⟨k', l, g1, g2, ?_⟩
      unfold put
      rw [if_neg]
      · exact g3
      · rintro rfl; exact hnot x hx g1
    · unfold put at hf
      split at hf
      · cases hf
      · rename_i hkk
        obtain ⟨x, hx, hxk⟩ := h.cov k' l hf
        refine ⟨x, ?_, hxk⟩
        simp only [Array.eraseIdxIfInBounds, hjl, dif_pos, Array.toList_eraseIdx]
        rw [List.mem_eraseIdx_iff_getElem?]
        obtain ⟨i, hi⟩ := List.mem_iff_getElem?.1 hx
        refine ⟨i, ?_, hi⟩
        rintro rfl
        rw [Array.getElem?_toList, h1] at hi
        cases hi
        rw [h2] at hxk
        simp at hxk
        exact hkk hxk.symm
    · rw [h3]
      simp [Array.eraseIdxIfInBounds, hjl]

end
end Go.Proofs.Ytkpoladbabhdmaa
