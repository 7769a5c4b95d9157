/- Slices of ints of our own; slices.Insert at the head, slices.Delete and slices.Index at []int. Conditions: as each says. -/
import Derived.Test.YtkpoladbabhdmaaDiskLasts
import Derived.Shelf.Spec.SlicesInsert
import Derived.Shelf.Spec.SlicesInsertGrow
import Derived.Shelf.Slices.Delete
import Derived.Shelf.Lay
import Derived.Ground.Names2Prog
namespace Go.Proofs

shelf_lay Lays2.n21 Nm2 21 at Try as Try.lays116
shelf_lay Lays2.n23 Nm2 23 at Try as Try.lays118
end Go.Proofs

namespace Go.Proofs.Ytkpoladbabhdmaa
open Go.RowKit
open Go.Sort

def gint (x : Int) : Value := .int .i64 x

theorem heap_setCells {b : Nat} {e : TypeId} {fz : Nat × Nat} : ∀ (vs : List Value) (o : Nat) (w : World) (cur : Array Value), w.heap[b]? = some (.cells cur e fz) →
    ∃ cur' : Array Value, (w.setCells b o vs).heap[b]? = some (.cells cur' e fz) ∧ cur'.size = cur.size ∧ ∀ j, j < cur.size → cur'[j]? = if o ≤ j ∧ j < o + vs.length then vs[j - o]? else cur[j]?
  | [], o, w, cur, h => ⟨cur, h, rfl, fun j _ => by rw [if_neg (by rw [List.length_nil]; omega)]⟩
  | v :: r, o, w, cur, h => by
    obtain ⟨cur', h1, h2, h3⟩ := heap_setCells r (o + 1) (w.setCell ⟨b, o, none⟩ v) _ (heap_setCell_eq w b o v h)
    refine ⟨cur', h1, by rw [h2]; simp, fun j hj => ?_⟩
    rw [h3 j (by simpa using hj)]
    simp only [List.length_cons]
    by_cases hjo : j = o
    · subst hjo
      rw [if_neg (by omega), if_pos (by omega), Array.getElem?_setIfInBounds]
      simp [hj]
    · by_cases h4 : o + 1 ≤ j ∧ j < o + 1 + r.length
      · rw [if_pos h4, if_pos (by omega)]
        rw [show j - o = (j - (o + 1)) + 1 by omega, List.getElem?_cons_succ]
      · rw [if_neg h4, if_neg (by omega), Array.getElem?_setIfInBounds, if_neg (by omega)]

theorem Upd.setCells {S : List Nat} {a : World} {b : Nat} (hb : b ∈ S ∨ a.heap.size ≤ b) (hn : a.heap.size ≤ b ∨ ∀ (c : Array Value) (fz : Nat × Nat), a.heap[b]? ≠ some (Obj.cells c 5 fz)) :
    ∀ (vs : List Value) (o : Nat) (w : World), Upd S a w → Upd S a (World.setCells w b o vs)
  | [], _, _, h => h
  | v :: r, o, _, h => Upd.setCells hb hn r (o + 1) _ (h.setCell v hb hn)

/-- v is a slice of our own of ints that read L -/
def IntsO (w : World) (v : Value) (L : List Int) : Prop := w.ownsRow 0 3 1 v L.length (L.map gint)

theorem IntsO.shape {w : World} {v : Value} {L : List Int} (h : IntsO w v L) : ∃ a cap, v = .slice a L.length cap ∧ L.length ≤ cap ∧ cap ≤ maxLen := ownsRow_shape h

theorem IntsO.upd {S : List Nat} {w w' : World} {v : Value} {L : List Int} (h : IntsO w v L) (hu : Upd S w w') (hs : ∀ k, v.ownBlock = some k → k ∉ S) : IntsO w' v L := ownsRow_upd h hu hs

theorem intsO_of {w : World} {g cap : Nat} {cur : Array Value} {L : List Int} (h : w.heap[g]? = some (.cells cur 3 (0, 0))) (hn : L.length ≤ cap) (hm : cap ≤ maxLen) (hs : cur.size = cap)
    (hc : ∀ (j : Nat) (x : Int), L[j]? = some x → cur[j]? = some (gint x)) : IntsO w (.slice (some ⟨g, 0, none⟩) L.length cap) L := by
  refine ⟨by simp, .inr ⟨g, cap, cur, rfl, Nat.zero_le _, h, hn, hm, by simpa using hs, ?_⟩⟩
  apply List.ext_getElem?
  intro j
  rw [List.getElem?_take, List.getElem?_map]
  split
  · rename_i hj
    have hj' : j < L.length := by simpa using hj
    rw [Array.getElem?_toList, List.getElem?_eq_getElem hj', hc j _ (List.getElem?_eq_getElem hj')]
    rfl
  · rename_i hj
    rw [List.getElem?_eq_none (by simpa using hj)]
    rfl

theorem IntsO.cell {w : World} {g n cap : Nat} {L : List Int} (h : IntsO w (.slice (some ⟨g, 0, none⟩) n cap) L) {k : Nat} {x : Int} (hx : L[k]? = some x) : w.cell? ⟨g, k, none⟩ = some (gint x) := by
  have := World.ownsRow.cells h (g := g) rfl k (gint x) (by rw [List.getElem?_map, hx]; rfl)
  rwa [Addr.add_lit, Nat.zero_add] at this

theorem IntsO.block {w : World} {v : Value} {L : List Int} (h : IntsO w v L) : v = .slice none 0 0 ∧ L = [] ∨ ∃ g cap cur, v = .slice (some ⟨g, 0, none⟩) L.length cap ∧ w.heap[g]? = some (.cells cur 3 (0, 0)) ∧ L.length ≤ cap ∧ cap ≤ maxLen ∧ cur.size = cap ∧
    ∀ (j : Nat) (x : Int), L[j]? = some x → cur[j]? = some (gint x) := by
  rcases h.2 with ⟨rfl, h0⟩ | ⟨g, cap, cur, rfl, _, hgg, hnc, hcm, hcs, htk⟩
  · exact .inl ⟨rfl, List.eq_nil_of_length_eq_zero h0⟩
  · refine .inr ⟨g, cap, cur, rfl, hgg, hnc, hcm, by simpa using hcs, fun j x hj => ?_⟩
    have h1 : (cur.toList.take (L.length * 1))[j]? = some (gint x) := by rw [htk, List.getElem?_map, hj]; rfl
    rw [List.getElem?_take] at h1
    split at h1
    · simpa using h1
    · cases h1

def intsT (v : Value) (L : List Int) : Thing :=
  ⟨fun w F => IntsO w v L ∧ F = v.ownBlock.toList,
   fun w F h k hk => by obtain ⟨h, rfl⟩ := h; exact (World.ownsRow.lt h k (by simpa using hk)).2,
   fun w F h k hk c fz => by
     obtain ⟨h, rfl⟩ := h
     rcases h.block with ⟨rfl, _⟩ | ⟨g, cap, cur, rfl, hg, _⟩
     · simp [Value.ownBlock] at hk
     · simp [Value.ownBlock] at hk; subst hk; rw [hg]; simp,
   fun w w' F S h hu hd => by obtain ⟨h, rfl⟩ := h; exact ⟨h.upd hu (fun k hk => hd k (by simp [hk])), rfl⟩⟩

theorem own_ints {w0 w : World} {l : List Thing} {v : Value} {L : List Int} (h : Owns w0 l w) (i : Nat) (hi : l[i]? = some (intsT v L)) : IntsO w v L := by
  obtain ⟨F, h1, _⟩ := h.at_ i hi; exact h1.1

/-- what an insertion at the head leaves -/
def Inserted (x : Int) (L : List Int) (i : Nat) (w0 : World) (l : List Thing) (w : World) (e : Ending) (w' : World) : Prop :=
  ∃ a c, e = .returned (.slice a (L.length + 1) c) ∧ Owns w0 (l.set i (intsT (.slice a (L.length + 1) c) (x :: L))) w' ∧ Keeps w w'

theorem oneCell_gint (L : List Int) : ∀ v ∈ L.map gint, v.oneCell' = true := by
  intro v hv
  obtain ⟨x, _, rfl⟩ := List.mem_map.1 hv
  rfl

theorem own_insert0 {w0 w : World} {l : List Thing} {v : Value} {L : List Int} (h : Owns w0 l w) (i : Nat) (hi : l[i]? = some (intsT v L)) (hlen : L.length ≤ 1000) {x : Int} {xb : Nat} (hxb : w.heap[xb]? = some (.cells #[gint x] 3 (0, 0)))
    (hxs : v.ownBlock ≠ some xb) : Calls Try.prog 116 #[v, .int .i64 0, .slice (some ⟨xb, 0, none⟩) 1 1] w (Inserted x L i w0 l w) := by
  obtain ⟨F, ⟨ho, hF⟩, hF0, ht⟩ := h.at_ i hi
  have hxc : ∀ (j : Nat) (u : Value), [gint x][j]? = some u → w.cell? ⟨xb, 0 + j, none⟩ = some u := by
    intro j u hu
    match j, hu with
    | 0, hu => simp at hu; subst hu; exact cell_of_heap hxb rfl
    | j + 1, hu => simp at hu
  have h1x : ∀ u ∈ [gint x], u.oneCell' = true := by intro u hu; simp at hu; subst hu; rfl
  have hfin : ∀ (g : Nat) (cap : Nat) (cur : Array Value) (w' : World), Upd F w w' → (g ∈ F ∨ w.heap.size ≤ g) → w'.heap[g]? = some (.cells cur 3 (0, 0)) → L.length + 1 ≤ cap → cap ≤ maxLen → cur.size = cap →
      (∀ (j : Nat) (y : Int), (x :: L)[j]? = some y → cur[j]? = some (gint y)) → Inserted x L i w0 l w (.returned (.slice (some ⟨g, 0, none⟩) (L.length + 1) cap)) w' := by
    intro g cap cur w' hu hg hgg hn hm hs hc
    have hi' : IntsO w' (.slice (some ⟨g, 0, none⟩) (L.length + 1) cap) (x :: L) := intsO_of hgg (by simpa using hn) hm hs hc
    exact ⟨_, _, rfl, ht w' _ ⟨[g], ⟨hi', rfl⟩, hu, fun k hk => by simp at hk; subst hk; exact hg⟩, hu.keeps⟩
  have hnew : ∀ (base : Option Addr) (n c : Nat), n = 0 → L = [] → v = .slice base n c → n ≤ c → c < n + 1 → Calls Try.prog 116 #[v, .int .i64 0, .slice (some ⟨xb, 0, none⟩) 1 1] w (Inserted x L i w0 l w) := by
    intro base n c hn hL hv h1 h2
    subst hn hL hv
    have hcall := Any2.slices_Insert_int_end_grow Try.lays116 base 0 c xb 0 1 1 [] [gint x] w (by omega) h1 h2 (by omega) rfl rfl (fun _ => rfl) (fun a _ j u hu => by simp at hu) hxc h1x
    refine hcall.mono ?_
    rintro e w' ⟨rfl, rfl⟩
    refine hfin _ _ _ _ (((Upd.refl F w).drew).alloc _) (.inr (Nat.le_refl _)) (heap_alloc_new' _ _) (grownCap_ge _ _ _ _) (grownCap_le_maxLen _ _ _ _ (by unfold maxLen; omega)) ?_ ?_
    · generalize hG : grownCap w (0 + 1) c (Try.lays116_ren.t 3) = G
      have hG1 : 0 + 1 ≤ G := by rw [← hG]; exact grownCap_ge _ _ _ _
      rw [Array.size_append, size_zeroCells]
      show 1 + (G - (0 + 1)) * 1 = G
      omega
    · intro j y hj
      match j, hj with
      | 0, hj =>
        simp only [List.getElem?_cons_zero, Option.some.injEq] at hj
        subst hj
        rw [Array.getElem?_append_left (by simp)]
        simp
      | j + 1, hj => simp at hj
  rcases ho.block with ⟨rfl, rfl⟩ | ⟨g, cap, cur, rfl, hg, hn, hm, hs, hc⟩
  · exact hnew none 0 0 rfl rfl rfl (Nat.le_refl _) (by omega)
  · have hgF : g ∈ F := by rw [hF]; simp [Value.ownBlock]
    have hgx : xb ≠ g := by rintro rfl; exact hxs rfl
    have hn5 : ∀ (c : Array Value) (fz : Nat × Nat), w.heap[g]? ≠ some (Obj.cells c 5 fz) := by intro c fz; rw [hg]; simp
    have hcs : ∀ (j : Nat) (u : Value), (L.map gint)[j]? = some u → w.cell? ⟨g, 0 + j, none⟩ = some u := by
      intro j u hu
      rw [List.getElem?_map, Option.map_eq_some_iff] at hu
      obtain ⟨y, hy, rfl⟩ := hu
      rw [Nat.zero_add]; exact cell_of_heap hg (hc j y hy)
    have hmi : (cap : Int) ≤ 9223372036854775807 := by unfold maxLen at hm; omega
    have hsp : ∀ j, j < cap → (w.cell? ⟨g, 0 + j, none⟩).isSome = true := by
      intro j hj
      rw [Nat.zero_add, cell_of_heap hg (Array.getElem?_eq_getElem (by omega))]; rfl
    have hfz : ∀ j, w.frozen? ⟨g, 0 + j, none⟩ = false := fun j => free_of_heap hg
    by_cases h0 : L.length = 0
    · obtain rfl : L = [] := List.eq_nil_of_length_eq_zero h0
      by_cases hr : cap < 0 + 1
      · exact hnew _ 0 cap rfl rfl rfl (Nat.zero_le _) hr
      · have hcall := Any2.slices_Insert_int_end_room Try.lays116 g 0 0 cap xb 0 1 1 [gint x] w (by omega) (by omega) (by omega) rfl (fun j hj => hsp j (by omega)) (fun j _ => hfz j) hxc h1x
        refine hcall.mono ?_
        rintro e w' ⟨rfl, rfl⟩
        obtain ⟨cur', k1, k2, k3⟩ := heap_setCells [gint x] 0 w cur hg
        refine hfin g cap cur' _ (Upd.setCells (.inl hgF) (.inr hn5) _ _ _ (Upd.refl F w)) (.inl hgF) k1 (by simp; omega) hm (by omega) ?_
        intro j y hj
        match j, hj with
        | 0, hj =>
          simp only [List.getElem?_cons_zero, Option.some.injEq] at hj
          subst hj
          rw [k3 0 (by omega)]
          simp
        | j + 1, hj => simp at hj
    · have hpos : 0 < L.length := by omega
      by_cases hr : L.length + 1 ≤ cap
      · have hcall := Any2.slices_Insert_int_shift Try.lays116 g 0 L.length cap 0 xb 0 1 1 (L.map gint) [gint x] w hpos (by omega) hr (by omega) hgx (by simp) rfl hcs (fun j hj => hsp j (by omega)) (fun j _ => hfz j) hxc (oneCell_gint L) h1x
          3 3 1 cap (by simp [World.shape?, hxb]) (by simp [World.shape?, hg, hs]) (by omega) (free_of_heap hxb) (free_of_heap hxb)
        refine hcall.mono ?_
        rintro e w' ⟨rfl, rfl⟩
        obtain ⟨cur1, k1, k2, k3⟩ := heap_setCells ((L.map gint).drop 0) (0 + (0 + 1)) w.drew cur hg
        obtain ⟨cur', q1, q2, q3⟩ := heap_setCells [gint x] (0 + 0) _ cur1 k1
        refine hfin g cap cur' _ (Upd.setCells (.inl hgF) (.inr hn5) _ _ _ (Upd.setCells (.inl hgF) (.inr hn5) _ _ _ (Upd.refl F w).drew)) (.inl hgF) q1 hr hm (by omega) ?_
        intro j y hj
        match j, hj with
        | 0, hj =>
          simp only [List.getElem?_cons_zero, Option.some.injEq] at hj
          subst hj
          rw [q3 0 (by omega)]
          simp
        | j + 1, hj =>
          rw [List.getElem?_cons_succ] at hj
          have hjl : j < L.length := (List.getElem?_eq_some_iff.1 hj).1
          rw [q3 (j + 1) (by omega), if_neg (by simp), k3 (j + 1) (by omega), if_pos (by simp; omega)]
          rw [show j + 1 - (0 + (0 + 1)) = j by omega, List.drop_zero, List.getElem?_map, hj]
          rfl
      · have hcall := Any2.slices_Insert_int_grow Try.lays116 g 0 L.length cap 0 xb 0 1 1 (L.map gint) [gint x] w hpos (by omega) hn (by omega) (by omega) (by simp) rfl hcs hxc (oneCell_gint L) h1x
        refine hcall.mono ?_
        rintro e w' ⟨rfl, rfl⟩
        generalize hG : grownCap w (L.length + 1) cap (Try.lays116_ren.t 3) = G
        have hG1 : L.length + 1 ≤ G := by rw [← hG]; exact grownCap_ge _ _ _ _
        have hG2 : G ≤ maxLen := by rw [← hG]; exact grownCap_le_maxLen _ _ _ _ (by unfold maxLen; omega)
        generalize hA : ((L.map gint).take 0).toArray ++ Builtin.zeroCells (Value.int .i64 0).cells (L.length + 1 - 0) ++ Builtin.zeroCells (Value.int .i64 0).cells (G - (L.length + 1)) = A
        have hAs : A.size = G := by
          rw [← hA, Array.size_append, Array.size_append, size_zeroCells, size_zeroCells]
          show 0 + (L.length + 1 - 0) * 1 + (G - (L.length + 1)) * 1 = G
          omega
        obtain ⟨cur1, k1, k2, k3⟩ := heap_setCells [gint x] 0 (w.alloc (.cells A 3)).drew A (heap_alloc_new' w (.cells A 3))
        obtain ⟨cur', q1, q2, q3⟩ := heap_setCells ((L.map gint).drop 0) (0 + 1) _ cur1 (show ((World.setCells (w.alloc (.cells A 3)).drew w.heap.size 0 [gint x]).drew).heap[w.heap.size]? = _ from k1)
        refine hfin w.heap.size G cur' _ (Upd.setCells (.inr (Nat.le_refl _)) (.inl (Nat.le_refl _)) _ _ _ (Upd.drew (Upd.setCells (.inr (Nat.le_refl _)) (.inl (Nat.le_refl _)) _ _ _ ((Upd.refl F w).alloc (.cells A 3)).drew))) (.inr (Nat.le_refl _)) q1 hG1 hG2 (by omega) ?_
        intro j y hj
        match j, hj with
        | 0, hj =>
          simp only [List.getElem?_cons_zero, Option.some.injEq] at hj
          subst hj
          rw [q3 0 (by omega), if_neg (by omega), k3 0 (by omega)]
          simp
        | j + 1, hj =>
          rw [List.getElem?_cons_succ] at hj
          have hjl : j < L.length := (List.getElem?_eq_some_iff.1 hj).1
          rw [q3 (j + 1) (by omega), if_pos (by simp; omega)]
          rw [show j + 1 - (0 + 1) = j by omega, List.drop_zero, List.getElem?_map, hj]
          rfl

theorem heap_mapBlock {w : World} {b : Nat} {f : Array Value → Array Value} {c : Array Value} {e : TypeId} {fz : Nat × Nat} (h : w.heap[b]? = some (.cells c e fz)) : (mapBlock w b f).heap[b]? = some (.cells (f c) e fz) := by
  simp [mapBlock, Array.getElem?_modify, h, onCells]
theorem heap_mapBlock_ne {w : World} {b k : Nat} {f : Array Value → Array Value} (h : k ≠ b) : (mapBlock w b f).heap[k]? = w.heap[k]? := by
  simp [mapBlock, Array.getElem?_modify, Ne.symm h]

/-- what is left behind a deletion -/
def Deleted (L : List Int) (i : Nat) (w0 : World) (l : List Thing) (w : World) (e : Ending) (w' : World) : Prop :=
  ∃ a c, e = .returned (.slice a L.length c) ∧ Owns w0 (l.set i (intsT (.slice a L.length c) L)) w' ∧ Keeps w w'

theorem own_delete {w0 w : World} {l : List Thing} {v : Value} {L : List Int} (h : Owns w0 l w) (i : Nat) (hi : l[i]? = some (intsT v L)) {k : Nat} (hk : k < L.length) :
    Calls Try.prog 118 #[v, .int .i64 (k : Int), .int .i64 ((k : Int) + 1)] w (Deleted (L.eraseIdx k) i w0 l w) := by
  obtain ⟨F, ⟨ho, hF⟩, hF0, ht⟩ := h.at_ i hi
  rcases ho.block with ⟨rfl, rfl⟩ | ⟨g, cap, cur, rfl, hg, hn, hm, hs, hc⟩
  · simp at hk
  have hgF : g ∈ F := by rw [hF]; simp [Value.ownBlock]
  have hmi : cap ≤ 9223372036854775807 := by unfold maxLen at hm; omega
  have hH : Holds (Value.int .i64) w g 0 L.toArray := by
    intro j hj
    have hj' : j < L.length := by simpa using hj
    refine ⟨?_, free_of_heap hg⟩
    rw [Nat.zero_add]
    have := cell_of_heap hg (hc j _ (List.getElem?_eq_getElem hj'))
    rw [this]
    simp [gint, hj']
  have hcall := Any.slices_Delete_int Try.lays118 g 0 cap k (k + 1) L w hH hn hmi (by omega) (by omega)
  rw [show (((k + 1 : Nat)) : Int) = (k : Int) + 1 by omega] at hcall
  refine hcall.mono ?_
  rintro e w' ⟨rfl, q, rfl⟩
  have hle : (L.eraseIdx k).length = L.length - (k + 1 - k) := by rw [List.length_eraseIdx, if_pos hk]; omega
  have he : L.take k ++ L.drop (k + 1) = L.eraseIdx k := (List.eraseIdx_eq_take_drop_succ L k).symm
  rw [he, ← hle]
  generalize hd : (L.eraseIdx k ++ List.replicate (k + 1 - k) 0).toArray = d
  have hrow : (putRow (Value.int .i64) (Sort.ahead w q) g 0 d).heap[g]? = some (.cells (putCells (Value.int .i64) 0 d cur) 3 (0, 0)) := heap_mapBlock (w := Sort.ahead w q) hg
  have hu : Upd F w (putRow (Value.int .i64) (Sort.ahead w q) g 0 d) := by
    refine Upd.mono (Upd.one (b := g) rfl rfl rfl (by simp [Sort.ahead]) (fun k hk => ?_) (by intro c fz; rw [hg]; simp)) (by intro x hx; simp at hx; subst hx; exact .inl hgF)
    exact heap_mapBlock_ne hk
  have hio : IntsO (putRow (Value.int .i64) (Sort.ahead w q) g 0 d) (.slice (some ⟨g, 0, none⟩) (L.eraseIdx k).length cap) (L.eraseIdx k) := by
    refine intsO_of hrow (by omega) hm (by simp [putCells, hs]) (fun j x hj => ?_)
    have hjl : j < (L.eraseIdx k).length := (List.getElem?_eq_some_iff.1 hj).1
    have hjc : j < cur.size := by omega
    have hdj : d[j]! = x := by
      rw [← hd]
      simp only [List.getElem!_toArray]
      rw [getElem!_pos _ j (by rw [List.length_append]; omega), List.getElem_append_left hjl]
      have := List.getElem?_eq_getElem hjl
      rw [hj] at this
      exact (Option.some.inj this).symm
    have hds : j < d.size := by rw [← hd]; simp; omega
    simp only [putCells, Array.getElem?_mapIdx]
    rw [Array.getElem?_eq_getElem hjc]
    simp only [Option.map_some, Option.some.injEq]
    rw [if_pos (by omega), Nat.sub_zero, hdj]
    rfl
  exact ⟨_, _, rfl, ht _ _ ⟨[g], ⟨hio, rfl⟩, hu, fun k hk => by simp at hk; subst hk; exact .inl hgF⟩, hu.keeps⟩

/-- where x stands in L first -/
def IdxOf (L : List Int) (x r : Int) : Prop := (∃ k : Nat, r = (k : Int) ∧ L[k]? = some x ∧ ∀ j : Nat, j < k → L[j]? ≠ some x) ∨ (r = -1 ∧ ∀ j : Nat, L[j]? ≠ some x)

set_option maxRecDepth 100000 in
set_option maxHeartbeats 1000000 in
theorem index_any {w : World} {g n cap : Nat} {L : List Int} (hn : L.length = n) (hm : n ≤ 9223372036854775807) (hc : ∀ (j : Nat) (y : Int), L[j]? = some y → w.cell? ⟨g, j, none⟩ = some (.int .i64 y)) (x : Int) :
    Calls Try.prog 117 #[.slice (some ⟨g, 0, none⟩) n cap, .int .i64 x] w fun e w' => (∃ r, e = .returned (.int .i64 r) ∧ IdxOf L x r) ∧ w = w' := by
  have HC := Lib.hid hc
  have HN := Lib.hid hn
  clear hc hn
  go_enter Try.func117, Try.ntmps117
  go_wp2_with (fail)
  go_loopw [8] (fun i wr => ∃ k : Nat, k ≤ n ∧ i = .int .i64 (k : Int) ∧ (∀ j : Nat, j < k → L[j]? ≠ some x) ∧ wr = w) (fun i _ => n - (intOf i).toNat)
  case atStart => exact ⟨0, Nat.zero_le _, rfl, by omega, rfl⟩
  case round =>
    obtain ⟨k, hk, rfl, hno, rfl⟩ := hrel
    have HNO := Lib.hid hno
    clear hno
    by_cases hlt : k < n
    · obtain ⟨y, hy⟩ : ∃ y, L[k]? = some y := ⟨L[k]'(by rw [HN.out]; omega), List.getElem?_eq_getElem _⟩
      have hcy := HC.out k y hy
      have HY := Lib.hid hy
      clear hy
      by_cases hxy : x = y
      · subst hxy
        go_wp2_with (fail)
        go_ret
        exact ⟨⟨_, rfl, .inl ⟨k, rfl, HY.out, HNO.out⟩⟩, rfl⟩
      · have hb : (x == y) = false := by rw [beq_eq_false_iff_ne]; exact hxy
        have HXY := Lib.hid hxy
        clear hxy
        go_wp2_with (fail)
        go_roundw
        case rel =>
          refine ⟨k + 1, by omega, by go_num, fun j hj => ?_, trivial⟩
          by_cases hjk : j = k
          · subst hjk; rw [HY.out]; intro h; exact HXY.out (Option.some.inj h).symm
          · exact HNO.out j (by omega)
        case measure => simp only [intOf]; omega
    · obtain rfl : k = n := by omega
      go_wp2_with (fail)
      go_ret
      refine ⟨⟨_, rfl, .inr ⟨rfl, fun j hj => ?_⟩⟩, rfl⟩
      by_cases hjk : j < k
      · exact HNO.out j hjk hj
      · have := (List.getElem?_eq_some_iff.1 hj).1
        rw [HN.out] at this; omega

set_option maxRecDepth 100000 in
set_option maxHeartbeats 1000000 in
theorem index95_any {w : World} {g n cap : Nat} {L : List Int} (hn : L.length = n) (hm : n ≤ 9223372036854775807) (hc : ∀ (j : Nat) (y : Int), L[j]? = some y → w.cell? ⟨g, j, none⟩ = some (.int .i64 y)) (x : Int) :
    Calls Try.prog 95 #[.slice (some ⟨g, 0, none⟩) n cap, .int .i64 x] w fun e w' => (∃ r, e = .returned (.int .i64 r) ∧ IdxOf L x r) ∧ w = w' := by
  have HC := Lib.hid hc
  have HN := Lib.hid hn
  clear hc hn
  go_enter Try.func95, Try.ntmps95
  go_wp2_with (fail)
  go_loopw [8] (fun i wr => ∃ k : Nat, k ≤ n ∧ i = .int .i64 (k : Int) ∧ (∀ j : Nat, j < k → L[j]? ≠ some x) ∧ wr = w) (fun i _ => n - (intOf i).toNat)
  case atStart => exact ⟨0, Nat.zero_le _, rfl, by omega, rfl⟩
  case round =>
    obtain ⟨k, hk, rfl, hno, rfl⟩ := hrel
    have HNO := Lib.hid hno
    clear hno
    by_cases hlt : k < n
    · obtain ⟨y, hy⟩ : ∃ y, L[k]? = some y := ⟨L[k]'(by rw [HN.out]; omega), List.getElem?_eq_getElem _⟩
      have hcy := HC.out k y hy
      have HY := Lib.hid hy
      clear hy
      by_cases hxy : x = y
      · subst hxy
        go_wp2_with (fail)
        go_ret
        exact ⟨⟨_, rfl, .inl ⟨k, rfl, HY.out, HNO.out⟩⟩, rfl⟩
      · have hb : (x == y) = false := by rw [beq_eq_false_iff_ne]; exact hxy
        have HXY := Lib.hid hxy
        clear hxy
        go_wp2_with (fail)
        go_roundw
        case rel =>
          refine ⟨k + 1, by omega, by go_num, fun j hj => ?_, trivial⟩
          by_cases hjk : j = k
          · subst hjk; rw [HY.out]; intro h; exact HXY.out (Option.some.inj h).symm
          · exact HNO.out j (by omega)
        case measure => simp only [intOf]; omega
    · obtain rfl : k = n := by omega
      go_wp2_with (fail)
      go_ret
      refine ⟨⟨_, rfl, .inr ⟨rfl, fun j hj => ?_⟩⟩, rfl⟩
      by_cases hjk : j < k
      · exact HNO.out j hjk hj
      · have := (List.getElem?_eq_some_iff.1 hj).1
        rw [HN.out] at this; omega

end Go.Proofs.Ytkpoladbabhdmaa
