/- DiskLasts: what was synced is there behind every cut, whatever it keeps. Conditions: none. -/
import Derived.Test.YtkpoladbabhdmaaDiskKeeps
namespace Go.Proofs.Ytkpoladbabhdmaa
open Go.ChangeShapes Go.WideShapes Go.ChangeAt Go.RowKit

/-- a row of cells that are no bytes -/
def row (b : Nat) (c : Array Value) (e : TypeId) (he : e ≠ 5) : Thing :=
  ⟨fun w F => w.heap[b]? = some (.cells c e (0, 0)) ∧ F = [b], fun w F h k hk => by obtain ⟨h, rfl⟩ := h; simp at hk; subst hk; exact lt_of_heap h,
    fun w F h k hk c' fz => by obtain ⟨h, rfl⟩ := h; simp at hk; subst hk; rw [h]; simp; intro _ h5; exact absurd h5 he,
    fun w w' F S h hu hd => by obtain ⟨h, rfl⟩ := h; exact ⟨hu.kept h (hd b (by simp)), rfl⟩⟩

section
variable {w0 w : World} {l : List Thing} {b : Nat} {c : Array Value} {e : TypeId} {he : e ≠ 5}

theorem own_row (h : Owns w0 l w) (i : Nat) (hi : l[i]? = some (row b c e he)) : w.heap[b]? = some (.cells c e (0, 0)) := by
  obtain ⟨F, h1, _⟩ := h.at_ i hi; exact h1.1

theorem own_row_set (h : Owns w0 l w) (i : Nat) (hi : l[i]? = some (row b c e he)) (o : Nat) (v : Value) : Owns w0 (l.set i (row b (c.setIfInBounds o v) e he)) (w.setCell ⟨b, o, none⟩ v) := by
  obtain ⟨F, ⟨h1, rfl⟩, _, h3⟩ := h.at_ i hi
  refine h3 _ _ ⟨[b], ⟨heap_setCell_eq _ _ _ _ h1, rfl⟩, (Upd.refl _ _).setCell _ (.inl (by simp)) (.inr ?_), fun k hk => .inl hk⟩
  intro c' fz h5; rw [h1] at h5; simp at h5; exact he h5.2.1

theorem own_row_new (h : Owns w0 l w) (c : Array Value) (e : TypeId) (he : e ≠ 5) : Owns w0 (row w.heap.size c e he :: l) (w.alloc (.cells c e)) :=
  h.add ⟨[w.heap.size], ⟨heap_alloc_new' _ _, rfl⟩, (Upd.refl _ _).alloc _, by simp⟩
end

/-- all is synced; L0: all that was written -/
structure LastS (L0 : List (Int × Bytes)) (D : Dk) : Prop where
  up : Up 8 D
  all : D.all = L0
  lasts : D.lasts = L0.length

/-- m more were written since, all of them at sectors that are marked -/
structure LastI (L0 : List (Int × Bytes)) (bs : List Bool) (m : Nat) (D : Dk) : Prop where
  up : Up 8 D
  lasts : D.lasts = L0.length
  all : ∃ l, D.all = L0 ++ l ∧ l.length = m ∧ ∀ p ∈ l, ∃ j : Nat, p.1 = j ∧ bs[j]? = some true

theorem LastS.read {L0 : List (Int × Bytes)} {D : Dk} (h : LastS L0 D) {n : Int} (h0 : 0 ≤ n) (h1 : n < 8) : LastS L0 (D.read n) := by
  obtain ⟨_, _, a, b, c⟩ := h.up.read h0 h1
  exact ⟨a, by rw [b]; exact h.all, by rw [c]; exact h.lasts⟩

theorem LastI.write {L0 : List (Int × Bytes)} {bs : List Bool} {m : Nat} {D : Dk} (h : LastI L0 bs m D) {n : Nat} {x : Bytes} (h1 : n < 8) (hb : bs.length = 8) (hx : x.length = 256) : LastI L0 (bs.set n true) (m + 1) (D.write n x) := by
  obtain ⟨_, a, b, c⟩ := h.up.write (n := (n : Int)) (by omega) (by omega) hx
  obtain ⟨l, hl, hm, hp⟩ := h.all
  refine ⟨a, by rw [c]; exact h.lasts, l ++ [((n : Int), x)], by rw [b, hl]; simp, by simp [hm], fun p hpm => ?_⟩
  rcases List.mem_append.1 hpm with hpm | hpm
  · obtain ⟨j, hj, hbj⟩ := hp p hpm
    refine ⟨j, hj, ?_⟩
    rw [List.getElem?_set]
    split
    · rename_i hnj; subst hnj; rw [if_pos (by omega)]
    · exact hbj
  · simp only [List.mem_singleton] at hpm
    subst hpm
    exact ⟨n, rfl, by rw [List.getElem?_set, if_pos rfl, if_pos (by omega)]⟩

theorem last_append_aux (n : Int) : ∀ (l : List (Int × Bytes)) (f : Int → Option Bytes), (∀ p ∈ l, p.1 ≠ n) → (l.foldl (fun f p => put f p.1 (some p.2)) f) n = f n
  | [], _, _ => rfl
  | p :: l, f, h => by
    simp only [List.foldl_cons]
    rw [last_append_aux n l _ (fun q hq => h q (by simp [hq]))]
    unfold put
    rw [if_neg (Ne.symm (h p (by simp)))]
theorem last_append (a l : List (Int × Bytes)) (n : Int) (h : ∀ p ∈ l, p.1 ≠ n) : last (a ++ l) n = last a n := by
  unfold last
  rw [List.foldl_append]
  exact last_append_aux n l _ h

theorem LastI.cut {L0 : List (Int × Bytes)} {bs : List Bool} {m : Nat} {D : Dk} (h : LastI L0 bs m D) (keep : List Bool) (n : Nat) (hn : bs[n]? = some false) : last (D.cut keep).all n = last L0 n := by
  obtain ⟨l, hl, hm, hp⟩ := h.all
  have e1 : (D.cut keep).all = L0 ++ kept keep 0 l := by
    show D.all.take D.lasts ++ kept keep 0 (D.all.drop D.lasts) = _
    rw [h.lasts, hl, List.take_left, List.drop_left]
  rw [e1]
  refine last_append _ _ _ fun p hpm => ?_
  obtain ⟨j, hj, hbj⟩ := hp p (kept_mem _ _ _ _ hpm)
  rw [hj]
  intro he
  have : j = n := by omega
  subst this
  rw [hn] at hbj
  cases hbj

theorem LastI.pend {L0 : List (Int × Bytes)} {bs : List Bool} {m : Nat} {D : Dk} (h : LastI L0 bs m D) : D.pend = m := by
  obtain ⟨l, hl, hm, hp⟩ := h.all
  simp only [Dk.pend, h.lasts, hl, List.length_append, hm]; omega
theorem LastI.len {L0 : List (Int × Bytes)} {bs : List Bool} {m : Nat} {D : Dk} (h : LastI L0 bs m D) : D.all.length = L0.length + m := by
  obtain ⟨l, hl, hm, hp⟩ := h.all
  rw [hl, List.length_append, hm]

/-- the sector that an act is at -/
def sec8 (n : Int) : Nat := (IntKind.i64.wrap ((IntKind.u64.wrap n).tmod 8)).toNat
theorem sec8_eq (n : Int) : IntKind.i64.wrap ((IntKind.u64.wrap n).tmod 8) = (sec8 n : Int) := by have := umod n 8 (by omega) (by omega); unfold sec8; omega
theorem sec8_lt (n : Int) : sec8 n < 8 := by have := umod n 8 (by omega) (by omega); unfold sec8; omega

/-- the cells of an act that is read, in any world where nothing old has turned -/
theorem op_cells {w : World} {v : Value} {ops : List Op6} {a : Option Addr} {cap k : Nat} (h : OpsV w v ops) (hv : v = .slice a ops.length cap) (hlt : k < ops.length) :
    ∃ (o : Op6) (g off : Nat), ops[k]? = some o ∧ a = some ⟨g, off, none⟩ ∧ ∀ l w', Owns w l w' →
      w'.cell? ⟨g, off + k * 4, none⟩ = some (.int .i64 o.kind) ∧ w'.cell? ⟨g, off + k * 4 + 1, none⟩ = some (.int .i64 o.n) ∧ w'.cell? ⟨g, off + k * 4 + 2, none⟩ = some (.int .i64 o.m) := by
  obtain ⟨o, ho⟩ : ∃ o, ops[k]? = some o := ⟨ops[k], List.getElem?_eq_getElem hlt⟩
  rcases h with ⟨_, h0⟩ | ⟨g, off, cap', hg, _, _, hat⟩
  · subst h0; simp at hlt
  rw [hv] at hg
  cases hg
  refine ⟨o, g, off, ho, rfl, fun l w' hO => ?_⟩
  obtain ⟨_, _, _, c1, c2, c3, _⟩ := hat k o ho
  have hgl : g < w.heap.size := World.block_lt_of_cell? w _ c1
  have hb := hO.1.block g hgl (by simp)
  exact ⟨(World.cell?_of_block (w := w) (a := ⟨g, _, none⟩) hb).trans c1, (World.cell?_of_block (w := w) (a := ⟨g, _, none⟩) hb).trans c2, (World.cell?_of_block (w := w) (a := ⟨g, _, none⟩) hb).trans c3⟩

def secOf (L : List (Int × Bytes)) (n : Int) : Bytes := (last L n).getD zeros
theorem secOf_len {L : List (Int × Bytes)} {D : Dk} (h : D.Wf) (he : last D.all = last L) (n : Int) : (secOf L n).length = 256 := by
  have := Dk.sec_len h n; unfold Dk.sec at this; unfold secOf; rw [← he]; exact this

theorem cell_of_list {w : World} {b k : Nat} {vs : List Value} {e : TypeId} (h : w.heap[b]? = some (.cells vs.toArray e (0, 0))) {v : Value} (hv : vs[k]? = some v) : w.cell? ⟨b, k, none⟩ = some v := cell_of_heap h (by simpa using hv)

def boolsC (bs : List Bool) : Array Value := (bs.map Value.bool).toArray
theorem boolsC_set (bs : List Bool) (n : Nat) (x : Bool) : (boolsC bs).setIfInBounds n (.bool x) = boolsC (bs.set n x) := by
  simp [boolsC, List.map_set]
theorem boolsC_at {bs : List Bool} {n : Nat} {x : Bool} (h : bs[n]? = some x) : (boolsC bs)[n]? = some (.bool x) := by simp [boolsC, h]

theorem LastI.cutPend {L0 : List (Int × Bytes)} {bs : List Bool} {m : Nat} {D : Dk} (_h : LastI L0 bs m D) (keep : List Bool) : (D.cut keep).pend = 0 := by
  simp [Dk.pend, Dk.cut]

/-- the slices that were read: the first k of the eight -/
def WasOk (S : Int → Bytes) (w : World) (vs : List Value) (k : Nat) : Prop := vs.length = 8 ∧ ∀ j, j < k → ∃ v, vs[j]? = some v ∧ BytesO w v (S j)
theorem WasOk.keep {S : Int → Bytes} {w w' : World} {vs : List Value} {k : Nat} (h : WasOk S w vs k) (hk : Keeps w w') : WasOk S w' vs k :=
  ⟨h.1, fun j hj => let ⟨v, h1, h2⟩ := h.2 j hj; ⟨v, h1, h2.keep hk⟩⟩
theorem WasOk.set {S : Int → Bytes} {w : World} {vs : List Value} {k : Nat} (h : WasOk S w vs k) {v : Value} (hv : BytesO w v (S k)) (hk : k < 8) : WasOk S w (vs.set k v) (k + 1) := by
  refine ⟨by simp [h.1], fun j hj => ?_⟩
  by_cases hjk : k = j
  · subst hjk
    exact ⟨v, by rw [List.getElem?_set, if_pos rfl, if_pos (by rw [h.1]; exact hk)], hv⟩
  · obtain ⟨u, h1, h2⟩ := h.2 j (by omega)
    exact ⟨u, by rw [List.getElem?_set, if_neg hjk]; exact h1, h2⟩

set_option maxRecDepth 100000 in
set_option maxHeartbeats 4000000 in
theorem lasts_walk (w : World) {v1 v2 v3 : Value} {ops more : List Op6} {keep : List Bool} (hops : OpsV w v1 ops) (hmore : OpsV w v2 more) (hkeep : BoolsV w v3 keep) :
    Calls Try.prog 3 #[v1, v2, v3] w (Returns (.bool true) (Below w.heap.size w)) := by
  have hnot : ∀ (x : Bool) (w : World), (Op.unary .not (.bool x)).run Try.prog w = .ok (.bool (!x)) w := fun _ _ => rfl
  obtain ⟨oa, oc, hv1, _, hom⟩ := hops.shape
  obtain ⟨ma, mc, hv2, _, hmm⟩ := hmore.shape
  obtain ⟨ka, kc, hv3, _, hkm⟩ := hkeep.shape
  have hb1 : ops.length ≤ 9223372036854775807 := by unfold maxLen at hom; omega
  have hb2 : more.length ≤ 9223372036854775807 := by unfold maxLen at hmm; omega
  have hb3 : keep.length ≤ 9223372036854775807 := by unfold maxLen at hkm; omega
  have HV1 := Lib.hid hv1
  have HV2 := Lib.hid hv2
  have HO := Lib.hid hops
  have HM := Lib.hid hmore
  rw [hv3] at hkeep
  have HK := Lib.hid hkeep
  rw [hv1, hv2, hv3]
  clear hv1 hv2 hv3 hops hmore hkeep hom hmm hkm
  go_enter Try.func3, Try.ntmps3
  go_wp2_with (fail)
  refine (own_returns (Owns.none w) (awake6_any w)).mono ?_
  rintro e w1 ⟨rfl, hO1, -⟩
  go_wp2_with (fail)
  have hops1 : OpsV w1 (.slice oa ops.length oc) ops := by
    rw [← HV1.out]; exact HO.out.old (Nat.le_refl _) (hO1.1.old (Nat.le_refl _) (by simp))
  have hmore1 : OpsV w1 (.slice ma more.length mc) more := by
    rw [← HV2.out]; exact HM.out.old (Nat.le_refl _) (hO1.1.old (Nat.le_refl _) (by simp))
  refine (few6_any hops1).mono ?_
  rintro e w' ⟨x, rfl, hx, rfl⟩
  clear hops1
  cases x with
  | false =>
    go_wp2_with (fail)
    refine (own_returns hO1 (awake6_any w1)).mono ?_
    rintro e w2 ⟨rfl, hO2, -⟩
    go_wp2_with (fail)
    go_ret
    exact ⟨rfl, hO2.below⟩
  | true =>
    have h60 : ops.length ≤ 60 := hx rfl
    clear hx
    go_wp2_with (fail)
    refine (few6_any hmore1).mono ?_
    rintro e w' ⟨y, rfl, hy, rfl⟩
    clear hmore1
    cases y with
    | false =>
      go_wp2_with (fail)
      refine (own_returns hO1 (awake6_any w1)).mono ?_
      rintro e w2 ⟨rfl, hO2, -⟩
      go_wp2_with (fail)
      go_ret
      exact ⟨rfl, hO2.below⟩
    | true =>
      have m60 : more.length ≤ 60 := hy rfl
      clear hy
      by_cases hkl : 1000 < keep.length
      · go_wp2_with (fail)
        refine (own_returns hO1 (awake6_any w1)).mono ?_
        rintro e w2 ⟨rfl, hO2, -⟩
        go_wp2_with (fail)
        go_ret
        exact ⟨rfl, hO2.below⟩
      go_wp2_with (fail)
      refine (own_new hO1 8).mono ?_
      rintro e w2 ⟨b, rfl, hO2, -⟩
      clear hO1
      have hUp : Up 8 (Dk.new 8) := Up.new (by omega) (by omega)
      go_wp2_with (fail)
      go_loopw [8] (fun i wr => ∃ (k : Nat) (D : Dk), k ≤ ops.length ∧ i = .int .i64 k ∧ Up 8 D ∧ D.all.length = k ∧ Owns w [disk b D] wr) (fun i _ => ops.length - (intOf i).toNat)
      case atStart => exact ⟨0, _, Nat.zero_le _, rfl, hUp, rfl, hO2⟩
      case round =>
        clear hUp hO2
        obtain ⟨k, D, hk, rfl, hUp, hlen, hO⟩ := hrel
        by_cases hlt : k < ops.length
        · obtain ⟨o, g, off, ho, rfl, hcells⟩ := op_cells HO.out HV1.out hlt
          obtain ⟨-, cn, cm⟩ := hcells _ _ hO
          have hbig : D.all.length < Big := by rw [hlen]; unfold Big; omega
          have HS := Lib.hid hcells
          have HA := Lib.hid ho
          have HLN := Lib.hid hlen
          have hOd : Owns w [disk b D] wr.drew := hO.upd (Upd.refl [] _).drew
          clear hcells ho hlen
          go_wp2_with (fail)
          go_region_held3 (fun w' => w'.cell? ⟨g, off + k * 4 + 1, none⟩ = some (.int .i64 o.n) ∧ w'.cell? ⟨g, off + k * 4 + 2, none⟩ = some (.int .i64 o.m)) (first | exact ⟨cn, cm⟩ | exact (HS.out _ _ (by assumption)).2)
            (first | (go_at_call 23; refine (own_bytes hOd (sector6_any _ _)).mono ?_; rintro e w4 ⟨x4, rfl, hb4, hO4, hk4, hf4⟩; obtain ⟨a4, c4, rfl, _, _⟩ := hb4.view.shape) | (go_at_call 22; refine (own_write hO4 0 rfl hb4 hbig).mono ?_; rintro e w5 ⟨rfl, hO5, hk5⟩))
          have hn8 := umod o.n 8 (by omega) (by omega)
          have hO5 : Owns w [disk b (D.write (IntKind.i64.wrap ((IntKind.u64.wrap o.n).tmod 8)) (alike o.m))] w5 := hO5
          obtain ⟨_, u1, u2, _⟩ := hUp.write hn8.1 hn8.2 (alike_len o.m)
          generalize D.write (IntKind.i64.wrap ((IntKind.u64.wrap o.n).tmod 8)) (alike o.m) = D5 at hO5 u1 u2
          have hl5 : D5.all.length = k + 1 := by rw [u2, List.length_append, HLN.out]; rfl
          clear hb4 hO4 hk4 hf4 hk5 hOd hbig hUp hO hn8 cn cm u2
          have HL5 := Lib.hid hl5
          clear hl5
          go_wp2_with (fail)
          go_roundw
          case rel => exact ⟨k + 1, D5, by omega, by go_num, u1, HL5.out, hO5⟩
          case measure => simp [intOf]; omega
        · have hge : ops.length ≤ k := by omega
          have hbig : D.all.length < Big := by rw [hlen]; unfold Big; omega
          have h61 : D.all.length ≤ 60 := by omega
          clear hlt hlen
          go_wp2_with (fail)
          refine (own_sync hO 0 rfl hbig).mono ?_
          obtain ⟨s1, s2, s3, s4⟩ := hUp.sync
          rw [s1]
          rintro e w4 ⟨rfl, hO4, -⟩
          have hO4 : Owns w [disk b D.sync] w4 := hO4
          have hS : LastS D.all D.sync := ⟨s2, s3, s4⟩
          generalize D.sync = D1 at hO4 hS
          generalize D.all = L0 at hS h61
          clear hO hUp s1 s2 s3 s4 hbig hk hge
          have hR0 : Owns w [row w4.heap.size (List.replicate 8 (.slice none 0 0)).toArray 36 (by decide), disk b D1] (w4.alloc (.cells (List.replicate 8 (.slice none 0 0)).toArray 36)) := own_row_new hO4 _ 36 (by decide)
          have hW0 : WasOk (secOf L0) (w4.alloc (.cells (List.replicate 8 (.slice none 0 0)).toArray 36)) (List.replicate 8 (.slice none 0 0)) 0 := ⟨rfl, by omega⟩
          have HR0 := Lib.hid hR0
          have HW0 := Lib.hid hW0
          clear hR0 hW0
          go_wp2_with (fail)
          generalize hbw : w4.heap.size = bw at HR0 ⊢
          clear hbw
          clear hO4
          go_loopw [10] (fun i wr => ∃ (k : Nat) (D : Dk) (vs : List Value), k ≤ 8 ∧ i = .int .i64 k ∧ LastS L0 D ∧ WasOk (secOf L0) wr vs k ∧ Owns w [row bw vs.toArray 36 (by decide), disk b D] wr) (fun i _ => 8 - (intOf i).toNat)
          case atStart => exact ⟨0, D1, _, Nat.zero_le _, rfl, hS, HW0.out, HR0.out⟩
          case round =>
            clear hS
            obtain ⟨k2, D, vs, hk, rfl, hS, hW, hO⟩ := hrel
            by_cases hlt : k2 < 8
            · obtain ⟨r1, r2, _, _, _⟩ := hS.up.read (n := (k2 : Int)) (by omega) (by omega)
              have hS' := hS.read (n := (k2 : Int)) (by omega) (by omega)
              have hsec : D.sec k2 = secOf L0 k2 := by simp [Dk.sec, secOf, hS.all]
              go_wp2_with (fail)
              refine (own_read hO 1 rfl _).mono ?_
              rw [r1, r2, hsec]
              rintro e w5 ⟨v, rfl, hb5, hO5, hk5, -⟩
              have hO5 : Owns w [row bw vs.toArray 36 (by decide), disk b (D.read k2)] w5 := hO5
              have hrow := own_row hO5 0 rfl
              obtain ⟨u, hu⟩ : ∃ u, vs[k2]? = some u := ⟨_, List.getElem?_eq_getElem (by rw [hW.1]; exact hlt)⟩
              have hcu := cell_of_list hrow hu
              have hzu : w5.frozen? ⟨bw, k2, none⟩ = false := free_of_heap hrow
              have hO6 := own_row_set hO5 0 rfl k2 v
              rw [List.setIfInBounds_toArray] at hO6
              have hO6 : Owns w [row bw (vs.set k2 v).toArray 36 (by decide), disk b (D.read k2)] (w5.setCell ⟨bw, k2, none⟩ v) := hO6
              have hKp : Keeps w5 (w5.setCell ⟨bw, k2, none⟩ v) := ((Upd.refl [bw] w5).setCell _ (.inl (by simp)) (.inr (by intro c fz; rw [hrow]; simp))).keeps
              have hW6 := ((hW.keep hk5).keep hKp).set (hb5.keep hKp) hlt
              obtain ⟨va, vc, hv, _, _⟩ := hb5.view.shape
              have HO6 := Lib.hid hO6
              have HW6 := Lib.hid hW6
              clear hO6 hW6 hO5 hrow hb5 hKp hk5 hO hW hu hsec r1 r2
              subst hv
              go_wp2_with (fail)
              go_roundw
              case rel => exact ⟨k2 + 1, _, _, by omega, by go_num, hS', HW6.out, HO6.out⟩
              case measure => simp [intOf]; omega
            · obtain rfl : k2 = 8 := by omega
              have hR1 := own_row_new hO (boolsC (List.replicate 8 false)) 39 (by decide)
              have hW1 : WasOk (secOf L0) (wr.alloc (.cells (boolsC (List.replicate 8 false)) 39)) vs 8 := hW.keep ((Upd.refl [] wr).alloc _).keeps
              have HR1 := Lib.hid hR1
              have HW1 := Lib.hid hW1
              have hI : LastI L0 (List.replicate 8 false) 0 D := ⟨hS.up, hS.lasts, [], by simp [hS.all], rfl, by simp⟩
              clear hR1 hW1 hO hW hS hlt HW0 HR0
              go_wp2_with (fail)
              generalize hba : wr.heap.size = ba at HR1 ⊢
              clear hba
              go_loopw [14] (fun i wr => ∃ (k : Nat) (D : Dk) (bs : List Bool), k ≤ more.length ∧ i = .int .i64 k ∧ LastI L0 bs k D ∧ bs.length = 8 ∧ WasOk (secOf L0) wr vs 8 ∧ Owns w [row ba (boolsC bs) 39 (by decide), row bw vs.toArray 36 (by decide), disk b D] wr) (fun i _ => more.length - (intOf i).toNat)
              case atStart => exact ⟨0, D, _, Nat.zero_le _, rfl, hI, rfl, HW1.out, HR1.out⟩
              case round =>
                clear hI
                obtain ⟨k3, D, bs, hk, rfl, hI, hbs, hW, hO⟩ := hrel
                by_cases hlt : k3 < more.length
                · obtain ⟨o, g, off, ho, rfl, hcells⟩ := op_cells HM.out HV2.out hlt
                  obtain ⟨-, cn, -⟩ := hcells _ _ hO
                  have hX := sec8_eq o.n
                  have h8 := sec8_lt o.n
                  have hrow := own_row hO 0 rfl
                  obtain ⟨y, hy⟩ : ∃ y, bs[sec8 o.n]? = some y := ⟨_, List.getElem?_eq_getElem (by rw [hbs]; exact h8)⟩
                  have hcu : wr.cell? ⟨ba, sec8 o.n, none⟩ = some (.bool y) := cell_of_heap hrow (boolsC_at hy)
                  have hzu : wr.frozen? ⟨ba, sec8 o.n, none⟩ = false := free_of_heap hrow
                  have hO5 := own_row_set hO 0 rfl (sec8 o.n) (.bool true)
                  rw [boolsC_set] at hO5
                  have hO5 : Owns w [row ba (boolsC (bs.set (sec8 o.n) true)) 39 (by decide), row bw vs.toArray 36 (by decide), disk b D] (wr.setCell ⟨ba, sec8 o.n, none⟩ (.bool true)) := hO5
                  have hKp : Keeps wr (wr.setCell ⟨ba, sec8 o.n, none⟩ (.bool true)) := ((Upd.refl [ba] wr).setCell _ (.inl (by simp)) (.inr (by intro c fz; rw [hrow]; simp))).keeps
                  have hW5 := hW.keep hKp
                  obtain ⟨-, -, cm5⟩ := hcells _ _ hO5
                  have hbig : D.all.length < Big := by rw [hI.len]; unfold Big; omega
                  have hI' := hI.write h8 hbs (alike_len o.m)
                  have hbs' : (bs.set (sec8 o.n) true).length = 8 := by simp [hbs]
                  have HBS := Lib.hid hbs'
                  clear hbs' hy hrow hKp hO hW hI hbs ho hcells
                  go_wp2_with (fail)
                  generalize wr.setCell ⟨ba, sec8 o.n, none⟩ (.bool true) = w5 at *
                  refine (own_bytes hO5 (sector6_any _ _)).mono ?_
                  rintro e w6 ⟨v6, rfl, hb6, hO6, hk6, -⟩
                  obtain ⟨a6, c6, hv6, _, _⟩ := hb6.view.shape
                  subst hv6
                  go_wp2_with (fail)
                  refine (own_write hO6 2 rfl hb6 hbig).mono ?_
                  rintro e w7 ⟨rfl, hO7, hk7⟩
                  have hO7 : Owns w [row ba (boolsC (bs.set (sec8 o.n) true)) 39 (by decide), row bw vs.toArray 36 (by decide), disk b (D.write (sec8 o.n) (alike o.m))] w7 := hO7
                  have hW7 := (hW5.keep hk6).keep hk7
                  clear hO5 hO6 hb6 hW5 hk6 hk7 hcu hzu cn cm5
                  go_wp2_with (fail)
                  go_roundw
                  case rel => (repeat apply Exists.intro); exact ⟨⟨k3 + 1, _, _, by omega, by go_num, hI', HBS.out, hW7, hO7⟩, rfl⟩
                  case measure => simp [intOf]; omega
                · have hge : more.length ≤ k3 := by omega
                  have hbig : D.all.length < Big := by rw [hI.len]; unfold Big; omega
                  obtain rfl : k3 = more.length := by omega
                  have hkw : BoolsV wr (.slice ka keep.length kc) keep := HK.out.old (Nat.le_refl _) (hO.1.old (Nat.le_refl _) (by simp))
                  clear hlt hge
                  go_wp2_with (fail)
                  refine (own_cut hO 2 rfl hkw hbig).mono ?_
                  rintro e w5 ⟨x, rfl, hO5, hk5⟩
                  have hW5 := hW.keep hk5
                  have hwf : D.Wf := own_wf hO 2 rfl
                  have hUx : Up 8 (D.cut keep) := hI.up.cut hwf keep
                  have hcp := hI.cutPend keep
                  have hpe := hI.pend
                  have hcut := hI.cut keep
                  have HCP := Lib.hid hcp
                  have HPE := Lib.hid hpe
                  have HCUT := Lib.hid hcut
                  have HBS := Lib.hid hbs
                  clear hcp hpe hcut hbs hI hkw hO hW hk5 HW1 HR1 hbig
                  go_wp2_with (fail)
                  go_loopw [17] (fun i wr => ∃ (k : Nat) (X : Dk), k ≤ 8 ∧ i = .int .i64 k ∧ Up 8 X ∧ X.all = (D.cut keep).all ∧ X.lasts = (D.cut keep).lasts ∧ WasOk (secOf L0) wr vs 8 ∧ Owns w [disk x X, row ba (boolsC bs) 39 (by decide), row bw vs.toArray 36 (by decide), disk b D] wr) (fun i _ => 8 - (intOf i).toNat)
                  case atStart => exact ⟨0, _, Nat.zero_le _, rfl, hUx, rfl, rfl, hW5, hO5⟩
                  case round =>
                    clear hUx hO5 hW5
                    obtain ⟨k4, X, hk, rfl, hUx, hXa, hXl, hW, hO⟩ := hrel
                    by_cases hlt : k4 < 8
                    · obtain ⟨r1, r2, r3, r4, r5⟩ := hUx.read (n := (k4 : Int)) (by omega) (by omega)
                      obtain ⟨y, hy⟩ : ∃ y, bs[k4]? = some y := ⟨_, List.getElem?_eq_getElem (by rw [HBS.out]; exact hlt)⟩
                      obtain ⟨u, hu, hub⟩ := hW.2 k4 hlt
                      have hxa' : (X.read k4).all = (D.cut keep).all := r4.trans hXa
                      have hxl' : (X.read k4).lasts = (D.cut keep).lasts := r5.trans hXl
                      go_wp2_with (fail)
                      refine (own_read hO 0 rfl _).mono ?_
                      rw [r1, r2]
                      rintro e w6 ⟨v6, rfl, hb6, hO6, hk6, -⟩
                      have hO6 : Owns w [disk x (X.read k4), row ba (boolsC bs) 39 (by decide), row bw vs.toArray 36 (by decide), disk b D] w6 := hO6
                      have hW6 := hW.keep hk6
                      have hcb : w6.cell? ⟨ba, k4, none⟩ = some (.bool y) := cell_of_heap (own_row hO6 1 rfl) (boolsC_at hy)
                      obtain ⟨ua, uc, hu2, _, _⟩ := (hub.keep hk6).view.shape
                      have hcw : w6.cell? ⟨bw, k4, none⟩ = some (.slice ua (secOf L0 k4).length uc) := by rw [← hu2]; exact cell_of_list (own_row hO6 2 rfl) hu
                      obtain ⟨va, vc, hv6, _, _⟩ := hb6.view.shape
                      have hubk := hub.keep hk6
                      rw [hu2] at hubk
                      have HXA := Lib.hid hxa'
                      have HXL := Lib.hid hxl'
                      subst hv6
                      cases y with
                      | true =>
                        clear r1 r2 r4 r5 hXa hXl hW hO hu hub hxa' hxl' hy hu2 hubk hb6
                        go_wp2_with (fail)
                        go_roundw
                        case rel => exact ⟨k4 + 1, _, by omega, by go_num, r3, HXA.out, HXL.out, hW6, hO6⟩
                        case measure => simp [intOf]; omega
                      | false =>
                        have hs : decide (X.sec k4 = secOf L0 k4) = true := by
                          rw [decide_eq_true_iff]
                          unfold Dk.sec secOf
                          rw [hXa, HCUT.out k4 hy]
                        have HS := Lib.hid hs
                        clear r1 r2 r4 r5 hXa hXl hW hO hu hub hxa' hxl' hy hu2 hs
                        go_wp2_with (fail)
                        refine (own_returns hO6 (same_any hb6.view hubk.view)).mono ?_
                        rw [HS.out]
                        rintro e w7 ⟨rfl, hO7, hk7⟩
                        have hW7 := hW6.keep hk7
                        clear hO6 hb6 hubk hW6 hcb hcw
                        go_wp2_with (fail)
                        go_roundw
                        case rel => exact ⟨k4 + 1, _, by omega, by go_num, r3, HXA.out, HXL.out, hW7, hO7⟩
                        case measure => simp [intOf]; omega
                    · have hxp : X.pend = 0 := by
                        have := HCP.out; unfold Dk.pend at this ⊢; rw [hXa, hXl]; exact this
                      have HXP := Lib.hid hxp
                      clear hXa hXl hxp hW
                      go_wp2_with (fail)
                      refine (own_pending hO 3 rfl).mono ?_
                      rw [HPE.out]
                      rintro e w' ⟨rfl, rfl⟩
                      go_wp2_with (fail)
                      refine (own_pending hO 0 rfl).mono ?_
                      rw [HXP.out]
                      rintro e w' ⟨rfl, rfl⟩
                      go_wp2_with (fail)
                      go_ret
                      exact ⟨rfl, hO.below⟩

end Go.Proofs.Ytkpoladbabhdmaa
