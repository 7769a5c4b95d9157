/- What a function that reads a disk, and gathers bytes, leaves. Conditions: as each says. -/
import Derived.Test.YtkpoladbabhdmaaJrn3
import Derived.Test.YtkpoladbabhdmaaJrec
namespace Go.Proofs.Ytkpoladbabhdmaa
open Go.RowKit

/-- of what was there nothing has turned but the disk's count of reads -/
def Looked (w : World) (d : Nat) (wk : World) : Prop :=
  Upd [d] w wk ∧ ∃ (c : Array Value) (x : Int), w.heap[d]? = some (.cells c 125 (0, 0)) ∧ wk.heap[d]? = some (.cells (c.setIfInBounds 6 (.int .i64 x)) 125 (0, 0))

theorem Looked.lt {w wk : World} {d : Nat} (h : Looked w d wk) : d < w.heap.size := by obtain ⟨_, c, x, h1, _⟩ := h; exact lt_of_heap h1

theorem Looked.upd0 {w wk w' : World} {d : Nat} (h : Looked w d wk) (hu : Upd [] wk w') : Looked w d w' := by
  obtain ⟨h0, c, x, h1, h2⟩ := h
  exact ⟨h0.trans hu (by simp), c, x, h1, hu.kept h2 (by simp)⟩

theorem Looked.other {w wk w' : World} {d g : Nat} (h : Looked w d wk) (hu : Upd [g] wk w') (hg : w.heap.size ≤ g) : Looked w d w' := by
  have hl := h.lt
  obtain ⟨h0, c, x, h1, h2⟩ := h
  exact ⟨h0.trans hu (fun y hy => .inr (by simp at hy; omega)), c, x, h1, hu.kept h2 (by simp; omega)⟩

theorem Looked.trans {w wk w' : World} {d : Nat} (h : Looked w d wk) (k : Looked wk d w') : Looked w d w' := by
  obtain ⟨h0, c, x, h1, h2⟩ := h
  obtain ⟨k0, c', x', k1, k2⟩ := k
  refine ⟨h0.trans k0 (fun y hy => .inl hy), c, x', h1, ?_⟩
  rw [h2] at k1
  cases k1
  rw [k2]
  congr 2
  apply Array.ext_getElem?
  intro i
  simp only [Array.getElem?_setIfInBounds]
  split <;> simp_all

theorem DiskAt.look0 {w : World} {d : Nat} {D : Dk} {F : List Nat} (h : DiskAt w d D F) : Looked w d w := by
  obtain ⟨_, bn, bl, pv, es1, c1, es2, c2, ps, h1, _⟩ := h
  exact ⟨Upd.refl _ w, _, D.a0, h1, h1⟩

theorem DiskAt.look6 {w : World} {d : Nat} {D : Dk} {F : List Nat} (h : DiskAt w d D F) (x : Int) : Looked w d (w.setCell ⟨d, 6, none⟩ (.int .i64 x)) := by
  have hn := h.nobyte d h.self
  obtain ⟨_, bn, bl, pv, es1, c1, es2, c2, ps, h1, _⟩ := h
  exact ⟨(Upd.refl _ w).setCell _ (.inl (by simp)) (.inr hn), _, x, h1, heap_setCell_eq _ _ _ _ h1⟩

theorem DiskAt.looked {w wk : World} {d : Nat} {D : Dk} {F : List Nat} (h : DiskAt w d D F) (k : Looked w d wk) : ∃ x, DiskAt wk d { D with a0 := x } F ∧ Upd F w wk := by
  have hs := h.self
  have hnb := h.nobyte
  obtain ⟨hw, bn, bl, pv, es1, c1, es2, c2, ps, h1, h2, h3, h4, h5, h6, h7, h8, h9, rfl⟩ := h
  obtain ⟨k0, c, x, k1, k2⟩ := k
  rw [h1] at k1
  cases k1
  have hu : Upd (d :: bn :: bl :: pv.ownBlock.toList) w wk := k0.mono (fun y hy => .inl (by simp at hy; simp [hy]))
  have hbn : bn ≠ d := by rintro rfl; rw [h1] at h2; cases h2
  have hbl : bl ≠ d := by rintro rfl; rw [h1] at h4; cases h4
  refine ⟨x, ⟨⟨hw.s0, hw.s1, hw.f0, hw.f1, hw.la, hw.wr⟩, bn, bl, pv, es1, c1, es2, c2, ps, k2, k0.kept h2 (by simpa using hbn), h3.mono fun v l hv => hv.upd k0, k0.kept h4 (by simpa using hbl), h5.mono fun v l hv => hv.upd k0, ?_, fun p hp => (h7 p hp).upd k0, h8, h9, rfl⟩, hu⟩
  refine ownsRow_upd h6 k0 fun y hy hm => ?_
  simp at hm
  subst hm
  rcases h6.2 with ⟨rfl, _⟩ | ⟨g, cap, cur, rfl, _, hg, _⟩
  · cases hy
  · cases hy; rw [h1] at hg; simp at hg

def ReadLook (w : World) (b : Nat) (l : Bytes) (e : Ending) (w' : World) : Prop :=
  ∃ v, e = .returned (.tuple #[v, .int .i64 0]) ∧ BytesO w' v l ∧ Looked w b w' ∧ ∀ g, v.ownBlock = some g → w.heap.size ≤ g

set_option maxRecDepth 100000 in
set_option maxHeartbeats 400000 in
theorem read_look {b : Nat} {w : World} {D : Dk} {F : List Nat} (h : DiskAt w b D F) (hd : D.down = false) {n : Int} (h0 : 0 ≤ n) (h1 : n < D.size) :
    Calls Try.prog 25 #[.pointer (some ⟨b, 0, none⟩), .int .i64 n] w (ReadLook w b (D.sec n)) := by
  have hwf := h.1
  have hlen := Dk.sec_len hwf n
  obtain ⟨bn, bl, pa, pc, hc, -⟩ := h.fields
  go_enter Try.func25, Try.ntmps25
  go_wp2_with (go_at_call 30; refine (down_any h).mono ?_; rintro e w' ⟨rfl, rfl⟩)
  clear hc bn bl pa pc
  obtain ⟨-, -, -, -, -, -, -, -, -, -, hc6, -⟩ := h.fields
  refine (add_any b 6 _ 1 hc6 (h.free 6)).mono ?_
  rintro e w2 ⟨rfl, hw2⟩
  have hT2 : DiskAt w2 b D.read0 F ∧ Upd F w w2 := by
    rw [← hw2]
    exact h.field 6 _ ⟨hwf.s0, hwf.s1, hwf.f0, hwf.f1, hwf.la, hwf.wr⟩ rfl rfl fun _ _ _ => rfl
  have hU2 : Looked w b w2 := by rw [← hw2]; exact h.look6 _
  clear hc6 hw2
  obtain ⟨hD2, -⟩ := hT2
  have hz : ∀ w, (zeroValue 33).run Try.prog w = .ok (.slice none 0 0) w := fun w => by kernel_rfl
  obtain ⟨_, bn, bl, pv, es1, c1, es2, c2, ps, g1, g2, g3, g4, g5, g6, g7, g8, g9, hF⟩ := hD2
  have hc1 : w2.cell? ⟨b, 1, none⟩ = some (.map (some bn)) := cell_of_heap g1 rfl
  have hlook := run_look (P := Try.prog) Try.underlying116 Try.underlying3 (hz w2) g2 g3 n true
  clear g1 g2 g3 g4 g5 g6 g7 g8 g9 hF
  rcases hlook with ⟨hn, hrun⟩ | ⟨v, l, hn, hv, hrun⟩
  · have hs : D.sec n = zeros := by
      have : last D.all n = none := hn
      simp [Dk.sec, this]
    simp only [if_true] at hrun
    have HN := Lib.hid hn
    have HS := Lib.hid hs
    clear hn hs
    have hmk : ∀ w, (Instr.makeSlice 33 (.int .i64 256) (.int .i64 256)).run Try.prog w = .ok (.slice (some ⟨w.heap.size, 0, none⟩) 256 256) (w.alloc (.cells (zeros.map byte).toArray 5)) := fun w => by kernel_rfl
    go_wp2_with (fail)
    go_ret2
    rw [HS.out]
    refine ⟨_, rfl, ?_, hU2.upd0 ((Upd.refl [] w2).alloc _), ?_⟩
    · exact ⟨by simp [zeros], .inr ⟨_, 256, _, rfl, Nat.zero_le _, heap_alloc_new' _ _, by simp [zeros], by unfold maxLen; omega, by simp [zeros], by simp [zeros]⟩⟩
    · intro g hg
      cases hg
      exact hU2.1.size
  · have hs : D.sec n = l := by
      have : last D.all n = some l := hn
      simp [Dk.sec, this]
    simp only [if_true] at hrun
    rw [hs] at hlen
    have HL := Lib.hid hlen
    have HS := Lib.hid hs
    clear hn hs hlen
    go_wp2_with (fail)
    refine (clone_any w2 _ l hv.view (by have := HL.out; rintro rfl; simp at this) (by have := HL.out; omega)).mono ?_
    rintro e w3 ⟨v3, rfl, hb3, hU3, hnew3⟩
    have hfin : ReadLook w b l (.returned (.tuple #[v3, .int .i64 0])) w3 := ⟨v3, rfl, hb3, hU2.upd0 hU3, fun g hg => Nat.le_trans hU2.1.size (hnew3 g hg)⟩
    have HF := Lib.hid hfin
    clear hfin hb3 hU3 hnew3
    go_wp2_with (fail)
    go_ret2
    rw [HS.out]
    exact HF.out


/-- rows of bytes, none of them in the block g -/
def RowsX (w : World) (v : Value) (L : List Bytes) (g : Option Nat) : Prop :=
  ∃ xs : List Value, w.ownsRow 0 33 1 v L.length xs ∧ ∀ (i : Nat) (b : Bytes), L[i]? = some b → ∃ x, xs[i]? = some x ∧ BytesO w x b ∧ x.ownBlock ≠ none ∧ x.ownBlock ≠ g

theorem RowsX.nil (w : World) (g : Option Nat) : RowsX w (.slice none 0 0) [] g := ⟨[], World.ownsRow_nil w 0 33 1, by simp⟩

theorem RowsX.upd {S : List Nat} {w w' : World} {v : Value} {L : List Bytes} {g : Option Nat} (h : RowsX w v L g) (hu : Upd S w w') (hs : ∀ k, v.ownBlock = some k → k ∉ S) : RowsX w' v L g := by
  obtain ⟨xs, h1, h2⟩ := h
  refine ⟨xs, ownsRow_upd h1 hu hs, fun i b hi => ?_⟩
  obtain ⟨x, hx, hb, hn⟩ := h2 i b hi
  exact ⟨x, hx, hb.upd hu, hn⟩

theorem RowsX.rows {w : World} {v : Value} {L : List Bytes} {g : Option Nat} (h : RowsX w v L g) : RowsV w v L := by
  obtain ⟨xs, h1, h2⟩ := h
  rcases h1.2 with ⟨rfl, h0⟩ | ⟨r, cap, cur, rfl, _, hgg, hnc, hcm, hcs, htk⟩
  · exact .inl ⟨.nil, List.eq_nil_of_length_eq_zero h0⟩
  · refine .inr ⟨r, 0, cap, rfl, hnc, hcm, fun i b hi => ?_⟩
    obtain ⟨x, hx, hb, _⟩ := h2 i b hi
    refine ⟨x, ?_, hb.view⟩
    have := World.ownsRow.cells h1 (g := r) rfl i x hx
    rwa [Addr.add_lit] at this

/-- bytes vb and rows va that are gathered by a function that began in the world w -/
structure Loc (w : World) (d : Nat) (wk : World) (vb : Value) (lb : Bytes) (va : Value) (La : List Bytes) : Prop where
  look : Looked w d wk
  bo : BytesO wk vb lb
  bn : ∀ k, vb.ownBlock = some k → w.heap.size ≤ k
  rows : RowsX wk va La vb.ownBlock
  rn : ∀ k, va.ownBlock = some k → w.heap.size ≤ k

section
variable {w wk w' : World} {d : Nat} {vb va : Value} {lb : Bytes} {La : List Bytes}

theorem Loc.start {D : Dk} {F : List Nat} (h : DiskAt w d D F) : Loc w d w (.slice none 0 0) [] (.slice none 0 0) [] :=
  ⟨h.look0, .nil w, (by intro k hk; cases hk), .nil w _, (by intro k hk; cases hk)⟩

theorem Loc.upd0 (h : Loc w d wk vb lb va La) (hu : Upd [] wk w') : Loc w d w' vb lb va La :=
  ⟨h.look.upd0 hu, h.bo.upd hu, h.bn, h.rows.upd hu (by simp), h.rn⟩

theorem Loc.read (h : Loc w d wk vb lb va La) (hl : Looked wk d w') : Loc w d w' vb lb va La :=
  ⟨h.look.trans hl, h.bo.upd hl.1, h.bn, h.rows.upd hl.1 (fun k hk => by have := h.rn k hk; have := h.look.lt; simp; omega), h.rn⟩

/-- bytes are appended to those gathered; s, which lies elsewhere, stays -/
theorem Loc.app (h : Loc w d wk vb lb va La) {x : Value} {m : Bytes} (hx : BytesV wk x m) (ty : TypeId) (hn : lb.length + m.length ≤ 100000000) {s : Value} {ls : Bytes} (hs : BytesO wk s ls) (hsn : s.ownBlock ≠ none) (hsb : s.ownBlock ≠ vb.ownBlock) :
    ∃ a' c' w', (Builtin.append_ #[33, 33] ty #[vb, x]).run Try.prog wk = .ok (.slice a' (lb.length + m.length) c') w' ∧ Loc w d w' (.slice a' (lb.length + m.length) c') (lb ++ m) va La ∧ BytesO w' s ls ∧ s.ownBlock ≠ (Value.slice a' (lb.length + m.length) c').ownBlock := by
  obtain ⟨v', w', hr, hb, hg, hm⟩ := run_append_any wk h.bo hx ty hn
  obtain ⟨a', c', hv', _, _⟩ := hb.view.shape
  rw [List.length_append] at hv'
  subst hv'
  -- what lies elsewhere stays
  have hsame : ∀ {y : Value} {ly : Bytes}, BytesO wk y ly → y.ownBlock ≠ none → y.ownBlock ≠ vb.ownBlock → BytesO w' y ly ∧ y.ownBlock ≠ (Value.slice a' (lb.length + m.length) c').ownBlock := by
    intro y ly hy hyn hyb
    have hlt : ∀ k, y.ownBlock = some k → k < wk.heap.size := fun k hk => (World.ownsRow.lt hy k hk).2
    refine ⟨ownsRow_same hy fun k hk => hg.block k (hlt k hk) (fun e => hyb (hk.trans e)), ?_⟩
    rcases hm with hm | ⟨r, hm, hr⟩
    · rw [hm]; exact hyb
    · rw [hm]
      intro e
      have := hlt r e
      omega
  have hu : Upd [d] w w' := h.look.1.grown hg (fun k hk => .inr (h.bn k hk)) (fun k hk => .inl (h.bn k hk))
  have hdl := h.look.lt
  refine ⟨a', c', w', hr, ⟨⟨hu, ?_⟩, hb, fun k hk => ?_, ?_, h.rn⟩, hsame hs hsn hsb⟩
  · obtain ⟨_, c, z, h1, h2⟩ := h.look
    refine ⟨c, z, h1, ?_⟩
    rw [hg.block d (Nat.lt_of_lt_of_le hdl h.look.1.size) (fun e => by have := h.bn d e.symm; omega)]
    exact h2
  · rcases hm with hm | ⟨r, hm, hr⟩
    · rw [hm] at hk; exact h.bn k hk
    · rw [hm] at hk; cases hk; have := h.look.1.size; omega
  · obtain ⟨xs, h1, h2⟩ := h.rows
    refine ⟨xs, ownsRow_same h1 fun k hk => hg.block k (h1.lt k hk).2 (fun e => ?_), fun i b hi => ?_⟩
    · rcases h1.2 with ⟨rfl, _⟩ | ⟨r, cap, cur, rfl, _, hgg, _⟩
      · cases hk
      · cases hk
        rcases h.bo.2 with ⟨he, _⟩ | ⟨r', cap', cur', he, _, hgg', _⟩
        · rw [he] at e; cases e
        · rw [he] at e; cases e; rw [hgg] at hgg'; simp at hgg'
    · obtain ⟨y, hy, hyb, hn1, hn2⟩ := h2 i b hi
      obtain ⟨q1, q2⟩ := hsame hyb hn1 hn2
      exact ⟨y, hy, q1, hn1, q2⟩

/-- a row is appended to those gathered -/
theorem Loc.push (h : Loc w d wk vb lb va La) {s : Value} {ls : Bytes} (hs : BytesO wk s ls) (hsn : s.ownBlock ≠ none) (hsb : s.ownBlock ≠ vb.ownBlock) (hlen : La.length ≤ 1000000) (ty : TypeId) :
    ∃ a' c' w', Pushes va s (La.length + 1) ty a' c' wk w' ∧ Loc w d w' vb lb (.slice a' (La.length + 1) c') (La ++ [ls]) := by
  have hone : ∀ u ∈ [s], u.oneCell' = true := by
    intro u hu
    simp at hu; subst hu
    exact hs.oneCell
  have hu1 := (Upd.refl [] wk).alloc (.cells #[s] 33)
  have h1 := h.upd0 hu1
  have hrow := heap_alloc_new' wk (.cells #[s] 33)
  have hs1 := hs.upd hu1
  unfold Pushes
  generalize wk.alloc (.cells #[s] 33) = w1 at *
  obtain ⟨xs, ho, hel⟩ := h1.rows
  obtain ⟨v', w', hr, ho', hg, hm⟩ := run_append_here (P := Try.prog) w1 66 ty 33 Try.underlying66 Try.info33 rfl (by decide) va La.length xs ho ⟨wk.heap.size, 0, none⟩ 1 1 [s] rfl
    (fun j u hu => by
      rw [Addr.add_lit]
      match j, hu with
      | 0, hu => simp at hu; subst hu; exact cell_of_heap hrow rfl
      | j + 1, hu => simp at hu) hone (by unfold maxLen; omega) (by omega)
  obtain ⟨a', c', rfl, _, _⟩ := ownsRow_shape ho'
  have hu' : Upd va.ownBlock.toList w1 w' := (Upd.refl _ w1).grown hg (fun k hk => .inl (by simp [hk])) (fun k hk => .inr (fun c fz => by
    rcases ho.2 with ⟨rfl, _⟩ | ⟨g, cap, cur, rfl, _, hgg, _⟩
    · cases hk
    · cases hk; rw [hgg]; simp))
  have hdl := h1.look.lt
  have hul : Upd [d] w w' := h1.look.1.trans hu' (fun x hx => .inr (h1.rn x (by simpa using hx)))
  refine ⟨a', c', w', hr, ⟨⟨hul, ?_⟩, h1.bo.upd hu', h1.bn, ⟨xs ++ [s], ?_, fun j y hj => ?_⟩, fun k hk => ?_⟩⟩
  · obtain ⟨_, c, z, q1, q2⟩ := h1.look
    exact ⟨c, z, q1, hu'.kept q2 (fun hm => by have := h1.rn d (by simpa using hm); omega)⟩
  · rw [List.length_append]; exact ho'
  · rw [List.getElem?_append] at hj
    split at hj
    · obtain ⟨u, hu, hb, hn⟩ := hel j y hj
      refine ⟨u, ?_, hb.upd hu', hn⟩
      rw [List.getElem?_append_left (List.getElem?_eq_some_iff.1 hu).1]; exact hu
    · have hxl : xs.length = La.length := by have := ho.1; simpa using this
      have h0 : j - La.length = 0 := by
        cases hz : j - La.length with
        | zero => rfl
        | succ m => rw [hz] at hj; simp at hj
      rw [h0] at hj; simp at hj; subst hj
      refine ⟨s, ?_, hs1.upd hu', hsn, hsb⟩
      rw [List.getElem?_append_right (by omega), hxl, h0]; rfl
  · rcases hm with hm | ⟨r, hm, hr⟩
    · rw [hm] at hk; exact h1.rn k hk
    · rw [hm] at hk; cases hk; have := h1.look.1.size; omega

end
end Go.Proofs.Ytkpoladbabhdmaa
