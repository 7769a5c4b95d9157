/- What a function that reads a disk, and gathers bytes, leaves (for the pages). Conditions: as each says. -/
import Derived.Test.YtkpoladbabhdmaaPg8
namespace Go.Proofs.Ytkpoladbabhdmaa
open Go.RowKit

/-- of what was there nothing has turned but the disk's count of reads -/
def LookedP (w : World) (d : Nat) (wk : World) : Prop :=
  Upd [d] w wk ∧ ∃ (c : Array Value) (x : Int), w.heap[d]? = some (.cells c 125 (0, 0)) ∧ wk.heap[d]? = some (.cells (c.setIfInBounds 6 (.int .i64 x)) 125 (0, 0))

theorem LookedP.lt {w wk : World} {d : Nat} (h : LookedP w d wk) : d < w.heap.size := by obtain ⟨_, c, x, h1, _⟩ := h; exact lt_of_heap h1

theorem LookedP.upd0 {w wk w' : World} {d : Nat} (h : LookedP w d wk) (hu : Upd [] wk w') : LookedP w d w' := by
  obtain ⟨h0, c, x, h1, h2⟩ := h
  exact ⟨h0.trans hu (by simp), c, x, h1, hu.kept h2 (by simp)⟩

theorem LookedP.other {w wk w' : World} {d g : Nat} (h : LookedP w d wk) (hu : Upd [g] wk w') (hg : w.heap.size ≤ g) : LookedP w d w' := by
  have hl := h.lt
  obtain ⟨h0, c, x, h1, h2⟩ := h
  exact ⟨h0.trans hu (fun y hy => .inr (by simp at hy; omega)), c, x, h1, hu.kept h2 (by simp; omega)⟩

theorem LookedP.trans {w wk w' : World} {d : Nat} (h : LookedP w d wk) (k : LookedP wk d w') : LookedP w d w' := by
  obtain ⟨h0, c, x, h1, h2⟩ := h
  obtain ⟨k0, c', x', k1, k2⟩ := k
  refine ⟨h0.trans k0 (fun y hy => .inl hy), c, x', h1, ?_⟩
  rw [h2] at k1
  cases k1
  rw [k2]
  congr 2
  apply Array.ext_getElem?
  intro i
  simp only [Array.getElem?_setIfInBounds]
  split <;> simp_all

theorem DiskAt.look0p {w : World} {d : Nat} {D : Dk} {F : List Nat} (h : DiskAt w d D F) : LookedP w d w := by
  obtain ⟨_, bn, bl, pv, es1, c1, es2, c2, ps, h1, _⟩ := h
  exact ⟨Upd.refl _ w, _, D.a0, h1, h1⟩

theorem DiskAt.look6p {w : World} {d : Nat} {D : Dk} {F : List Nat} (h : DiskAt w d D F) (x : Int) : LookedP w d (w.setCell ⟨d, 6, none⟩ (.int .i64 x)) := by
  have hn := h.nobyte d h.self
  obtain ⟨_, bn, bl, pv, es1, c1, es2, c2, ps, h1, _⟩ := h
  exact ⟨(Upd.refl _ w).setCell _ (.inl (by simp)) (.inr hn), _, x, h1, heap_setCell_eq _ _ _ _ h1⟩

theorem DiskAt.lookedp {w wk : World} {d : Nat} {D : Dk} {F : List Nat} (h : DiskAt w d D F) (k : LookedP w d wk) : ∃ x, DiskAt wk d { D with a0 := x } F ∧ Upd F w wk := by
  have hs := h.self
  have hnb := h.nobyte
  obtain ⟨hw, bn, bl, pv, es1, c1, es2, c2, ps, h1, h2, h3, h4, h5, h6, h7, h8, h9, rfl⟩ := h
  obtain ⟨k0, c, x, k1, k2⟩ := k
  rw [h1] at k1
  cases k1
  have hu : Upd (d :: bn :: bl :: pv.ownBlock.toList) w wk := k0.mono (fun y hy => .inl (by simp at hy; simp [hy]))
  have hbn : bn ≠ d := by rintro rfl; rw [h1] at h2; cases h2
  have hbl : bl ≠ d := by rintro rfl; rw [h1] at h4; cases h4
  refine ⟨x, ⟨⟨hw.s0, hw.s1, hw.f0, hw.f1, hw.la, hw.wr⟩, bn, bl, pv, es1, c1, es2, c2, ps, k2, k0.kept h2 (by simpa using hbn), h3.mono fun v l hv => hv.upd k0, k0.kept h4 (by simpa using hbl), h5.mono fun v l hv => hv.upd k0, ?_, fun p hp => (h7 p hp).upd k0, h8, h9, rfl⟩, hu⟩
  refine ownsRow_upd h6 k0 fun y hy hm => ?_
  simp at hm
  subst hm
  rcases h6.2 with ⟨rfl, _⟩ | ⟨g, cap, cur, rfl, _, hg, _⟩
  · cases hy
  · cases hy; rw [h1] at hg; simp at hg

def ReadLookP (w : World) (b : Nat) (l : Bytes) (e : Ending) (w' : World) : Prop :=
  ∃ v, e = .returned (.tuple #[v, .int .i64 0]) ∧ BytesO w' v l ∧ LookedP w b w' ∧ ∀ g, v.ownBlock = some g → w.heap.size ≤ g

set_option maxRecDepth 100000 in
set_option maxHeartbeats 400000 in
theorem read_lookP {b : Nat} {w : World} {D : Dk} {F : List Nat} (h : DiskAt w b D F) (hd : D.down = false) {n : Int} (h0 : 0 ≤ n) (h1 : n < D.size) :
    Calls Try.prog 25 #[.pointer (some ⟨b, 0, none⟩), .int .i64 n] w (ReadLookP w b (D.sec n)) := by
  have hwf := h.1
  have hlen := Dk.sec_len hwf n
  obtain ⟨bn, bl, pa, pc, hc, -⟩ := h.fields
  go_enter Try.func25, Try.ntmps25
  go_wp2_with (go_at_call 30; refine (down_any h).mono ?_; rintro e w' ⟨rfl, rfl⟩)
  clear hc bn bl pa pc
  obtain ⟨-, -, -, -, -, -, -, -, -, -, hc6, -⟩ := h.fields
  refine (add_any b 6 _ 1 hc6 (h.free 6)).mono ?_
  rintro e w2 ⟨rfl, hw2⟩
  have hT2 : DiskAt w2 b D.read0 F ∧ Upd F w w2 := by
    rw [← hw2]
    exact h.field 6 _ ⟨hwf.s0, hwf.s1, hwf.f0, hwf.f1, hwf.la, hwf.wr⟩ rfl rfl fun _ _ _ => rfl
  have hU2 : LookedP w b w2 := by rw [← hw2]; exact h.look6p _
  clear hc6 hw2
  obtain ⟨hD2, -⟩ := hT2
  have hz : ∀ w, (zeroValue 33).run Try.prog w = .ok (.slice none 0 0) w := fun w => by kernel_rfl
  obtain ⟨_, bn, bl, pv, es1, c1, es2, c2, ps, g1, g2, g3, g4, g5, g6, g7, g8, g9, hF⟩ := hD2
  have hc1 : w2.cell? ⟨b, 1, none⟩ = some (.map (some bn)) := cell_of_heap g1 rfl
  have hlook := run_look (P := Try.prog) Try.underlying116 Try.underlying3 (hz w2) g2 g3 n true
  clear g1 g2 g3 g4 g5 g6 g7 g8 g9 hF
  rcases hlook with ⟨hn, hrun⟩ | ⟨v, l, hn, hv, hrun⟩
  · have hs : D.sec n = zeros := by
      have : last D.all n = none := hn
      simp [Dk.sec, this]
    simp only [if_true] at hrun
    have HN := Lib.hid hn
    have HS := Lib.hid hs
    clear hn hs
    have hmk : ∀ w, (Instr.makeSlice 33 (.int .i64 256) (.int .i64 256)).run Try.prog w = .ok (.slice (some ⟨w.heap.size, 0, none⟩) 256 256) (w.alloc (.cells (zeros.map byte).toArray 5)) := fun w => by kernel_rfl
    go_wp2_with (fail)
    go_ret2
    rw [HS.out]
    refine ⟨_, rfl, ?_, hU2.upd0 ((Upd.refl [] w2).alloc _), ?_⟩
    · exact ⟨by simp [zeros], .inr ⟨_, 256, _, rfl, Nat.zero_le _, heap_alloc_new' _ _, by simp [zeros], by unfold maxLen; omega, by simp [zeros], by simp [zeros]⟩⟩
    · intro g hg
      cases hg
      exact hU2.1.size
  · have hs : D.sec n = l := by
      have : last D.all n = some l := hn
      simp [Dk.sec, this]
    simp only [if_true] at hrun
    rw [hs] at hlen
    have HL := Lib.hid hlen
    have HS := Lib.hid hs
    clear hn hs hlen
    go_wp2_with (fail)
    refine (clone_any w2 _ l hv.view (by have := HL.out; rintro rfl; simp at this) (by have := HL.out; omega)).mono ?_
    rintro e w3 ⟨v3, rfl, hb3, hU3, hnew3⟩
    have hfin : ReadLookP w b l (.returned (.tuple #[v3, .int .i64 0])) w3 := ⟨v3, rfl, hb3, hU2.upd0 hU3, fun g hg => Nat.le_trans hU2.1.size (hnew3 g hg)⟩
    have HF := Lib.hid hfin
    clear hfin hb3 hU3 hnew3
    go_wp2_with (fail)
    go_ret2
    rw [HS.out]
    exact HF.out


/-- bytes vb that are gathered by a function that began in the world w -/
structure LocP (w : World) (d : Nat) (wk : World) (vb : Value) (lb : Bytes) : Prop where
  look : LookedP w d wk
  bo : BytesO wk vb lb
  bn : ∀ k, vb.ownBlock = some k → w.heap.size ≤ k

section
variable {w wk w' : World} {d : Nat} {vb : Value} {lb : Bytes}

theorem LocP.start {D : Dk} {F : List Nat} (h : DiskAt w d D F) : LocP w d w (.slice none 0 0) [] :=
  ⟨h.look0p, .nil w, (by intro k hk; cases hk)⟩

theorem LocP.upd0 (h : LocP w d wk vb lb) (hu : Upd [] wk w') : LocP w d w' vb lb := ⟨h.look.upd0 hu, h.bo.upd hu, h.bn⟩

theorem LocP.read (h : LocP w d wk vb lb) (hl : LookedP wk d w') : LocP w d w' vb lb := ⟨h.look.trans hl, h.bo.upd hl.1, h.bn⟩

/-- bytes are appended to those gathered -/
theorem LocP.app (h : LocP w d wk vb lb) {x : Value} {m : Bytes} (hx : BytesV wk x m) (ty : TypeId) {n : Nat} (hn : lb.length + m.length = n) (hb : n ≤ 100000000) :
    ∃ a' c' w', (Builtin.append_ #[33, 33] ty #[vb, x]).run Try.prog wk = .ok (.slice a' n c') w' ∧ LocP w d w' (.slice a' n c') (lb ++ m) := by
  obtain ⟨v', w', hr, hbo, hg, hm⟩ := run_append_any wk h.bo hx ty (by omega)
  obtain ⟨a', c', hv', _, _⟩ := hbo.view.shape
  rw [List.length_append, hn] at hv'
  subst hv'
  have hu : Upd [d] w w' := h.look.1.grown hg (fun k hk => .inr (h.bn k hk)) (fun k hk => .inl (h.bn k hk))
  have hdl := h.look.lt
  refine ⟨a', c', w', hr, ⟨⟨hu, ?_⟩, hbo, fun k hk => ?_⟩⟩
  · obtain ⟨_, c, z, h1, h2⟩ := h.look
    refine ⟨c, z, h1, ?_⟩
    rw [hg.block d (Nat.lt_of_lt_of_le hdl h.look.1.size) (fun e => by have := h.bn d e.symm; omega)]
    exact h2
  · rcases hm with hm | ⟨r, hm, hr⟩
    · rw [hm] at hk; exact h.bn k hk
    · rw [hm] at hk; cases hk; have := h.look.1.size; omega
end

end Go.Proofs.Ytkpoladbabhdmaa
