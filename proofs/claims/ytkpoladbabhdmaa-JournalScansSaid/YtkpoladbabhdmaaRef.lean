/- The reference's disk in memory, and the contracts of its functions. Conditions: as each says. -/
import Derived.Test.YtkpoladbabhdmaaDiskO
import Derived.Laws.CopyOwn
namespace Go.Proofs.Ytkpoladbabhdmaa
open Go.RowKit

def rcells (D : Dk) (pv : Value) : Array Value :=
  #[.int .i64 D.size, pv, .int .i64 (D.lasts : Int), .int .i64 D.fuse, .bool D.down, .int .i64 D.a0, .int .i64 D.a1, .int .i64 D.a2]

/-- block b is the reference's disk D; F: its blocks that may turn -/
def RefAt (w : World) (b : Nat) (D : Dk) (F : List Nat) : Prop :=
  D.Wf ∧ ∃ pv ps, w.heap[b]? = some (.cells (rcells D pv) 53 (0, 0)) ∧
    w.ownsRow 0 136 2 pv ps.length (pcells ps) ∧ (∀ p ∈ ps, BytesO w p.2.1 p.2.2) ∧ ps.map (fun p => (p.1, p.2.2)) = D.all ∧ F = b :: pv.ownBlock.toList

theorem RefAt.lt {w : World} {b : Nat} {D : Dk} {F : List Nat} (h : RefAt w b D F) : ∀ k ∈ F, k < w.heap.size := by
  obtain ⟨_, pv, ps, h1, h4, _, _, rfl⟩ := h
  intro k hk
  simp only [List.mem_cons, Option.mem_toList] at hk
  rcases hk with rfl | hk
  · exact lt_of_heap h1
  · exact (h4.lt k hk).2

theorem RefAt.nobyte {w : World} {b : Nat} {D : Dk} {F : List Nat} (h : RefAt w b D F) : ∀ k ∈ F, ∀ (c : Array Value) (fz : Nat × Nat), w.heap[k]? ≠ some (.cells c 5 fz) := by
  obtain ⟨_, pv, ps, h1, h4, _, _, rfl⟩ := h
  intro k hk c fz
  simp only [List.mem_cons, Option.mem_toList] at hk
  rcases hk with rfl | hk
  · rw [h1]; simp
  · rcases h4.2 with ⟨rfl, _⟩ | ⟨g, cap, cur, rfl, _, hg, _⟩
    · cases hk
    · cases hk; rw [hg]; simp

theorem RefAt.upd {w w' : World} {b : Nat} {D : Dk} {F S : List Nat} (h : RefAt w b D F) (hu : Upd S w w') (hd : ∀ k ∈ F, k ∉ S) : RefAt w' b D F := by
  obtain ⟨hw, pv, ps, h1, h6, h7, h8, rfl⟩ := h
  exact ⟨hw, pv, ps, hu.kept h1 (hd _ (by simp)), ownsRow_upd h6 hu fun k hk => hd k (by simp [hk]), fun p hp => (h7 p hp).upd hu, h8, rfl⟩

def rdisk (b : Nat) (D : Dk) : Thing := ⟨fun w F => RefAt w b D F, fun _ _ h => h.lt, fun _ _ h => h.nobyte, fun _ _ _ _ h hu hd => h.upd hu hd⟩

theorem RefAt.self {w : World} {b : Nat} {D : Dk} {F : List Nat} (h : RefAt w b D F) : b ∈ F := by
  obtain ⟨_, pv, ps, _, _, _, _, rfl⟩ := h
  simp

theorem RefAt.free {w : World} {b : Nat} {D : Dk} {F : List Nat} (h : RefAt w b D F) (o : Nat) : w.frozen? ⟨b, o, none⟩ = false := by
  obtain ⟨_, pv, ps, h1, _⟩ := h
  exact free_of_heap h1

theorem RefAt.fields {w : World} {b : Nat} {D : Dk} {F : List Nat} (h : RefAt w b D F) : ∃ pa pc,
    w.cell? ⟨b, 0, none⟩ = some (.int .i64 D.size) ∧ w.cell? ⟨b, 1, none⟩ = some (.slice pa D.all.length pc) ∧ w.cell? ⟨b, 2, none⟩ = some (.int .i64 (D.lasts : Int)) ∧
    w.cell? ⟨b, 3, none⟩ = some (.int .i64 D.fuse) ∧ w.cell? ⟨b, 4, none⟩ = some (.bool D.down) ∧
    w.cell? ⟨b, 5, none⟩ = some (.int .i64 D.a0) ∧ w.cell? ⟨b, 6, none⟩ = some (.int .i64 D.a1) ∧ w.cell? ⟨b, 7, none⟩ = some (.int .i64 D.a2) ∧ D.all.length ≤ maxLen := by
  obtain ⟨_, pv, ps, h1, h6, _, h8, _⟩ := h
  have hl : ps.length = D.all.length := by rw [← h8]; simp
  obtain ⟨a, cap, hpv, h9, h10⟩ := ownsRow_shape h6
  rw [hl] at hpv h9
  subst hpv
  refine ⟨a, cap, ?_, ?_, ?_, ?_, ?_, ?_, ?_, ?_, Nat.le_trans h9 h10⟩ <;> exact cell_of_heap h1 rfl

/-- a field of the disk's own that is written -/
theorem RefAt.field {w : World} {b : Nat} {D D' : Dk} {F : List Nat} (h : RefAt w b D F) (o : Nat) (v : Value) (hw : D'.Wf) (ha : D'.all = D.all)
    (hc : ∀ pv, (rcells D pv).setIfInBounds o v = rcells D' pv) : Turned w (rdisk b D') F (w.setCell ⟨b, o, none⟩ v) := by
  have hu : Upd F w (w.setCell ⟨b, o, none⟩ v) := (Upd.refl F w).setCell v (.inl h.self) (.inr (h.nobyte b h.self))
  refine ⟨F, ?_, hu, fun k hk => .inl hk⟩
  obtain ⟨_, pv, ps, h1, h6, h7, h8, rfl⟩ := h
  refine ⟨hw, pv, ps, ?_, ?_, fun p hp => (h7 p hp).upd hu, by rw [ha]; exact h8, rfl⟩
  · rw [← hc pv]; exact heap_setCell_eq w b o v h1
  · refine ownsRow_same h6 fun k hk => heap_setCell_ne _ _ _ ?_
    rintro rfl
    rcases h6.2 with ⟨rfl, _⟩ | ⟨g, cap, cur, rfl, _, hg, _⟩
    · cases hk
    · cases hk; rw [h1] at hg; simp at hg

theorem rmade (w : World) (n m : Int) (h : m = min (max n 0) 65536) : Fresh w (rdisk w.heap.size (Dk.new n)) (w.alloc (.cells #[.int .i64 m, .slice none 0 0, .int .i64 0, .int .i64 (-1), .bool false, .int .i64 0, .int .i64 0, .int .i64 0] 53)) := by
  refine ⟨[w.heap.size], ⟨Dk.new_wf n, .slice none 0 0, [], ?_, World.ownsRow_nil _ _ _ _, by simp, rfl, rfl⟩, (Upd.refl [] w).alloc _, by simp⟩
  rw [heap_alloc_new']; simp [rcells, Dk.new, h]

def MadeRef (w : World) (D : Dk) (e : Ending) (w' : World) : Prop := ∃ b, e = .returned (.pointer (some ⟨b, 0, none⟩)) ∧ Fresh w (rdisk b D) w'

set_option maxHeartbeats 400000 in
theorem rnew_any (n : Int) (w : World) : Calls Try.prog 31 #[.int .i64 n] w (MadeRef w (Dk.new n)) := by
  go_enter Try.func31, Try.ntmps31
  go_wp2
  all_goals
    go_ret
    exact ⟨_, rfl, rmade w n _ (by omega)⟩

set_option maxHeartbeats 400000 in
theorem rpending_any {b : Nat} {w : World} {D : Dk} {F : List Nat} (h : RefAt w b D F) : Calls Try.prog 34 #[.pointer (some ⟨b, 0, none⟩)] w fun e w' => e = .returned (.int .i64 D.pend) ∧ w.drew = w' := by
  obtain ⟨pa, pc, -, h1, h2, -, -, -, -, -, hm⟩ := h.fields
  have hla := h.1.la
  have hb : D.all.length ≤ 9223372036854775807 := by unfold maxLen at hm; omega
  clear hm h
  go_enter Try.func34, Try.ntmps34
  go_wp2
  go_region
  go_wp2
  go_ret
  exact ⟨by simp [Dk.pend]; omega, rfl⟩

set_option maxHeartbeats 400000 in
theorem rburn_any {b : Nat} {w : World} {D : Dk} {F : List Nat} (h : RefAt w b D F) :
    Calls Try.prog 84 #[.pointer (some ⟨b, 0, none⟩)] w (Returns (.bool D.burns) (Turned w (rdisk b D.burnt) F)) := by
  have hf0 := h.1.f0
  have hf1 := h.1.f1
  have hfin0 : D.fuse = 0 → Turned w (rdisk b D.burnt) F (w.setCell ⟨b, 4, none⟩ (.bool true)) := by
    intro h0
    have hb : D.burnt = { D with down := true } := by unfold Dk.burnt; rw [if_pos h0]
    rw [hb]
    exact h.field 4 _ ⟨h.1.s0, h.1.s1, h.1.f0, h.1.f1, h.1.la, h.1.wr⟩ rfl fun _ => rfl
  have hfin1 : 0 < D.fuse → Turned w (rdisk b D.burnt) F (w.setCell ⟨b, 3, none⟩ (.int .i64 (D.fuse - 1))) := by
    intro h0
    have hb : D.burnt = { D with fuse := D.fuse - 1 } := by unfold Dk.burnt; rw [if_neg (by omega), if_pos h0]
    rw [hb]
    exact h.field 3 _ ⟨h.1.s0, h.1.s1, by simp; omega, by simp; omega, h.1.la, h.1.wr⟩ rfl fun _ => rfl
  have hfin2 : D.fuse < 0 → Turned w (rdisk b D.burnt) F w := by
    intro h0
    have hb : D.burnt = D := by unfold Dk.burnt; rw [if_neg (by omega), if_neg (by omega)]
    rw [hb]
    exact ⟨F, h, Upd.refl F w, fun _ hk => .inl hk⟩
  have hbt : D.fuse = 0 → D.burns = false := by intro h0; simp [Dk.burns, h0]
  have hbf : D.fuse ≠ 0 → D.burns = true := by intro h0; simp [Dk.burns, h0]
  have hz := h.free 3
  have hz5 := h.free 4
  obtain ⟨pa, pc, -, -, -, hc, hc5, -⟩ := h.fields
  have H0 := Lib.hid hfin0
  have H1 := Lib.hid hfin1
  have H2 := Lib.hid hfin2
  have H3 := Lib.hid hbt
  have H4 := Lib.hid hbf
  clear hfin0 hfin1 hfin2 hbt hbf h
  go_enter Try.func84, Try.ntmps84
  go_wp2
  · go_ret
    have h0 : D.fuse = 0 := by simpa using ‹(D.fuse == 0) = true›
    exact ⟨by rw [H3.out h0]; rfl, H0.out h0⟩
  · go_ret
    exact ⟨by rw [H4.out (by omega)]; rfl, H1.out (by omega)⟩
  · go_ret
    have h0 : ¬ D.fuse = 0 := by simpa using ‹(D.fuse == 0) = false›
    exact ⟨by rw [H4.out h0]; rfl, H2.out (by omega)⟩

end Go.Proofs.Ytkpoladbabhdmaa
