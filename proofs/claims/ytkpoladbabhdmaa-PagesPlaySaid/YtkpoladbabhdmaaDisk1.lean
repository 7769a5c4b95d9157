/- The contracts of the disk's small functions. Conditions: as each says. -/
import Derived.Test.YtkpoladbabhdmaaDk
namespace Go.Proofs.Ytkpoladbabhdmaa
open Go.RowKit
open Go.ChangeMaps (setBlock)

def Dk.new (n : Int) : Dk := { size := min (max n 0) 65536, all := [], lasts := 0, fuse := -1, down := false, a0 := 0, a1 := 0, a2 := 0 }
theorem Dk.new_wf (n : Int) : (Dk.new n).Wf := ⟨by simp [Dk.new]; omega, by simp [Dk.new]; omega, by simp [Dk.new], by simp [Dk.new], by simp [Dk.new], by simp [Dk.new]⟩

/-- a new disk: its blocks are new -/
def MadeDisk (w : World) (D : Dk) (e : Ending) (w' : World) : Prop :=
  ∃ b F, e = .returned (.pointer (some ⟨b, 0, none⟩)) ∧ DiskAt w' b D F ∧ Upd [] w w' ∧ ∀ k ∈ F, w.heap.size ≤ k

theorem made_disk (w : World) (n m : Int) (h : m = min (max n 0) 65536) : MadeDisk w (Dk.new n) (.returned (.pointer (some ⟨w.heap.size + 1 + 1, 0, none⟩)))
    (((w.alloc (.map #[] 0)).alloc (.map #[] 0)).alloc (.cells #[.int .i64 m, .map (some w.heap.size), .map (some (w.heap.size + 1)), .slice none 0 0, .int .i64 (-1), .bool false, .int .i64 0, .int .i64 0, .int .i64 0] 125)) := by
  have hs : ((w.alloc (.map #[] 0)).alloc (.map #[] 0)).heap.size = w.heap.size + 1 + 1 := by rw [size_alloc, size_alloc]
  refine ⟨_, [w.heap.size + 1 + 1, w.heap.size, w.heap.size + 1], rfl, ⟨Dk.new_wf n, w.heap.size, w.heap.size + 1, .slice none 0 0, #[], 0, #[], 0, [], ?_, ?_, MOk.empty, ?_, MOk.empty, World.ownsRow_nil _ _ _ _, by simp, rfl, by omega, rfl⟩, ((((Upd.refl [] w).alloc _).alloc _).alloc _), by simp; omega⟩
  · rw [← hs, heap_alloc_new']; simp [dcells, Dk.new, h]
  · rw [heap_alloc_lt _ _ (by rw [hs]; omega), heap_alloc_lt _ _ (by rw [size_alloc]; omega), heap_alloc_new']
  · rw [heap_alloc_lt _ _ (by rw [hs]; omega), ← size_alloc w (.map #[] 0), heap_alloc_new']

set_option maxHeartbeats 400000 in
theorem new_any (n : Int) (w : World) : Calls Try.prog 21 #[.int .i64 n] w (MadeDisk w (Dk.new n)) := by
  have hmm := @run_makeMap Try.prog
  go_enter Try.func21, Try.ntmps21
  go_wp2
  all_goals
    go_ret
    exact made_disk w n _ (by omega)

/-! ### reading -/

theorem down_nil (w : World) : Calls Try.prog 30 #[.pointer none] w fun e w' => e = .returned (.bool true) ∧ w = w' := by
  go_enter Try.func30, Try.ntmps30
  go_wp2
  go_ret
  exact ⟨rfl, rfl⟩

theorem cell_of_heap {w : World} {b o : Nat} {c : Array Value} {e : TypeId} {fz : Nat × Nat} (h : w.heap[b]? = some (.cells c e fz)) {v : Value} (hv : c[o]? = some v) : w.cell? ⟨b, o, none⟩ = some v := by
  simp [World.cell?, h, hv]
theorem free_of_heap {w : World} {b o : Nat} {c : Array Value} {e : TypeId} (h : w.heap[b]? = some (.cells c e (0, 0))) : w.frozen? ⟨b, o, none⟩ = false := by
  simp [World.frozen?, h]

theorem ownsRow_shape {w : World} {base e size n : Nat} {v : Value} {xs : List Value} (h : w.ownsRow base e size v n xs) : ∃ a cap, v = .slice a n cap ∧ n ≤ cap ∧ cap ≤ maxLen := by
  rcases h.2 with ⟨rfl, rfl⟩ | ⟨g, cap, cur, rfl, _, _, hnc, hcm, _⟩
  · exact ⟨none, 0, rfl, Nat.le_refl _, Nat.zero_le _⟩
  · exact ⟨_, cap, rfl, hnc, hcm⟩

theorem DiskAt.free {w : World} {b : Nat} {D : Dk} {F : List Nat} (h : DiskAt w b D F) (o : Nat) : w.frozen? ⟨b, o, none⟩ = false := by
  obtain ⟨_, bn, bl, pv, es1, c1, es2, c2, ps, h1, _⟩ := h
  exact free_of_heap h1

/-- the cells of the disk's own block -/
theorem DiskAt.fields {w : World} {b : Nat} {D : Dk} {F : List Nat} (h : DiskAt w b D F) : ∃ bn bl pa pc,
    w.cell? ⟨b, 0, none⟩ = some (.int .i64 D.size) ∧ w.cell? ⟨b, 1, none⟩ = some (.map (some bn)) ∧ w.cell? ⟨b, 2, none⟩ = some (.map (some bl)) ∧
    w.cell? ⟨b, 3, none⟩ = some (.slice pa (D.all.length - D.lasts) pc) ∧ w.cell? ⟨b, 4, none⟩ = some (.int .i64 D.fuse) ∧ w.cell? ⟨b, 5, none⟩ = some (.bool D.down) ∧
    w.cell? ⟨b, 6, none⟩ = some (.int .i64 D.a0) ∧ w.cell? ⟨b, 7, none⟩ = some (.int .i64 D.a1) ∧ w.cell? ⟨b, 8, none⟩ = some (.int .i64 D.a2) := by
  obtain ⟨_, bn, bl, pv, es1, c1, es2, c2, ps, h1, _, _, _, _, h6, _, h8, _⟩ := h
  have hl : ps.length = D.all.length - D.lasts := by
    have := congrArg List.length h8
    simpa using this
  obtain ⟨a, cap, hpv, _, _⟩ := ownsRow_shape h6
  rw [hl] at hpv
  subst hpv
  refine ⟨bn, bl, a, cap, ?_, ?_, ?_, ?_, ?_, ?_, ?_, ?_, ?_⟩ <;> exact cell_of_heap h1 rfl

theorem down_any {b : Nat} {w : World} {D : Dk} {F : List Nat} (h : DiskAt w b D F) : Calls Try.prog 30 #[.pointer (some ⟨b, 0, none⟩)] w fun e w' => e = .returned (.bool D.down) ∧ w = w' := by
  obtain ⟨bn, bl, pa, pc, -, -, -, -, -, hc, -⟩ := h.fields
  go_enter Try.func30, Try.ntmps30
  go_wp2
  go_ret
  exact ⟨rfl, rfl⟩

theorem size_nil (w : World) : Calls Try.prog 33 #[.pointer none] w fun e w' => e = .returned (.int .i64 0) ∧ w = w' := by
  go_enter Try.func33, Try.ntmps33
  go_wp2
  go_ret
  exact ⟨rfl, rfl⟩

theorem size_any {b : Nat} {w : World} {D : Dk} {F : List Nat} (h : DiskAt w b D F) : Calls Try.prog 33 #[.pointer (some ⟨b, 0, none⟩)] w fun e w' => e = .returned (.int .i64 D.size) ∧ w = w' := by
  obtain ⟨bn, bl, pa, pc, hc, -⟩ := h.fields
  go_enter Try.func33, Try.ntmps33
  go_wp2
  go_ret
  exact ⟨rfl, rfl⟩

theorem pending_nil (w : World) : Calls Try.prog 28 #[.pointer none] w fun e w' => e = .returned (.int .i64 0) ∧ w = w' := by
  go_enter Try.func28, Try.ntmps28
  go_wp2
  go_ret
  exact ⟨rfl, rfl⟩

def Dk.pend (D : Dk) : Int := (D.all.length - D.lasts : Nat)

theorem pending_any {b : Nat} {w : World} {D : Dk} {F : List Nat} (h : DiskAt w b D F) : Calls Try.prog 28 #[.pointer (some ⟨b, 0, none⟩)] w fun e w' => e = .returned (.int .i64 D.pend) ∧ w = w' := by
  obtain ⟨bn, bl, pa, pc, -, -, -, hc, -⟩ := h.fields
  go_enter Try.func28, Try.ntmps28
  go_wp2
  go_ret
  exact ⟨rfl, rfl⟩

/-! ### the fuse -/

theorem setFuse_nil (n : Int) (w : World) : Calls Try.prog 29 #[.pointer none, .int .i64 n] w fun e w' => e = .returned (.tuple #[]) ∧ w = w' := by
  go_enter Try.func29, Try.ntmps29
  go_wp2
  go_end0
  exact ⟨rfl, rfl⟩

/-- a field of the disk's own that is written -/
theorem DiskAt.field {w : World} {b : Nat} {D D' : Dk} {F : List Nat} (h : DiskAt w b D F) (o : Nat) (v : Value) (hw : D'.Wf) (ha : D'.all = D.all) (hl : D'.lasts = D.lasts)
    (hc : ∀ bn bl pv, (dcells D bn bl pv).setIfInBounds o v = dcells D' bn bl pv) : DiskAt (w.setCell ⟨b, o, none⟩ v) b D' F ∧ Upd F w (w.setCell ⟨b, o, none⟩ v) := by
  have hu : Upd F w (w.setCell ⟨b, o, none⟩ v) := (Upd.refl F w).setCell v (.inl h.self) (.inr (h.nobyte b h.self))
  refine ⟨?_, hu⟩
  obtain ⟨_, bn, bl, pv, es1, c1, es2, c2, ps, h1, h2, h3, h4, h5, h6, h7, h8, h9, rfl⟩ := h
  have hbn : bn ≠ b := by rintro rfl; rw [h1] at h2; cases h2
  have hbl : bl ≠ b := by rintro rfl; rw [h1] at h4; cases h4
  refine ⟨hw, bn, bl, pv, es1, c1, es2, c2, ps, ?_, ?_, ?_, ?_, ?_, ?_, fun p hp => (h7 p hp).upd hu, by rw [ha, hl]; exact h8, h9, rfl⟩
  · rw [← hc bn bl pv]; exact heap_setCell_eq w b o v h1
  · rw [heap_setCell_ne _ _ _ hbn]; exact h2
  · rw [ha]; exact h3.mono fun v l hv => hv.upd hu
  · rw [heap_setCell_ne _ _ _ hbl]; exact h4
  · rw [ha, hl]; exact h5.mono fun v l hv => hv.upd hu
  · refine ownsRow_same h6 fun k hk => heap_setCell_ne _ _ _ ?_
    rintro rfl
    rcases h6.2 with ⟨rfl, _⟩ | ⟨g, cap, cur, rfl, _, hg, _⟩
    · cases hk
    · cases hk; rw [h1] at hg; simp at hg

def Dk.fused (D : Dk) (n : Int) : Dk := { D with fuse := max n (-1) }

/-- only the disk's own blocks have turned, and they are D' now -/
def TurnsTo (w : World) (b : Nat) (D' : Dk) (F : List Nat) (w' : World) : Prop :=
  ∃ F', DiskAt w' b D' F' ∧ Upd F w w' ∧ ∀ k ∈ F', k ∈ F ∨ w.heap.size ≤ k

theorem TurnsTo.of {w w' : World} {b : Nat} {D' : Dk} {F : List Nat} (h : DiskAt w' b D' F ∧ Upd F w w') : TurnsTo w b D' F w' := ⟨F, h.1, h.2, fun _ hk => .inl hk⟩

def Returns (v : Value) (Q : World → Prop) (e : Ending) (w' : World) : Prop := e = .returned v ∧ Q w'

set_option maxHeartbeats 400000 in
theorem setFuse_any {b : Nat} {w : World} {D : Dk} {F : List Nat} (h : DiskAt w b D F) (n : Int) (hn : n ≤ 9223372036854775807) :
    Calls Try.prog 29 #[.pointer (some ⟨b, 0, none⟩), .int .i64 n] w (Returns (.tuple #[]) (TurnsTo w b (D.fused n) F)) := by
  have hfin : ∀ m, m = max n (-1) → TurnsTo w b (D.fused n) F (w.setCell ⟨b, 4, none⟩ (.int .i64 m)) := by
    rintro m rfl
    exact .of (h.field 4 _ ⟨h.1.s0, h.1.s1, by simp [Dk.fused]; omega, by simp [Dk.fused]; omega, h.1.la, h.1.wr⟩ rfl rfl fun _ _ _ => rfl)
  have hz := h.free 4
  obtain ⟨bn, bl, pa, pc, -, -, -, -, hc, -⟩ := h.fields
  have Hfin := Lib.hid hfin
  clear hfin
  go_enter Try.func29, Try.ntmps29
  go_wp2
  all_goals
    go_end0
    exact ⟨rfl, Hfin.out _ (by omega)⟩

def Dk.burnt (D : Dk) : Dk := if D.fuse = 0 then { D with down := true } else if 0 < D.fuse then { D with fuse := D.fuse - 1 } else D
def Dk.burns (D : Dk) : Bool := decide (D.fuse ≠ 0)

set_option maxHeartbeats 400000 in
theorem burn_any {b : Nat} {w : World} {D : Dk} {F : List Nat} (h : DiskAt w b D F) :
    Calls Try.prog 75 #[.pointer (some ⟨b, 0, none⟩)] w (Returns (.bool D.burns) (TurnsTo w b D.burnt F)) := by
  have hf0 := h.1.f0
  have hf1 := h.1.f1
  have hfin0 : D.fuse = 0 → TurnsTo w b D.burnt F (w.setCell ⟨b, 5, none⟩ (.bool true)) := by
    intro h0
    refine .of (h.field 5 _ ?_ ?_ ?_ fun _ _ _ => ?_)
    · exact ⟨by simp [Dk.burnt, h0, h.1.s0], by simp [Dk.burnt, h0, h.1.s1], by simp [Dk.burnt, h0], by simp [Dk.burnt, h0], by simp [Dk.burnt, h0, h.1.la], by simp only [Dk.burnt, h0, if_true]; exact h.1.wr⟩
    · simp [Dk.burnt, h0]
    · simp [Dk.burnt, h0]
    · simp [Dk.burnt, h0, dcells]
  have hfin1 : 0 < D.fuse → TurnsTo w b D.burnt F (w.setCell ⟨b, 4, none⟩ (.int .i64 (D.fuse - 1))) := by
    intro h0
    have hb : D.burnt = { D with fuse := D.fuse - 1 } := by unfold Dk.burnt; rw [if_neg (by omega), if_pos h0]
    rw [hb]
    exact .of (h.field 4 _ ⟨h.1.s0, h.1.s1, by simp; omega, by simp; omega, h.1.la, h.1.wr⟩ rfl rfl fun _ _ _ => rfl)
  have hfin2 : D.fuse < 0 → TurnsTo w b D.burnt F w := by
    intro h0
    have hb : D.burnt = D := by unfold Dk.burnt; rw [if_neg (by omega), if_neg (by omega)]
    rw [hb]
    exact .of ⟨h, Upd.refl F w⟩
  have hbt : D.fuse = 0 → D.burns = false := by intro h0; simp [Dk.burns, h0]
  have hbf : D.fuse ≠ 0 → D.burns = true := by intro h0; simp [Dk.burns, h0]
  have hz := h.free 4
  have hz5 := h.free 5
  obtain ⟨bn, bl, pa, pc, -, -, -, -, hc, hc5, -⟩ := h.fields
  have H0 := Lib.hid hfin0
  have H1 := Lib.hid hfin1
  have H2 := Lib.hid hfin2
  have H3 := Lib.hid hbt
  have H4 := Lib.hid hbf
  clear hfin0 hfin1 hfin2 hbt hbf
  go_enter Try.func75, Try.ntmps75
  go_wp2
  · go_ret
    have h0 : D.fuse = 0 := by simpa using ‹(D.fuse == 0) = true›
    exact ⟨by rw [H3.out h0]; rfl, H0.out h0⟩
  · go_ret
    exact ⟨by rw [H4.out (by omega)]; rfl, H1.out (by omega)⟩
  · go_ret
    have h0 : ¬ D.fuse = 0 := by simpa using ‹(D.fuse == 0) = false›
    exact ⟨by rw [H4.out h0]; rfl, H2.out (by omega)⟩

end Go.Proofs.Ytkpoladbabhdmaa
