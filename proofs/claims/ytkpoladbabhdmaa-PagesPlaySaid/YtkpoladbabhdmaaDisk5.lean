/- The disk's Write in one contract; its Read. Conditions: as each says. -/
import Derived.Test.YtkpoladbabhdmaaDisk4
namespace Go.Proofs.Ytkpoladbabhdmaa
open Go.RowKit
open Go.ChangeMaps (setBlock)

theorem TurnsTo.stay {w : World} {b : Nat} {D : Dk} {F : List Nat} (h : DiskAt w b D F) : TurnsTo w b D F w := .of ⟨h, Upd.refl F w⟩

theorem write_any {b : Nat} {w : World} {D : Dk} {F : List Nat} (h : DiskAt w b D F) {n : Int} {v : Value} {l : Bytes} (hv : BytesV w v l) (hsep : ∀ g, v.ownBlock = some g → g ∉ F)
    (hlen : D.all.length < Big) :
    Calls Try.prog 22 #[.pointer (some ⟨b, 0, none⟩), .int .i64 n, v] w (Returns (.int .i64 (D.writeE n l)) (TurnsTo w b (D.write n l) F)) := by
  cases hd : D.down with
  | true => exact (write_down h hd n v).mono fun e w' ⟨he, hw⟩ => ⟨by rw [he]; simp [Dk.writeE, hd], by subst hw; simp only [Dk.write, hd, if_true]; exact .stay h⟩
  | false =>
    cases ho : D.okArg n l with
    | false => exact (write_bad h hd hv ho).mono fun e w' ⟨he, hw⟩ => ⟨by rw [he]; simp [Dk.writeE, hd, ho], by subst hw; simp only [Dk.write, hd, ho, if_false, Bool.false_eq_true]; exact .stay h⟩
    | true =>
      cases hf : D.burns with
      | false => exact (write_burnt h hd hv ho hf).mono fun e w' ⟨he, hw⟩ => ⟨by rw [he]; simp [Dk.writeE, hd, ho, hf], by simp only [Dk.write, hd, ho, hf, if_false, if_true, Bool.false_eq_true]; exact hw⟩
      | true => exact (write_ok h hd hv hsep ho hf hlen).mono fun e w' ⟨he, hw⟩ => ⟨by rw [he]; simp [Dk.writeE, hd, ho, hf], by simp only [Dk.write, hd, ho, hf, if_false, if_true, Bool.false_eq_true]; exact hw⟩

/-! ### Read -/

theorem read_nil (n : Int) (w : World) : Calls Try.prog 25 #[.pointer none, .int .i64 n] w fun e w' => e = .returned (.tuple #[.slice none 0 0, .int .i64 7]) ∧ w = w' := by
  go_enter Try.func25, Try.ntmps25
  go_wp2_with (go_at_call 30; refine (down_nil _).mono ?_; rintro e w' ⟨rfl, rfl⟩)
  go_ret2
  exact ⟨rfl, rfl⟩

set_option maxHeartbeats 400000 in
theorem read_down {b : Nat} {w : World} {D : Dk} {F : List Nat} (h : DiskAt w b D F) (hd : D.down = true) (n : Int) :
    Calls Try.prog 25 #[.pointer (some ⟨b, 0, none⟩), .int .i64 n] w fun e w' => e = .returned (.tuple #[.slice none 0 0, .int .i64 7]) ∧ w = w' := by
  go_enter Try.func25, Try.ntmps25
  go_wp2_with (go_at_call 30; refine (down_any h).mono ?_; rintro e w' ⟨rfl, rfl⟩)
  go_ret2
  exact ⟨rfl, rfl⟩

set_option maxHeartbeats 400000 in
theorem read_bad {b : Nat} {w : World} {D : Dk} {F : List Nat} (h : DiskAt w b D F) (hd : D.down = false) {n : Int} (hb : ¬ (0 ≤ n ∧ n < D.size)) :
    Calls Try.prog 25 #[.pointer (some ⟨b, 0, none⟩), .int .i64 n] w fun e w' => e = .returned (.tuple #[.slice none 0 0, .int .i64 1]) ∧ w = w' := by
  obtain ⟨bn, bl, pa, pc, hc, -⟩ := h.fields
  by_cases h0 : n < 0
  · clear hb
    go_enter Try.func25, Try.ntmps25
    go_wp2_with (go_at_call 30; refine (down_any h).mono ?_; rintro e w' ⟨rfl, rfl⟩)
    go_ret2
    exact ⟨rfl, rfl⟩
  · have h1 : D.size ≤ n := by omega
    clear hb
    go_enter Try.func25, Try.ntmps25
    go_wp2_with (go_at_call 30; refine (down_any h).mono ?_; rintro e w' ⟨rfl, rfl⟩)
    go_ret2
    exact ⟨rfl, rfl⟩

/-- an empty sector -/
def zeros : Bytes := List.replicate 256 0
theorem zeros_len : zeros.length = 256 := List.length_replicate

/-- what a sector reads -/
def Dk.sec (D : Dk) (n : Int) : Bytes := ((last D.all) n).getD zeros

theorem last_mem_aux (n : Int) (b : Bytes) : ∀ (l : List (Int × Bytes)) (f : Int → Option Bytes), (l.foldl (fun f p => put f p.1 (some p.2)) f) n = some b → (n, b) ∈ l ∨ f n = some b
  | [], f, h => .inr h
  | p :: l, f, h => by
    rcases last_mem_aux n b l _ h with h | h
    · exact .inl (by simp [h])
    · have h : put f p.1 (some p.2) n = some b := h
      unfold put at h
      split at h
      · rename_i hn; cases h; exact .inl (by simp [hn])
      · exact .inr h
theorem last_mem (l : List (Int × Bytes)) (n : Int) (b : Bytes) (h : last l n = some b) : (n, b) ∈ l := by
  rcases last_mem_aux n b l _ h with h | h
  · exact h
  · cases h

theorem Dk.sec_len {D : Dk} (h : D.Wf) (n : Int) : (D.sec n).length = 256 := by
  unfold Dk.sec
  cases hl : last D.all n with
  | none => exact zeros_len
  | some b => exact (h.wr _ (last_mem _ _ _ hl)).1

def Dk.read0 (D : Dk) : Dk := { D with a0 := wrap64 (D.a0 + 1) }

/-- new bytes and an errno; the disk is D' -/
def ReadTo (w : World) (b : Nat) (D' : Dk) (F : List Nat) (l : Bytes) (e : Ending) (w' : World) : Prop :=
  ∃ v, e = .returned (.tuple #[v, .int .i64 0]) ∧ BytesO w' v l ∧ DiskAt w' b D' F ∧ Upd F w w' ∧ ∀ g, v.ownBlock = some g → w.heap.size ≤ g

set_option maxRecDepth 100000 in
set_option maxHeartbeats 400000 in
theorem read_ok {b : Nat} {w : World} {D : Dk} {F : List Nat} (h : DiskAt w b D F) (hd : D.down = false) {n : Int} (h0 : 0 ≤ n) (h1 : n < D.size) :
    Calls Try.prog 25 #[.pointer (some ⟨b, 0, none⟩), .int .i64 n] w (ReadTo w b D.read0 F (D.sec n)) := by
  have hwf := h.1
  have hlen := Dk.sec_len hwf n
  obtain ⟨bn, bl, pa, pc, hc, -⟩ := h.fields
  go_enter Try.func25, Try.ntmps25
  go_wp2_with (go_at_call 30; refine (down_any h).mono ?_; rintro e w' ⟨rfl, rfl⟩)
  clear hc bn bl pa pc
  obtain ⟨-, -, -, -, -, -, -, -, -, -, hc6, -⟩ := h.fields
  refine (add_any b 6 _ 1 hc6 (h.free 6)).mono ?_
  rintro e w2 ⟨rfl, hw2⟩
  have hT2 : DiskAt w2 b D.read0 F ∧ Upd F w w2 := by
    rw [← hw2]
    exact h.field 6 _ ⟨hwf.s0, hwf.s1, hwf.f0, hwf.f1, hwf.la, hwf.wr⟩ rfl rfl fun _ _ _ => rfl
  clear hc6 hw2
  obtain ⟨hD2, hU2⟩ := hT2
  have hz : ∀ w, (zeroValue 33).run Try.prog w = .ok (.slice none 0 0) w := fun w => by kernel_rfl
  have hD2' := hD2
  obtain ⟨_, bn, bl, pv, es1, c1, es2, c2, ps, g1, g2, g3, g4, g5, g6, g7, g8, g9, hF⟩ := hD2
  have hc1 : w2.cell? ⟨b, 1, none⟩ = some (.map (some bn)) := cell_of_heap g1 rfl
  have hlook := run_look (P := Try.prog) Try.underlying116 Try.underlying3 (hz w2) g2 g3 n true
  clear g1 g2 g3 g4 g5 g6 g7 g8 g9 hF
  rcases hlook with ⟨hn, hrun⟩ | ⟨v, l, hn, hv, hrun⟩
  · have hs : D.sec n = zeros := by
      have : last D.all n = none := hn
      simp [Dk.sec, this]
    simp only [if_true] at hrun
    have HN := Lib.hid hn
    have HS := Lib.hid hs
    clear hn hs
    have hmk : ∀ w, (Instr.makeSlice 33 (.int .i64 256) (.int .i64 256)).run Try.prog w = .ok (.slice (some ⟨w.heap.size, 0, none⟩) 256 256) (w.alloc (.cells (zeros.map byte).toArray 5)) := fun w => by kernel_rfl
    go_wp2_with (fail)
    go_ret2
    rw [HS.out]
    refine ⟨_, rfl, ?_, hD2'.upd ((Upd.refl [] w2).alloc _) (by simp), hU2.alloc _, ?_⟩
    · exact ⟨by simp [zeros], .inr ⟨_, 256, _, rfl, Nat.zero_le _, heap_alloc_new' _ _, by simp [zeros], by unfold maxLen; omega, by simp [zeros], by simp [zeros]⟩⟩
    · intro g hg
      cases hg
      exact hU2.size
  · have hs : D.sec n = l := by
      have : last D.all n = some l := hn
      simp [Dk.sec, this]
    simp only [if_true] at hrun
    rw [hs] at hlen
    have HL := Lib.hid hlen
    have HS := Lib.hid hs
    clear hn hs hlen
    go_wp2_with (fail)
    refine (clone_any w2 _ l hv.view (by have := HL.out; rintro rfl; simp at this) (by have := HL.out; omega)).mono ?_
    rintro e w3 ⟨v3, rfl, hb3, hU3, hnew3⟩
    have hD3 : DiskAt w3 b D.read0 F := hD2'.upd hU3 (by simp)
    have hfin : ReadTo w b D.read0 F l (.returned (.tuple #[v3, .int .i64 0])) w3 := ⟨v3, rfl, hb3, hD3, hU2.trans hU3 (by simp), fun g hg => Nat.le_trans hU2.size (hnew3 g hg)⟩
    have HF := Lib.hid hfin
    clear hfin hb3 hU3 hnew3 hD3
    go_wp2_with (fail)
    go_ret2
    rw [HS.out]
    exact HF.out

def Dk.readE (D : Dk) (n : Int) : Int := if D.down then 7 else if 0 ≤ n ∧ n < D.size then 0 else 1
def Dk.read (D : Dk) (n : Int) : Dk := if D.down then D else if 0 ≤ n ∧ n < D.size then D.read0 else D
def Dk.readB (D : Dk) (n : Int) : Bytes := if D.down then [] else if 0 ≤ n ∧ n < D.size then D.sec n else []

/-- bytes (new ones, or nil) and an errno; the disk is D' -/
def ReadAs (w : World) (b : Nat) (D' : Dk) (F : List Nat) (l : Bytes) (en : Int) (e : Ending) (w' : World) : Prop :=
  ∃ v, e = .returned (.tuple #[v, .int .i64 en]) ∧ BytesO w' v l ∧ DiskAt w' b D' F ∧ Upd F w w' ∧ ∀ g, v.ownBlock = some g → w.heap.size ≤ g

theorem BytesO.nil (w : World) : BytesO w (.slice none 0 0) [] := World.ownsRow_nil w 0 5 1

theorem read_any {b : Nat} {w : World} {D : Dk} {F : List Nat} (h : DiskAt w b D F) (n : Int) :
    Calls Try.prog 25 #[.pointer (some ⟨b, 0, none⟩), .int .i64 n] w (ReadAs w b (D.read n) F (D.readB n) (D.readE n)) := by
  cases hd : D.down with
  | true =>
    refine (read_down h hd n).mono fun e w' ⟨he, hw⟩ => ?_
    subst hw
    exact ⟨.slice none 0 0, by rw [he]; simp [Dk.readE, hd], by simp [Dk.readB, hd]; exact .nil _, by simp [Dk.read, hd]; exact h, Upd.refl F _, by intro g hg; cases hg⟩
  | false =>
    by_cases hb : 0 ≤ n ∧ n < D.size
    · refine (read_ok h hd hb.1 hb.2).mono fun e w' ⟨v, he, h1, h2, h3, h4⟩ => ?_
      exact ⟨v, by rw [he]; simp [Dk.readE, hd, hb], by simp [Dk.readB, hd, hb]; exact h1, by simp [Dk.read, hd, hb]; exact h2, h3, h4⟩
    · refine (read_bad h hd hb).mono fun e w' ⟨he, hw⟩ => ?_
      subst hw
      exact ⟨.slice none 0 0, by rw [he]; simp [Dk.readE, hd, hb], by simp [Dk.readB, hd, hb]; exact .nil _, by simp [Dk.read, hd, hb]; exact h, Upd.refl F _, by intro g hg; cases hg⟩

end Go.Proofs.Ytkpoladbabhdmaa
