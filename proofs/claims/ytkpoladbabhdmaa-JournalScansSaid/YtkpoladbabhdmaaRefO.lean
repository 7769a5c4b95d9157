/- The reference's disk among several things; rows of cells; bytes that are made. Conditions: as each says. -/
import Derived.Test.YtkpoladbabhdmaaRef5
import Derived.Test.YtkpoladbabhdmaaDiskLasts
import Derived.Laws.MakeOwn
import Derived.Laws.OwnMore
namespace Go.Proofs.Ytkpoladbabhdmaa
open Go.RowKit

section
variable {w0 w : World} {l : List Thing} {b : Nat} {D : Dk}

theorem own_rwrite (h : Owns w0 l w) (i : Nat) (hi : l[i]? = some (rdisk b D)) {n : Int} {v : Value} {x : Bytes} (hv : BytesO w v x) (hlen : D.all.length < Big) :
    Calls Try.prog 43 #[.pointer (some ⟨b, 0, none⟩), .int .i64 n, v] w (Gives (.int .i64 (D.writeE n x)) w0 (l.set i (rdisk b (D.write n x))) w) := by
  obtain ⟨F, h1, h2, h3⟩ := h.at_ i hi
  exact (rwrite_any h1 hv.view (hv.sep h1) hlen).mono fun e w' ⟨he, hw⟩ => ⟨he, h3 _ _ hw, hw.keeps⟩

theorem own_rread (h : Owns w0 l w) (i : Nat) (hi : l[i]? = some (rdisk b D)) (n : Int) :
    Calls Try.prog 78 #[.pointer (some ⟨b, 0, none⟩), .int .i64 n] w (GivesBytes (D.readE n) (D.readB n) w0 (l.set i (rdisk b (D.read n))) w) := by
  obtain ⟨F, h1, h2, h3⟩ := h.at_ i hi
  refine (rread_any h1 n).mono fun e w' ⟨v, he, hb, hd, hu, hf⟩ => ⟨v, he, hb, h3 _ _ ⟨F, hd, hu, fun k hk => .inl hk⟩, hu.keeps, fun g hg => ?_⟩
  have := hf g hg; have := h.1.size; omega

theorem own_rsync (h : Owns w0 l w) (i : Nat) (hi : l[i]? = some (rdisk b D)) :
    Calls Try.prog 79 #[.pointer (some ⟨b, 0, none⟩)] w (Gives (.int .i64 D.syncE) w0 (l.set i (rdisk b D.sync)) w) := by
  obtain ⟨F, h1, h2, h3⟩ := h.at_ i hi
  exact (rsync_any h1).mono fun e w' ⟨he, hw⟩ => ⟨he, h3 _ _ hw, hw.keeps⟩

def GivesRef (D : Dk) (w0 : World) (l : List Thing) (w : World) (e : Ending) (w' : World) : Prop := ∃ b, e = .returned (.pointer (some ⟨b, 0, none⟩)) ∧ Owns w0 (rdisk b D :: l) w' ∧ Keeps w w'

theorem own_rnew (h : Owns w0 l w) (n : Int) : Calls Try.prog 31 #[.int .i64 n] w (GivesRef (Dk.new n) w0 l w) :=
  (rnew_any n w).mono fun _ _ ⟨b, he, F, h1, h2, h3⟩ => ⟨b, he, h.add ⟨F, h1, h2, h3⟩, h2.keeps⟩

theorem own_rcut (h : Owns w0 l w) (i : Nat) (hi : l[i]? = some (rdisk b D)) {v : Value} {keep : List Bool} (hv : BoolsV w v keep) (hlen : D.all.length < Big) :
    Calls Try.prog 42 #[.pointer (some ⟨b, 0, none⟩), v] w (GivesRef (D.cut keep) w0 l w) := by
  obtain ⟨F, h1, h2, h3⟩ := h.at_ i hi
  exact (rcut_any h1 hv hlen).mono fun _ _ ⟨b, he, F, h1, h2, h3⟩ => ⟨b, he, h.add ⟨F, h1, h2, h3⟩, h2.keeps⟩

theorem own_rpending (h : Owns w0 l w) (i : Nat) (hi : l[i]? = some (rdisk b D)) : Calls Try.prog 34 #[.pointer (some ⟨b, 0, none⟩)] w fun e w' => e = .returned (.int .i64 D.pend) ∧ w.drew = w' := by
  obtain ⟨F, h1, _⟩ := h.at_ i hi; exact rpending_any h1

/-- the cells that are read of it -/
theorem own_rfields (h : Owns w0 l w) (i : Nat) (hi : l[i]? = some (rdisk b D)) :
    w.cell? ⟨b, 0, none⟩ = some (.int .i64 D.size) ∧ w.cell? ⟨b, 3, none⟩ = some (.int .i64 D.fuse) ∧ w.cell? ⟨b, 4, none⟩ = some (.bool D.down) ∧
    w.cell? ⟨b, 5, none⟩ = some (.int .i64 D.a0) ∧ w.cell? ⟨b, 6, none⟩ = some (.int .i64 D.a1) ∧ w.cell? ⟨b, 7, none⟩ = some (.int .i64 D.a2) ∧ w.frozen? ⟨b, 3, none⟩ = false ∧ b < w.heap.size := by
  obtain ⟨F, h1, _⟩ := h.at_ i hi
  have h1 : RefAt w b D F := h1
  obtain ⟨pa, pc, a, -, -, c, d, e, f, g, -⟩ := h1.fields
  exact ⟨a, c, d, e, f, g, h1.free 3, h1.lt b h1.self⟩

/-- its fuse is laid -/
theorem own_rfuse (h : Owns w0 l w) (i : Nat) (hi : l[i]? = some (rdisk b D)) (n : Int) (hn : n ≤ 9223372036854775807) : Owns w0 (l.set i (rdisk b (D.fused n))) (w.setCell ⟨b, 3, none⟩ (.int .i64 (max n (-1)))) := by
  obtain ⟨F, h1, _, h3⟩ := h.at_ i hi
  have h1 : RefAt w b D F := h1
  have hw := h1.1
  exact h3 _ _ (h1.field 3 (.int .i64 (max n (-1))) (D' := D.fused n) ⟨hw.s0, hw.s1, by simp [Dk.fused]; omega, by simp [Dk.fused]; omega, hw.la, hw.wr⟩ rfl fun _ => rfl)
end

/-! ### how long the list of writes gets -/
theorem Dk.write_len (D : Dk) (n : Int) (l : Bytes) : (D.write n l).all.length ≤ D.all.length + 1 := by
  unfold Dk.write
  split
  · omega
  · split
    · split
      · simp [Dk.wrote]
      · rw [D.burnt_all]; omega
    · omega
theorem Dk.read_len (D : Dk) (n : Int) : (D.read n).all.length = D.all.length := by
  unfold Dk.read
  split
  · rfl
  · split <;> rfl
theorem Dk.sync_len (D : Dk) : D.sync.all.length = D.all.length := by
  unfold Dk.sync
  split
  · rfl
  · split
    · simp [Dk.synced, D.burnt_all]
    · rw [D.burnt_all]
theorem Dk.cut_len (D : Dk) (keep : List Bool) : (D.cut keep).all.length ≤ D.all.length := by
  have := kept_len keep (D.all.drop D.lasts) 0
  simp only [List.length_drop] at this
  simp only [Dk.cut, Dk.cutAll, List.length_append, List.length_take]
  omega

/-- new bytes: zeros -/
theorem makeN (w : World) (n : Int) (h0 : 0 ≤ n) (h1 : n ≤ 1000) : (Instr.makeSlice 33 (.int .i64 n) (.int .i64 n)).run Try.prog w = .ok (.slice (some ⟨w.heap.size, 0, none⟩) n.toNat n.toNat) (w.alloc (.cells (bcells (List.replicate n.toNat 0)) 5)) := by
  obtain ⟨i, hi, hz, hsize, hby⟩ := info_parts Try.info5
  have h := run_make (P := Try.prog) w 33 5 i (.int .u8 0) Try.underlying33 hi hz .i64 .i64 n n h0 (Int.le_refl _) (by rw [hby]; omega) (by omega)
  have e : madeCells (Value.int .u8 0).cells n.toNat = bcells (List.replicate n.toNat 0) := by
    refine Array.toList_inj.1 ?_
    have e1 : (Value.int .u8 0).cells = #[.int .u8 0] := rfl
    rw [e1, toList_madeCells_one]
    simp [bcells, byte]
  rw [h, hsize, Nat.mul_one, e]

end Go.Proofs.Ytkpoladbabhdmaa
