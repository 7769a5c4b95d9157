/- The disk's contracts where several things lie side by side. Conditions: as each says. -/
import Derived.Test.YtkpoladbabhdmaaOwns
import Derived.Test.YtkpoladbabhdmaaLaw6a
namespace Go.Proofs.Ytkpoladbabhdmaa
open Go.RowKit

/-- no byte has turned -/
def Keeps (w w' : World) : Prop := ∀ (k : Nat) (c : Array Value) (fz : Nat × Nat), w.heap[k]? = some (.cells c 5 fz) → w'.heap[k]? = w.heap[k]?
theorem Upd.keeps {S : List Nat} {w w' : World} (h : Upd S w w') : Keeps w w' := h.byteb
theorem Keeps.refl (w : World) : Keeps w w := fun _ _ _ _ => rfl
theorem Keeps.trans {a b c : World} (h : Keeps a b) (k : Keeps b c) : Keeps a c := fun x cs fz hx => by
  have h1 := h x cs fz hx
  rw [k x cs fz (h1.trans hx), h1]
theorem BytesO.keep {w w' : World} {v : Value} {l : Bytes} (h : BytesO w v l) (hu : Keeps w w') : BytesO w' v l := by
  refine ⟨h.1, ?_⟩
  rcases h.2 with hn | ⟨g, cap, cur, rfl, hb, hgg, rest⟩
  · exact .inl hn
  · exact .inr ⟨g, cap, cur, rfl, hb, (hu g cur _ hgg).trans hgg, rest⟩

/-- the head of the block of bytes of our own that are not none -/
theorem BytesO.head {w : World} {v : Value} {l : Bytes} (h : BytesO w v l) (hne : 0 < l.length) : ∃ g cap, v = .slice (some ⟨g, 0, none⟩) l.length cap := by
  rcases h.2 with ⟨_, h0⟩ | ⟨g, cap, cur, hv, _⟩
  · omega
  · exact ⟨g, cap, hv⟩
theorem BytesO.cell {w : World} {g n cap : Nat} {l : Bytes} (h : BytesO w (.slice (some ⟨g, 0, none⟩) n cap) l) {k : Nat} {x : UInt8} (hx : l[k]? = some x) : w.cell? ⟨g, k, none⟩ = some (.int .u8 (x.toNat : Int)) := by
  obtain ⟨g', off, cap', hv, hc⟩ := h.view.at_ hx
  have : w.cell? ((⟨g, 0, none⟩ : Addr).add k) = some (byte x) := World.ownsRow.cells h (g := g) rfl k (byte x) (by simp [hx])
  rwa [Addr.add_lit, Nat.zero_add] at this

section
variable {w0 w : World} {l : List Thing} {b : Nat} {D : Dk}

def Gives (v : Value) (w0 : World) (l : List Thing) (w : World) (e : Ending) (w' : World) : Prop := e = .returned v ∧ Owns w0 l w' ∧ Keeps w w'

theorem TurnsTo.keeps {w w' : World} {b : Nat} {D' : Dk} {F : List Nat} (h : TurnsTo w b D' F w') : Keeps w w' := let ⟨_, _, hu, _⟩ := h; hu.keeps

theorem own_write (h : Owns w0 l w) (i : Nat) (hi : l[i]? = some (disk b D)) {n : Int} {v : Value} {x : Bytes} (hv : BytesO w v x) (hlen : D.all.length < Big) :
    Calls Try.prog 22 #[.pointer (some ⟨b, 0, none⟩), .int .i64 n, v] w (Gives (.int .i64 (D.writeE n x)) w0 (l.set i (disk b (D.write n x))) w) := by
  obtain ⟨F, h1, h2, h3⟩ := h.at_ i hi
  exact (write_any h1 hv.view (hv.sep h1) hlen).mono fun e w' ⟨he, hw⟩ => ⟨he, h3 _ _ hw.turned, hw.keeps⟩

/-- bytes of whoever called: below the law's own memory -/
theorem own_write_old (h : Owns w0 l w) (i : Nat) (hi : l[i]? = some (disk b D)) {n : Int} {v : Value} {x : Bytes} (hv : BytesV w v x) (hold : ∀ g, v.ownBlock = some g → g < w0.heap.size) (hlen : D.all.length < Big) :
    Calls Try.prog 22 #[.pointer (some ⟨b, 0, none⟩), .int .i64 n, v] w (Gives (.int .i64 (D.writeE n x)) w0 (l.set i (disk b (D.write n x))) w) := by
  obtain ⟨F, h1, h2, h3⟩ := h.at_ i hi
  exact (write_any h1 hv (fun g hg hm => by have := h2 g hm; have := hold g hg; omega) hlen).mono fun e w' ⟨he, hw⟩ => ⟨he, h3 _ _ hw.turned, hw.keeps⟩

def GivesBytes (en : Int) (x : Bytes) (w0 : World) (l : List Thing) (w : World) (e : Ending) (w' : World) : Prop :=
  ∃ v, e = .returned (.tuple #[v, .int .i64 en]) ∧ BytesO w' v x ∧ Owns w0 l w' ∧ Keeps w w' ∧ ∀ g, v.ownBlock = some g → w0.heap.size ≤ g

theorem own_read (h : Owns w0 l w) (i : Nat) (hi : l[i]? = some (disk b D)) (n : Int) :
    Calls Try.prog 25 #[.pointer (some ⟨b, 0, none⟩), .int .i64 n] w (GivesBytes (D.readE n) (D.readB n) w0 (l.set i (disk b (D.read n))) w) := by
  obtain ⟨F, h1, h2, h3⟩ := h.at_ i hi
  refine (read_any h1 n).mono fun e w' ⟨v, he, hb, hd, hu, hf⟩ => ⟨v, he, hb, h3 _ _ ⟨F, hd, hu, fun k hk => .inl hk⟩, hu.keeps, fun g hg => ?_⟩
  have := hf g hg; have := h.1.size; omega

theorem own_sync (h : Owns w0 l w) (i : Nat) (hi : l[i]? = some (disk b D)) (hlen : D.all.length < Big) :
    Calls Try.prog 24 #[.pointer (some ⟨b, 0, none⟩)] w (Gives (.int .i64 D.syncE) w0 (l.set i (disk b D.sync)) w) := by
  obtain ⟨F, h1, h2, h3⟩ := h.at_ i hi
  exact (sync_any h1 hlen).mono fun e w' ⟨he, hw⟩ => ⟨he, h3 _ _ hw.turned, hw.keeps⟩

theorem own_setFuse (h : Owns w0 l w) (i : Nat) (hi : l[i]? = some (disk b D)) (n : Int) (hn : n ≤ 9223372036854775807) :
    Calls Try.prog 29 #[.pointer (some ⟨b, 0, none⟩), .int .i64 n] w (Gives (.tuple #[]) w0 (l.set i (disk b (D.fused n))) w) := by
  obtain ⟨F, h1, h2, h3⟩ := h.at_ i hi
  exact (setFuse_any h1 n hn).mono fun e w' ⟨he, hw⟩ => ⟨he, h3 _ _ hw.turned, hw.keeps⟩

def GivesDisk (D : Dk) (w0 : World) (l : List Thing) (w : World) (e : Ending) (w' : World) : Prop := ∃ b, e = .returned (.pointer (some ⟨b, 0, none⟩)) ∧ Owns w0 (disk b D :: l) w' ∧ Keeps w w'

theorem own_new (h : Owns w0 l w) (n : Int) : Calls Try.prog 21 #[.int .i64 n] w (GivesDisk (Dk.new n) w0 l w) :=
  (new_any n w).mono fun _ _ ⟨b, F, he, h1, h2, h3⟩ => ⟨b, he, h.add ⟨F, h1, h2, h3⟩, h2.keeps⟩

theorem own_cut (h : Owns w0 l w) (i : Nat) (hi : l[i]? = some (disk b D)) {v : Value} {keep : List Bool} (hv : BoolsV w v keep) (hlen : D.all.length < Big) :
    Calls Try.prog 26 #[.pointer (some ⟨b, 0, none⟩), v] w (GivesDisk (D.cut keep) w0 l w) := by
  obtain ⟨F, h1, h2, h3⟩ := h.at_ i hi
  exact (cut_any h1 hv hlen).mono fun _ _ ⟨b, F, he, h1, h2, h3⟩ => ⟨b, he, h.add ⟨F, h1, h2, h3⟩, h2.keeps⟩

theorem own_down (h : Owns w0 l w) (i : Nat) (hi : l[i]? = some (disk b D)) : Calls Try.prog 30 #[.pointer (some ⟨b, 0, none⟩)] w fun e w' => e = .returned (.bool D.down) ∧ w = w' := by
  obtain ⟨F, h1, _⟩ := h.at_ i hi; exact down_any h1
theorem own_size (h : Owns w0 l w) (i : Nat) (hi : l[i]? = some (disk b D)) : Calls Try.prog 33 #[.pointer (some ⟨b, 0, none⟩)] w fun e w' => e = .returned (.int .i64 D.size) ∧ w = w' := by
  obtain ⟨F, h1, _⟩ := h.at_ i hi; exact size_any h1
theorem own_pending (h : Owns w0 l w) (i : Nat) (hi : l[i]? = some (disk b D)) : Calls Try.prog 28 #[.pointer (some ⟨b, 0, none⟩)] w fun e w' => e = .returned (.int .i64 D.pend) ∧ w = w' := by
  obtain ⟨F, h1, _⟩ := h.at_ i hi; exact pending_any h1
theorem own_wf (h : Owns w0 l w) (i : Nat) (hi : l[i]? = some (disk b D)) : D.Wf := by
  obtain ⟨F, h1, _⟩ := h.at_ i hi; exact h1.1

/-- a call that makes nothing but memory of its own -/
theorem own_returns (h : Owns w0 l w) {f : FuncId} {args : Array Value} {v : Value} (hc : Calls Try.prog f args w (Returns v (Upd [] w))) : Calls Try.prog f args w (Gives v w0 l w) :=
  hc.mono fun _ _ ⟨he, hu⟩ => ⟨he, h.upd hu, hu.keeps⟩

def GivesNew (x : Bytes) (w0 : World) (l : List Thing) (w : World) (e : Ending) (w' : World) : Prop := ∃ v, e = .returned v ∧ BytesO w' v x ∧ Owns w0 l w' ∧ Keeps w w' ∧ ∀ g, v.ownBlock = some g → w0.heap.size ≤ g

theorem own_bytes (h : Owns w0 l w) {f : FuncId} {args : Array Value} {x : Bytes} (hc : Calls Try.prog f args w (MadeBytes x w)) : Calls Try.prog f args w (GivesNew x w0 l w) :=
  hc.mono fun _ _ ⟨v, he, hb, hu, hf⟩ => ⟨v, he, hb, h.upd hu, hu.keeps, fun g hg => by have := hf g hg; have := h.1.size; omega⟩

end
end Go.Proofs.Ytkpoladbabhdmaa
