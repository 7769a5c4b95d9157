/- The contracts of the library's functions that the disk calls. Conditions: as each says. -/
import Derived.Test.YtkpoladbabhdmaaDisk1
import Derived.Laws.AppendOwnNone
namespace Go.Proofs.Ytkpoladbabhdmaa
open Go.RowKit
open Go.ChangeMaps (setBlock)

theorem addInt64 (x y : Int) {a : Addr} {w : World} (hc : w.cell? a = some (.int .i64 x)) (hz : w.frozen? a = false) :
    (callFunc 105 #[.pointer (some a), .int .i64 y]).run Try.prog w = .ok (.value (.int .i64 (wrap64 (x + y)))) (w.setCell a (.int .i64 (wrap64 (x + y)))) :=
  run_call_add Try.func105 (by kernel_rfl) (by kernel_rfl) (by kernel_rfl) .i64 (by kernel_rfl) hc hz (by simp [Op.intArith, IntKind.wrap_i64, wrap64])

theorem add_any (b o : Nat) (x y : Int) {w : World} (hc : w.cell? ⟨b, o, none⟩ = some (.int .i64 x)) (hz : w.frozen? ⟨b, o, none⟩ = false) :
    Calls Try.prog 76 #[.pointer (some ⟨b, o, none⟩), .int .i64 y] w fun e w' => e = .returned (.int .i64 (wrap64 (x + y))) ∧ w.setCell ⟨b, o, none⟩ (.int .i64 (wrap64 (x + y))) = w' := by
  have ha := addInt64 x y hc hz
  go_enter Try.func76, Try.ntmps76
  go_wp2
  go_ret
  exact ⟨rfl, rfl⟩

theorem loadInt64 (x : Int) {a : Addr} {w : World} (hc : w.cell? a = some (.int .i64 x)) :
    (callFunc 106 #[.pointer (some a)]).run Try.prog w = .ok (.value (.int .i64 x)) w :=
  run_call_load Try.func106 (by kernel_rfl) (by kernel_rfl) (by kernel_rfl) .i64 (by kernel_rfl) hc

theorem load_any (b o : Nat) (x : Int) {w : World} (hc : w.cell? ⟨b, o, none⟩ = some (.int .i64 x)) :
    Calls Try.prog 80 #[.pointer (some ⟨b, o, none⟩)] w fun e w' => e = .returned (.int .i64 x) ∧ w = w' := by
  have ha := loadInt64 x hc
  go_enter Try.func80, Try.ntmps80
  go_wp2
  go_ret
  exact ⟨rfl, rfl⟩

/-- new bytes, and nothing else has turned -/
def MadeBytes (l : Bytes) (w : World) (e : Ending) (w' : World) : Prop :=
  ∃ v, e = .returned v ∧ BytesO w' v l ∧ Upd [] w w' ∧ ∀ g, v.ownBlock = some g → w.heap.size ≤ g

theorem Try.info5 : (Try.prog.info? 5).map (fun i => (i.zero, i.size, i.bytes)) = some (some (.int .u8 0), 1, 1) := by kernel_rfl

set_option maxHeartbeats 400000 in
theorem clone_any (w : World) (v : Value) (l : Bytes) (h : BytesV w v l) (hne : l ≠ []) (hl : l.length ≤ 1000000) : Calls Try.prog 77 #[v] w (MadeBytes l w) := by
  rcases h with ⟨_, rfl⟩ | ⟨g, off, cap, rfl, h1, h2, h3⟩
  · exact absurd rfl hne
  obtain ⟨i0, hi, hz0, hz1, hz2⟩ := info_parts Try.info5
  have hown : (w.alloc (.cells #[] 5)).ownsRow w.heap.size 5 1 (.slice (some ⟨w.heap.size, 0, none⟩) 0 0) 0 [] := World.ownsRow_made w #[] 0 (Nat.le_refl _) (Nat.zero_le _) rfl
  have hlt : g < w.heap.size := BytesV.lt (.inr ⟨g, off, cap, rfl, h1, h2, h3⟩) g rfl hne
  have hfin : ∀ v' w1, w1.ownsRow w.heap.size 5 1 v' l.length (l.map byte) → (w.alloc (.cells #[] 5)).grownBy w1 (some w.heap.size) → MadeBytes l w (.returned v') w1 := by
    intro v' w1 ho hg
    refine ⟨v', rfl, ownsRow_base ho fun _ _ => Nat.zero_le _, ?_, fun k hk => (ho.lt k hk).1⟩
    exact ((Upd.refl [] w).alloc _).grown hg (fun k hk => by cases hk; exact .inr (Nat.le_refl _)) (fun k hk => by cases hk; exact .inl (Nat.le_refl _))
  have hnews : ∀ (j : Nat) (u : Value), (l.map byte)[j]? = some u → (w.alloc (.cells #[] 5)).cell? ((⟨g, off, none⟩ : Addr).add j) = some u := by
    intro j u hu
    simp only [List.getElem?_map, Option.map_eq_some_iff] at hu
    obtain ⟨b, hb, rfl⟩ := hu
    rw [Addr.add_lit, World.cell?_alloc_lt _ _ _ (by exact hlt)]
    exact h3 j b hb
  have HF := Lib.hid hfin
  have HN := Lib.hid hnews
  have HL := Lib.hid hl
  clear hfin hnews h3 hne hl
  have hq := fun w a n c => Lib.run_eql_slice_nil (P := Try.prog) w 33 5 a n c 0 0 Try.underlying33
  go_enter Try.func77, Try.ntmps77
  go_wp2_with (at_builtin; refine wpList_append_own _ rfl _ _ 33 rfl w.heap.size 5 i0 (.int .u8 0) 1 1 Try.underlying33 hi hz0 hz1 hz2 rfl (by decide) _ _ _ rfl hown ⟨g, off, none⟩ l.length cap (l.map byte) rfl (by simp) HN.out (oneCell_byte l) (by have := HL.out; unfold maxLen; omega) (by have := HL.out; omega) (by rw [size_alloc]; omega) ?_)
  intro v' w1 hown1 hgrow _
  have hf := HF.out v' w1 hown1 hgrow
  clear HF hown1 hgrow hown HN
  go_wp2
  go_ret
  exact hf

end Go.Proofs.Ytkpoladbabhdmaa
