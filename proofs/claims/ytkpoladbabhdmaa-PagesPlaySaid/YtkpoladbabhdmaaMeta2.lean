/- bytes.Equal; a head's sector. Conditions: as each says. -/
import Derived.Test.YtkpoladbabhdmaaMeta1
import Derived.Laws.BytesArg
import Derived.Laws.StructEq
import Derived.Laws.OwnMore
import Derived.Lib.AppendZerosOnto
namespace Go.Proofs.Ytkpoladbabhdmaa
open Go.RowKit

theorem conv_bytes {w : World} {v : Value} {l : Bytes} (h : BytesV w v l) : (convert 33 9 v).run Try.prog w = .ok (.string ⟨l.toArray⟩) w := by
  rcases h with ⟨⟨a, cap, rfl, _⟩, rfl⟩ | ⟨g, off, cap, rfl, _, _, hc⟩
  · rw [run_convert_bytes_string w 33 9 5 _ 0 cap Try.underlying33 Try.underlying5 Try.underlying9]
    cases a <;> simp [Conv.bytesToString, loadCells]
    all_goals rfl
  · rw [run_convert_bytes_arg w 33 5 Try.underlying33 Try.underlying5 g off l.length cap (l.map fun b => (b.toNat : Int)) (by simp) ?_ 9 Try.underlying9]
    · congr 2
      simp [strOfNums, Function.comp_def]
    · intro i hi
      rw [hc i l[i] (List.getElem?_eq_getElem hi)]
      simp [byte, hi]

theorem equal_any {w : World} {v1 v2 : Value} {l1 l2 : Bytes} (h1 : BytesV w v1 l1) (h2 : BytesV w v2 l2) : Calls Try.prog 109 #[v1, v2] w fun e w' => e = .returned (.bool (decide (l1 = l2))) ∧ w = w' := by
  have c1 := conv_bytes h1
  have c2 := conv_bytes h2
  obtain ⟨a1, k1, rfl, _, _⟩ := h1.shape
  obtain ⟨a2, k2, rfl, _, _⟩ := h2.shape
  have he : (l1 == l2) = decide (l1 = l2) := by by_cases h : l1 = l2 <;> simp [h]
  have HE := Lib.hid he
  clear he
  clear h1 h2
  go_enter Try.func109, Try.ntmps109
  go_wp2_with (fail)
  go_ret
  refine ⟨?_, rfl⟩
  show Ending.returned (.bool (l1 == l2)) = _
  rw [HE.out]

/-! ### append(s, make([]byte, n)...) -/
theorem run_append_zeros (w : World) {v : Value} {l : Bytes} (hb : BytesO w v l) (hne : l ≠ []) (ty : TypeId) (n : Nat) (h0 : 0 < n) (hn : l.length + n ≤ 1000) :
    ∃ v' w', (Builtin.append_ #[33, 3] ty #[v, .int .i64 n]).run Try.prog w = .ok v' w' ∧ BytesO w' v' (l ++ List.replicate n 0) ∧ w.grownBy w' v.ownBlock ∧ Moved w v v' := by
  obtain ⟨i, hi, hz, hsize, hby⟩ := info_parts Try.info5
  rcases hb.2 with ⟨_, h00⟩ | ⟨g, cap, cur, rfl, hbg, hg, hnc, hcm, hcs, htake⟩
  · exact absurd (List.eq_nil_of_length_eq_zero h00) hne
  have hzc : (List.replicate n (0 : UInt8)).map byte = List.replicate n (.int .u8 0) := by simp [byte]
  have hzz : ∀ m, (Builtin.zeroCells (Value.int .u8 0).cells m).toList = List.replicate m (.int .u8 0) := by
    intro m
    have e : Builtin.zeroCells (Value.int .u8 0).cells m = madeCells #[Value.int .u8 0] (m * 1) := rfl
    rw [e, Nat.mul_one, toList_madeCells_one]
  have h1 : ∀ u ∈ List.replicate n (Value.int .u8 0), u.oneCell' = true := by
    intro u hu
    rw [List.eq_of_mem_replicate hu]; rfl
  have hw : IntKind.i64.wrap (n : Int) = n := by rw [IntKind.wrap_i64]; omega
  have hneg : ¬ ((n : Int) < 0) := by omega
  have h48i : ¬ (281474976710656 < (n : Int)) := by omega
  have hn0 : n ≠ 0 := by omega
  by_cases hroom : l.length + n ≤ cap
  · have hst := run_storeCells_at Try.prog g l.length 5 (List.replicate n (Value.int .u8 0)) 0 cur w hg (by rw [List.length_replicate, hcs]; omega) h1
    simp only [Nat.add_zero] at hst
    have hr : (Builtin.append_ #[33, 3] ty #[.slice (some ⟨g, 0, none⟩) l.length cap, .int .i64 n]).run Try.prog w =
        .ok (.slice (some ⟨g, 0, none⟩) (l.length + n) cap) (w.setRow g (cur.toList.take l.length ++ List.replicate n (Value.int .u8 0) ++ cur.toList.drop (l.length + (List.replicate n (Value.int .u8 0)).length)).toArray) := by
      simp [Builtin.append_, run_underlying Try.underlying33, run_underlying Try.underlying3, sizeOf, typeInfo, zeroValue, hi, hz, hsize, hby, asInt, asIntOf, hw, hneg, h48i, hroom, hn0, Addr.add_lit, hst, hzz]
    refine ⟨_, _, hr, ?_, ⟨rfl, rfl, rfl, by simp, fun k _ hk => setRow_other w g k _ (fun e => hk (by simp [Value.ownBlock, e]))⟩, .inl rfl⟩
    refine ⟨by simp, .inr ⟨g, cap, _, by simp, Nat.zero_le _, setRow_heap w g cur _ 5 _ hg, by simpa using hroom, hcm, ?_, ?_⟩⟩
    · simp; omega
    · have ht : cur.toList.take l.length = l.map byte := by simpa using htake
      rw [ht, List.map_append, hzc, List.append_assoc, ← List.append_assoc]
      exact List.take_left' (by simp)
  · have hcells : ∀ (j : Nat) (u : Value), (l.map byte)[j]? = some u → w.drew.cell? ((⟨g, 0, none⟩ : Addr).add j) = some u := fun j u hu => World.ownsRow.cells hb (g := g) rfl j u hu
    have hold := run_firstCells_some (P := Try.prog) w.drew i.size l.length ⟨g, 0, none⟩ l.length cap (l.map byte) (by rw [hsize]; simp) hcells
    have hge := grownCap_ge w (l.length + n) cap 5
    have hcm := grownCap_le_maxLen w (l.length + n) cap 5 (by unfold maxLen; omega)
    have hr := Lib.run_append_grow_zeros (P := Try.prog) w 33 3 ty 5 i (.int .u8 0) .i64 _ Try.underlying33 Try.underlying3 hi hz (some ⟨g, 0, none⟩) l.length cap (l.map byte) hold n h0 (by rw [hsize]; omega) (by omega) (by omega) (by rw [hby]; omega)
      (by rw [hby]; exact growslice_fits (by omega) (by omega))
    refine ⟨_, _, hr, ?_, ⟨rfl, rfl, rfl, by simp, fun k hk _ => heap_alloc_lt w.drew _ hk⟩, .inr ⟨_, rfl, Nat.le_refl _⟩⟩
    refine ⟨by simp, .inr ⟨w.heap.size, _, _, by simp, Nat.zero_le _, heap_alloc_new' w.drew _, by simpa using hge, hcm, ?_, ?_⟩⟩
    · simp only [Array.size_append, List.size_toArray, size_zeroCells, List.length_map]
      have : (Value.int IntKind.u8 0).cells.size = 1 := rfl
      rw [this]; omega
    · rw [List.map_append, hzc]
      simp only [Array.toList_append, hzz, List.append_assoc]
      rw [← List.append_assoc]
      exact List.take_left' (by simp)

end Go.Proofs.Ytkpoladbabhdmaa
