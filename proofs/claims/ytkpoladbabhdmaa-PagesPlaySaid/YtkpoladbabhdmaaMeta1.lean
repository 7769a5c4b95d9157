/- Numbers as bytes: append64. Conditions: as each says. -/
import Derived.Test.YtkpoladbabhdmaaDiskO
import Derived.Test.YtkpoladbabhdmaaLaw6a
import Derived.Deep.DeepMust
import Derived.Laws.BitsAllLaws
namespace Go.Proofs.Ytkpoladbabhdmaa
open Go.RowKit

/-- the first k bytes of a number of 64 bits, the highest first -/
def beUp (x : Int) (k : Nat) : Bytes := (List.range k).map fun j => u8 (x / 2 ^ (56 - 8 * j))
def be64 (x : Int) : Bytes := beUp x 8
theorem beUp_len (x : Int) (k : Nat) : (beUp x k).length = k := by simp [beUp]
theorem beUp_succ (x : Int) (k : Nat) : beUp x (k + 1) = beUp x k ++ [u8 (x / 2 ^ (56 - 8 * k))] := by simp [beUp, List.range_succ]

set_option maxRecDepth 100000 in
set_option maxHeartbeats 1000000 in
theorem append64_any {w0 w : World} {v : Value} {l : Bytes} {x : Int} (hU : Upd [] w0 w) (hb : BytesO w v l) (hnew : ∀ g, v.ownBlock = some g → w0.heap.size ≤ g) (hl : l.length ≤ 1000) :
    Calls Try.prog 107 #[v, .int .u64 x] w (MadeBytes (l ++ be64 x) w0) := by
  go_enter Try.func107, Try.ntmps107
  go_wp2_with (fail)
  go_loopw [0, 5] (fun s i wr => ∃ (k : Nat) (j : Int), k ≤ 8 ∧ i = .int .i64 j ∧ j = 56 - 8 * (k : Int) ∧ ∃ a c, s = .slice a (l.length + k) c ∧ BytesO wr s (l ++ beUp x k) ∧ Upd [] w0 wr ∧ ∀ g, s.ownBlock = some g → w0.heap.size ≤ g) (fun _ i _ => (intOf i + 8).toNat)
  case atStart =>
    obtain ⟨a, c, hv, _, _⟩ := hb.view.shape
    exact ⟨0, _, by omega, rfl, by omega, a, c, hv, by simpa [beUp] using hb, hU, hnew⟩
  case round =>
    clear hU hb hnew
    obtain ⟨k, j, hk, rfl, hj, a, c, rfl, hb, hU, hnew⟩ := hrel
    have HB := Lib.hid hb
    have HU := Lib.hid hU
    have HN := Lib.hid hnew
    clear hb hU hnew
    by_cases hlt : k < 8
    · have hj0 : 0 ≤ j := by omega
      have hj1 : j ≤ 56 := by omega
      have HJ := Lib.hid hj
      clear hj
      have hjn : j.toNat = 56 - 8 * k := by have := HJ.out; omega
      have hel : Value.int .u8 (x / 2 ^ j.toNat % 256) = byte (Ytkpoladbabhdmaa.u8 (x / 2 ^ (56 - 8 * k))) := by rw [byte_u8, hjn]
      have hown : (wr.alloc (.cells #[.int .u8 (x / 2 ^ j.toNat % 256)] 5)).ownsRow 0 5 1 (.slice a (l.length + k) c) (l.length + k) ((l ++ beUp x k).map byte) := by
        have hb := HB.out
        have h1 : wr.ownsRow 0 5 1 (.slice a (l.length + k) c) (l ++ beUp x k).length ((l ++ beUp x k).map byte) := hb
        rw [List.length_append, beUp_len] at h1
        exact h1.alloc _
      have hnews : ∀ (q : Nat) (u : Value), [Value.int .u8 (x / 2 ^ j.toNat % 256)][q]? = some u → (wr.alloc (.cells #[.int .u8 (x / 2 ^ j.toNat % 256)] 5)).cell? ((⟨wr.heap.size, 0, none⟩ : Addr).add q) = some u := by
        intro q u hu
        rw [Addr.add_lit, World.cell?_alloc_new]
        simpa using hu
      have hone : ∀ u ∈ [Value.int .u8 (x / 2 ^ j.toNat % 256)], u.oneCell' = true := by
        intro u hu
        simp only [List.mem_cons, List.not_mem_nil, or_false] at hu
        subst hu; rfl
      have hbd : (l.length + k) + 1 ≤ maxLen ∧ ((l.length + k) + 1) * 1 ≤ 140737488355328 := by unfold maxLen; omega
      have hfin : ∀ v' w', w'.ownsRow 0 5 1 v' (l.length + k + 1) ((l ++ beUp x k).map byte ++ [Value.int .u8 (x / 2 ^ j.toNat % 256)]) → (wr.alloc (.cells #[.int .u8 (x / 2 ^ j.toNat % 256)] 5)).grownBy w' (Value.slice a (l.length + k) c).ownBlock →
          Moved (wr.alloc (.cells #[.int .u8 (x / 2 ^ j.toNat % 256)] 5)) (.slice a (l.length + k) c) v' →
          (∃ a' c', v' = .slice a' (l.length + (k + 1)) c') ∧ BytesO w' v' (l ++ beUp x (k + 1)) ∧ Upd [] w0 w' ∧ ∀ g, v'.ownBlock = some g → w0.heap.size ≤ g := by
        intro v' w' ho hg hm
        have hbb : BytesO w' v' (l ++ beUp x (k + 1)) := by
          rw [hel] at ho
          have e1 : l ++ beUp x (k + 1) = (l ++ beUp x k) ++ [Ytkpoladbabhdmaa.u8 (x / 2 ^ (56 - 8 * k))] := by rw [beUp_succ, List.append_assoc]
          rw [e1]
          show w'.ownsRow 0 5 1 v' (((l ++ beUp x k) ++ [Ytkpoladbabhdmaa.u8 (x / 2 ^ (56 - 8 * k))]).length) _
          rw [List.map_append, List.length_append, List.length_append, beUp_len]
          exact ho
        obtain ⟨a', c', hv', _, _⟩ := ownsRow_shape ho
        refine ⟨⟨a', c', hv'⟩, hbb, (HU.out.alloc _).grown hg (fun q hq => .inr (HN.out q hq)) (fun q hq => .inl (HN.out q hq)), fun q hq => ?_⟩
        rcases hm with hm | ⟨r, hm, hr⟩
        · rw [hm] at hq; exact HN.out q hq
        · rw [hm] at hq; cases hq
          have := HU.out.size
          rw [size_alloc] at hr; omega
      have HW := Lib.hid hown
      have HNW := Lib.hid hnews
      have HO := Lib.hid hone
      have HBD := Lib.hid hbd
      have HF := Lib.hid hfin
      clear hjn hel hown hnews hone hbd hfin
      go_wp2_with (at_builtin; go_must (refine wpList_append_here _ rfl _ _ 33 rfl 5 Try.underlying33 Try.info5 rfl (by decide) _ _ _ rfl HW.out ⟨wr.heap.size, 0, none⟩ 1 1 [.int .u8 (x / 2 ^ j.toNat % 256)] rfl rfl HNW.out HO.out HBD.out.1 HBD.out.2 ?_))
      intro v' w' ho hg hm
      obtain ⟨⟨a', c', hv'⟩, r2, r3, r4⟩ := HF.out v' w' (by rw [List.map_append, List.append_assoc]; exact ho) hg hm
      subst hv'
      have R2 := Lib.hid r2
      have R3 := Lib.hid r3
      have R4 := Lib.hid r4
      clear r2 r3 r4 ho hg hm
      go_wp2_with (fail)
      go_roundw
      case rel => exact ⟨k + 1, _, by omega, rfl, by have := HJ.out; omega, a', c', rfl, R2.out, R3.out, R4.out⟩
      case measure => simp only [intOf]; omega
    · obtain rfl : k = 8 := by omega
      have hj0 : j < 0 := by omega
      have hfin : MadeBytes (l ++ be64 x) w0 (.returned (.slice a (l.length + 8) c)) wr := ⟨_, rfl, HB.out, HU.out, HN.out⟩
      have HF := Lib.hid hfin
      clear hfin hj
      go_wp2_with (fail)
      go_ret
      exact HF.out

/-- what bytes read as a number, the highest first -/
def beNum (l : Bytes) : Nat := l.foldl (fun n b => n * 256 + b.toNat) 0
theorem beNum_snoc (l : Bytes) (b : UInt8) : beNum (l ++ [b]) = beNum l * 256 + b.toNat := by simp [beNum]
theorem beNum_lt (l : Bytes) : beNum l < 256 ^ l.length := by
  have key : ∀ (m : Bytes) (n : Nat), m.foldl (fun n b => n * 256 + b.toNat) n < (n + 1) * 256 ^ m.length := by
    intro m
    induction m with
    | nil => intro n; simp
    | cons b m ih =>
      intro n
      have h := ih (n * 256 + b.toNat)
      have hb := b.toNat_lt
      simp only [List.foldl_cons, List.length_cons]
      refine Nat.lt_of_lt_of_le h ?_
      rw [Nat.pow_succ, Nat.mul_comm (256 ^ m.length) 256, ← Nat.mul_assoc]
      exact Nat.mul_le_mul_right _ (by omega)
  have := key l 0
  simpa [beNum] using this

theorem or_byte (n : Nat) (b : UInt8) (h : n < 72057594037927936) : bits .or .u64 (IntKind.u64.wrap ((n : Int) * 256)) (IntKind.u64.wrap (b.toNat : Int)) = ((n * 256 + b.toNat : Nat) : Int) := by
  have hb := b.toNat_lt
  have e1 : IntKind.u64.wrap ((n : Int) * 256) = ((n * 256 : Nat) : Int) := by simp [IntKind.wrap, IntKind.signed, IntKind.bits]; omega
  have e2 : IntKind.u64.wrap (b.toNat : Int) = (b.toNat : Int) := by simp [IntKind.wrap, IntKind.signed, IntKind.bits]; omega
  rw [e1, e2, u64_or_nat _ _ (by omega) (by omega)]
  have := Nat.two_pow_add_eq_or_of_lt (i := 8) (b := b.toNat) (by omega) n
  have e3 : n * 256 = 2 ^ 8 * n := by omega
  rw [e3, ← this]

set_option maxRecDepth 100000 in
set_option maxHeartbeats 1000000 in
theorem get64_any {w : World} {v : Value} {l : Bytes} (hv : BytesV w v l) (h8 : 8 ≤ l.length) :
    Calls Try.prog 108 #[v] w fun e w' => e = .returned (.int .u64 (beNum (l.take 8))) ∧ w = w' := by
  have hne : l ≠ [] := by rintro rfl; simp at h8
  rcases hv with ⟨_, h00⟩ | ⟨g, off, cap, rfl, hlc, hcm, hcell⟩
  · exact absurd h00 hne
  have HC := Lib.hid hcell
  have hb : l.length ≤ 9223372036854775807 := by unfold maxLen at hcm; omega
  clear hcell hne
  go_enter Try.func108, Try.ntmps108
  go_wp2_with (fail)
  go_loopw [3, 9] (fun x i wr => ∃ k : Nat, k ≤ 8 ∧ i = .int .i64 k ∧ x = .int .u64 (beNum (l.take k)) ∧ wr = w) (fun _ i _ => 8 - (intOf i).toNat)
  case atStart => exact ⟨0, by omega, rfl, by simp [beNum], rfl⟩
  case round =>
    obtain ⟨k, hk, rfl, rfl, rfl⟩ := hrel
    by_cases hlt : k < 8
    · obtain ⟨b, hbk⟩ : ∃ b, l[k]? = some b := ⟨l[k]'(by omega), List.getElem?_eq_getElem _⟩
      have hcb : wr.cell? ⟨g, off + k, none⟩ = some (.int .u8 (b.toNat : Int)) := HC.out k b hbk
      have hsn : beNum (l.take (k + 1)) = beNum (l.take k) * 256 + b.toNat := by
        rw [List.take_add_one, hbk, Option.toList_some, beNum_snoc]
      have hsm : beNum (l.take k) < 72057594037927936 := by
        have h1 := beNum_lt (l.take k)
        have h2 : (l.take k).length ≤ 7 := by rw [List.length_take]; omega
        have h3 : 256 ^ (l.take k).length ≤ 256 ^ 7 := Nat.pow_le_pow_right (by omega) h2
        omega
      have hor := or_byte _ b hsm
      rw [← hsn] at hor
      have HOR := Lib.hid hor
      clear hor hsn hsm hbk
      go_wp2_with (fail)
      go_roundw
      case rel => exact ⟨k + 1, by omega, by go_num, by rw [HOR.out], trivial⟩
      case measure => simp only [intOf]; omega
    · obtain rfl : k = 8 := by omega
      go_wp2_with (fail)
      go_ret
      exact ⟨rfl, rfl⟩

end Go.Proofs.Ytkpoladbabhdmaa
