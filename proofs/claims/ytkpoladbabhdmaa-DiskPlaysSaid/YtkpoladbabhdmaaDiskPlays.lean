/- DiskPlays: whatever is done, both disks answer alike. Conditions: none. -/
import Derived.Test.YtkpoladbabhdmaaAct6
import Derived.Test.YtkpoladbabhdmaaActs
import Derived.ChangeKeysEq
import Derived.Laws.StructEq
namespace Go.Proofs.Ytkpoladbabhdmaa
open Go.RowKit

theorem own_acts {w0 w : World} {l : List Thing} {b : Nat} {D : Dk} (h : Owns w0 l w) (i : Nat) (hi : l[i]? = some (disk b D)) :
    Calls Try.prog 35 #[.pointer (some ⟨b, 0, none⟩)] w (Gives (.agg #[.int .i64 D.a0, .int .i64 D.a1, .int .i64 D.a2]) w0 l w) := by
  obtain ⟨F, h1, _⟩ := h.at_ i hi
  exact own_returns h (acts_any h1)

theorem eq51 (w : World) (a b c : Int) : (Op.equalIn 10000 51 (.agg #[.int .i64 a, .int .i64 b, .int .i64 c]) (.agg #[.int .i64 a, .int .i64 b, .int .i64 c])).run Try.prog w = .ok true w := by
  have hi : (Try.prog.info? 2).isSome = true := by kernel_rfl
  obtain ⟨i, hi⟩ := Option.isSome_iff_exists.1 hi
  have hc : Try.prog.cellsOf 2 = 1 := by kernel_rfl
  rw [show (10000 : Nat) = 9999 + 1 from rfl, run_equalIn_array w 9999 _ _ Try.underlying51 hi, hc]
  rw [show List.range 3 = [0, 1, 2] from rfl, show (9999 : Nat) = 9998 + 1 from rfl]
  have he : ∀ x, (Op.equalIn (9998 + 1) 2 (.int .i64 x) (.int .i64 x)).run Try.prog w = .ok true w := fun x => by rw [run_equalIn_int w 9998 2 .i64 .i64 _ _ Try.underlying2]; simp
  simp [Op.eqItems, part, isAgg, run_underlying Try.underlying2, he]

set_option maxRecDepth 100000 in
set_option maxHeartbeats 4000000 in
theorem plays_walk (w : World) {n : Int} (_hn : int64 n) {v : Value} {ops : List Op6} (hops : OpsV w v ops) :
    Calls Try.prog 6 #[.int .i64 n, v] w (Returns (.bool true) (Below w.heap.size w)) := by
  have hnot : ∀ (x : Bool) (w : World), (Op.unary .not (.bool x)).run Try.prog w = .ok (.bool (!x)) w := fun _ _ => rfl
  obtain ⟨oa, oc, hv, hoc, hom⟩ := hops.shape
  have hob : ops.length ≤ 9223372036854775807 := by unfold maxLen at hom; omega
  have HV := Lib.hid hv
  have HO := Lib.hid hops
  rw [hv]
  clear hv hops hom hoc
  go_enter Try.func6, Try.ntmps6
  go_wp2_with (fail)
  refine (own_returns (Owns.none w) (awake6_any w)).mono ?_
  rintro e w1 ⟨rfl, hO1, -⟩
  go_wp2_with (fail)
  have hops1 : OpsV w1 (.slice oa ops.length oc) ops := by
    rw [← HV.out]; exact HO.out.old (Nat.le_refl _) (hO1.1.old (Nat.le_refl _) (by simp))
  refine (few6_any hops1).mono ?_
  rintro e w' ⟨x, rfl, hx, rfl⟩
  clear hops1
  cases x with
  | false =>
    go_wp2_with (fail)
    refine (own_returns hO1 (awake6_any w1)).mono ?_
    rintro e w2 ⟨rfl, hO2, -⟩
    go_wp2_with (fail)
    go_ret
    exact ⟨rfl, hO2.below⟩
  | true =>
    have h60 : ops.length ≤ 60 := hx rfl
    clear hx
    go_wp2_with (fail)
    refine (own_new hO1 n).mono ?_
    rintro e w2 ⟨b, rfl, hO2, -⟩
    clear hO1
    go_wp2_with (fail)
    refine (own_rnew hO2 n).mono ?_
    rintro e w3 ⟨c, rfl, hO3, -⟩
    have hO4 : Owns w [disk b (Dk.new n), rdisk c (Dk.new n)] w3 := hO3.pick (fun i => if i = 0 then 1 else 0) (by intro i T h; match i, h with | 0, h => simpa using h | 1, h => simpa using h) (by intro i j hi hj h; simp at hi hj h; split at h <;> split at h <;> omega)
    clear hO2 hO3
    go_wp2_with (fail)
    go_loopw [5, 6, 8] (fun s t i wr => ∃ (k b c : Nat) (D : Dk), k ≤ ops.length ∧ i = .int .i64 k ∧ s = .pointer (some ⟨b, 0, none⟩) ∧ t = .pointer (some ⟨c, 0, none⟩) ∧ D.all.length ≤ k ∧ Owns w [disk b D, rdisk c D] wr) (fun _ _ i _ => ops.length - (intOf i).toNat)
    case atStart => exact ⟨0, b, c, _, Nat.zero_le _, rfl, rfl, rfl, Nat.le_refl _, hO4⟩
    case round =>
      clear hO4
      obtain ⟨k, b, c, D, hk, rfl, rfl, rfl, hlen, hO⟩ := hrel
      by_cases hlt : k < ops.length
      · obtain ⟨o, ho⟩ : ∃ o, ops[k]? = some o := ⟨ops[k], List.getElem?_eq_getElem hlt⟩
        rcases HO.out with ⟨_, h0⟩ | ⟨g, off, cap, hg, _, _, hat⟩
        · subst h0; simp at hlt
        have ea : oa = some ⟨g, off, none⟩ := by have := HV.out; rw [hg] at this; cases this; rfl
        subst ea
        obtain ⟨ik, i_n, im, ck, cn, cm, kv, ckv, hkv⟩ := hat k o ho
        have hgl : g < w.heap.size := World.block_lt_of_cell? w _ ck
        have hblk := hO.1.block g hgl (by simp)
        rw [← World.cell?_of_block (w := w) (w' := wr) (a := ⟨g, off + k * 4, none⟩) hblk] at ck
        rw [← World.cell?_of_block (w := w) (w' := wr) (a := ⟨g, off + k * 4 + 1, none⟩) hblk] at cn
        rw [← World.cell?_of_block (w := w) (w' := wr) (a := ⟨g, off + k * 4 + 2, none⟩) hblk] at cm
        rw [← World.cell?_of_block (w := w) (w' := wr) (a := ⟨g, off + k * 4 + 3, none⟩) hblk] at ckv
        obtain ⟨ka, kc, hkve, _, _⟩ := hkv.shape
        subst hkve
        have hbig : D.all.length < Big := by unfold Big; omega
        have HKV := Lib.hid hkv
        have HOr := Lib.hid hO
        have HBG := Lib.hid hbig
        have HIN := Lib.hid i_n
        have HHL := Lib.hid hlen
        clear hg hat ho hblk hkv hO hbig ik i_n im hlen
        go_wp2_with (fail)
        refine (act6_any HOr.out o HIN.out HKV.out HBG.out).mono ?_
        rintro e w5 ⟨b5, c5, D5, rfl, hO5, hl5⟩
        have hlen5 : D5.all.length ≤ k + 1 := by have := HHL.out; omega
        have HL5 := Lib.hid hlen5
        clear hlen5 hl5 ck cn cm ckv
        go_wp2_with (fail)
        have hS : ∀ w', Owns w [disk b5 D5, rdisk c5 D5] w' → w'.cell? ⟨c5, 0, none⟩ = some (.int .i64 D5.size) ∧ w'.cell? ⟨c5, 4, none⟩ = some (.bool D5.down) ∧
            w'.cell? ⟨c5, 5, none⟩ = some (.int .i64 D5.a0) ∧ w'.cell? ⟨c5, 6, none⟩ = some (.int .i64 D5.a1) ∧ w'.cell? ⟨c5, 7, none⟩ = some (.int .i64 D5.a2) := by
          intro w' h
          obtain ⟨f0, -, f4, f5, f6, f7, -⟩ := own_rfields h 1 rfl
          exact ⟨f0, f4, f5, f6, f7⟩
        have heq := eq51
        have HS := Lib.hid hS
        have hOd := hO5.upd (Upd.refl [] w5).drew
        have HO5 := Lib.hid hOd
        obtain ⟨s0, s4, s5, s6, s7⟩ := hS _ hOd
        have s0 : w5.cell? ⟨c5, 0, none⟩ = some (.int .i64 D5.size) := s0
        have s4 : w5.cell? ⟨c5, 4, none⟩ = some (.bool D5.down) := s4
        have s5 : w5.cell? ⟨c5, 5, none⟩ = some (.int .i64 D5.a0) := s5
        have s6 : w5.cell? ⟨c5, 6, none⟩ = some (.int .i64 D5.a1) := s6
        have s7 : w5.cell? ⟨c5, 7, none⟩ = some (.int .i64 D5.a2) := s7
        clear hS hO5 hOd
        go_region_held3 (fun w' => w'.cell? ⟨c5, 0, none⟩ = some (.int .i64 D5.size) ∧ w'.cell? ⟨c5, 4, none⟩ = some (.bool D5.down) ∧
            w'.cell? ⟨c5, 5, none⟩ = some (.int .i64 D5.a0) ∧ w'.cell? ⟨c5, 6, none⟩ = some (.int .i64 D5.a1) ∧ w'.cell? ⟨c5, 7, none⟩ = some (.int .i64 D5.a2)) (first | exact ⟨s0, s4, s5, s6, s7⟩ | exact HS.out _ (by assumption))
          (first | (go_at_call 33; refine (own_size HO5.out 0 rfl).mono ?_; rintro e w' ⟨rfl, rfl⟩) | (go_at_call 30; refine (own_down HO5.out 0 rfl).mono ?_; rintro e w' ⟨rfl, rfl⟩) | (go_at_call 28; refine (own_pending HO5.out 0 rfl).mono ?_; rintro e w' ⟨rfl, rfl⟩) | (go_at_call 34; refine (own_rpending HO5.out 1 rfl).mono ?_; rintro e w' ⟨rfl, hw6⟩; have hO6 := HO5.out.upd (Upd.refl [] _).drew; rw [hw6] at hO6) | (go_at_call 35; refine (own_acts hO6 0 rfl).mono ?_; rintro e w7 ⟨rfl, hO7, -⟩))
        have HO7 := Lib.hid hO7
        clear hO7 hO6 heq s0 s4 s5 s6 s7
        go_wp2_with (fail)
        go_roundw
        case rel => exact ⟨k + 1, b5, c5, D5, by omega, by go_num, rfl, rfl, HL5.out, HO7.out⟩
        case measure => simp only [intOf]; omega
      · obtain rfl : k = ops.length := by omega
        have HB := Lib.hid hO.below
        clear hO hlen
        go_wp2_with (fail)
        go_ret
        exact ⟨rfl, HB.out⟩

end Go.Proofs.Ytkpoladbabhdmaa
