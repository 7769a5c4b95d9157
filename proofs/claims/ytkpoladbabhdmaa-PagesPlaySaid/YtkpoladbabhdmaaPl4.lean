/- The pages' Settle, Room, Used, Cached, Fresh; the reference's Used; two lists of numbers. Conditions: as each says. -/
import Derived.Test.YtkpoladbabhdmaaPl2
namespace Go.Proofs.Ytkpoladbabhdmaa
open Go.RowKit

/-! ### the numbers of the pages that are held or fresh -/

def usedTo (is : List Int) (k : Nat) : List Int := ((List.range k).filter fun i => decide (is[i]? = some 1 ∨ is[i]? = some 2)).map fun i : Nat => (i : Int)
theorem usedTo_zero (is : List Int) : usedTo is 0 = [] := rfl
theorem usedTo_len (is : List Int) (k : Nat) : (usedTo is k).length ≤ k := by
  unfold usedTo
  rw [List.length_map]
  exact Nat.le_trans (List.length_filter_le _ _) (by rw [List.length_range]; omega)
theorem usedTo_yes {is : List Int} {k : Nat} (h : is[k]? = some 1 ∨ is[k]? = some 2) : usedTo is (k + 1) = usedTo is k ++ [(k : Int)] := by
  unfold usedTo
  rw [List.range_succ, List.filter_append, List.map_append, List.filter_cons, if_pos (by simpa using h)]
  rfl
theorem usedTo_no {is : List Int} {k : Nat} (h : ¬ (is[k]? = some 1 ∨ is[k]? = some 2)) : usedTo is (k + 1) = usedTo is k := by
  unfold usedTo
  rw [List.range_succ, List.filter_append, List.map_append, List.filter_cons, if_neg (by simpa using h)]
  simp

/-- ints that are gathered by a function that began in the world w -/
structure GatherI (w wk : World) (v : Value) (L : List Int) : Prop where
  ints : IntsO wk v L
  upd : Upd [] w wk
  new : ∀ k, v.ownBlock = some k → w.heap.size ≤ k

theorem GatherI.start (w : World) : GatherI w w (.slice none 0 0) [] := ⟨World.ownsRow_nil w 0 3 1, Upd.refl [] w, by intro k hk; cases hk⟩

theorem GatherI.push {w wk : World} {v : Value} {L : List Int} (h : GatherI w wk v L) (x : Int) (hl : L.length ≤ 1000000) {n : Nat} (hn : L.length + 1 = n) (ty : TypeId) :
    ∃ a' c' w', (Builtin.append_ #[100, 100] ty #[v, .slice (some ⟨wk.heap.size, 0, none⟩) 1 1]).run Try.prog (wk.alloc (.cells #[.int .i64 x] 3)) = .ok (.slice a' n c') w' ∧ GatherI w w' (.slice a' n c') (L ++ [x]) := by
  have hu1 := (Upd.refl [] wk).alloc (.cells #[.int .i64 x] 3)
  have ho1 : IntsO (wk.alloc (.cells #[.int .i64 x] 3)) v L := h.ints.upd hu1 (by simp)
  have hU := h.upd.trans hu1 (by simp)
  have hrow := heap_alloc_new' wk (.cells #[.int .i64 x] 3)
  obtain ⟨v', w', hr, ho', hg, hm⟩ := run_append_here (P := Try.prog) (wk.alloc (.cells #[.int .i64 x] 3)) 100 ty 3 Try.underlying100 (show (Try.prog.info? 3).map (fun i => (i.zero, i.size, i.bytes)) = some (some (.int .i64 0), 1, 8) by kernel_rfl) rfl (by decide) v L.length (L.map gint) ho1 ⟨wk.heap.size, 0, none⟩ 1 1 [.int .i64 x] rfl
    (fun j u hu => by
      rw [Addr.add_lit]
      match j, hu with
      | 0, hu => simp at hu; subst hu; exact cell_of_heap hrow rfl
      | j + 1, hu => simp at hu) (by intro u hu; simp at hu; subst hu; rfl) (by unfold maxLen; omega) (by omega)
  have ho2 : IntsO w' v' (L ++ [x]) := by
    show w'.ownsRow 0 3 1 v' (L ++ [x]).length ((L ++ [x]).map gint)
    rw [List.length_append, List.map_append]
    exact ho'
  obtain ⟨a', c', rfl, _, _⟩ := ho2.shape
  rw [List.length_append, List.length_singleton, hn] at hr ho2 hm
  refine ⟨a', c', w', hr, ho2, hU.grown hg (fun k hk => .inr (h.new k hk)) (fun k hk => .inl (h.new k hk)), fun k hk => ?_⟩
  rcases hm with hm | ⟨r, hm, hr⟩
  · rw [hm] at hk; exact h.new k hk
  · rw [hm] at hk; cases hk; exact Nat.le_trans hU.size hr

def UsedIs (U : List Int) (w : World) (e : Ending) (w' : World) : Prop := ∃ a len c, e = .returned (.slice a len c) ∧ IntsO w' (.slice a len c) U ∧ Upd [] w w'

section
variable {w0 w : World} {l : List Thing} {C : PC} {S : PS} {us : Value}

set_option maxRecDepth 100000 in
set_option maxHeartbeats 2000000 in
theorem own_pused (h : Owns w0 (pth C S us l) w) (hl : S.is.length ≤ 100000) : Calls Try.prog 67 #[.pointer (some ⟨C.p, 0, none⟩)] w (UsedIs (usedTo S.is S.is.length) w) := by
  obtain ⟨-, -, -, p3, -, -, -, plt⟩ := own_pg h
  have H := Lib.hid h
  clear h
  go_enter Try.func67, Try.ntmps67
  go_wp2_with (fail)
  go_loopw [3, 13] (fun v i wr => ∃ (k : Nat) (a : Option Addr) (n c : Nat), k ≤ S.is.length ∧ i = .int .i64 (k : Int) ∧ v = .slice a n c ∧ n ≤ k ∧ GatherI w wr (.slice a n c) (usedTo S.is k)) (fun _ i _ => S.is.length - (intOf i).toNat)
  case atStart => exact ⟨0, none, 0, 0, Nat.zero_le _, rfl, rfl, Nat.le_refl _, by rw [usedTo_zero]; exact GatherI.start w⟩
  case round =>
    obtain ⟨k, a, n, c, hk, rfl, rfl, hnk, hG⟩ := hrel
    have hlen : (usedTo S.is k).length = n := by obtain ⟨a', c', he, _, _⟩ := hG.ints.shape; cases he; rfl
    by_cases hlt : k < S.is.length
    · obtain ⟨x, hx⟩ : ∃ x, S.is[k]? = some x := ⟨_, List.getElem?_eq_getElem hlt⟩
      have hcx := own_is (H.out.upd hG.upd) hx
      by_cases hyes : x = 1 ∨ x = 2
      · have hsu := usedTo_yes (is := S.is) (k := k) (by rcases hyes with rfl | rfl <;> simp [hx])
        obtain ⟨a', c', w', hr, hG'⟩ := hG.push (k : Int) (by omega) (n := n + 1) (by omega) 100
        rw [← hsu] at hG'
        have HR := Lib.hid hr
        have HG := Lib.hid hG'
        clear hG hr hG' hx hlen hsu
        rcases hyes with rfl | rfl
        all_goals
          go_wp2_with (at_builtin; refine wpList_append_ran _ rfl _ _ 100 100 rfl rfl rfl HR.out ?_)
          go_roundw
          case rel => exact ⟨k + 1, a', n + 1, c', by omega, by go_num, rfl, by omega, HG.out⟩
          case measure => simp only [intOf]; omega
      · have h1 : (x == 1) = false := by rw [beq_eq_false_iff_ne]; exact fun e => hyes (.inl e)
        have h2 : (x == 2) = false := by rw [beq_eq_false_iff_ne]; exact fun e => hyes (.inr e)
        have HG : Hid (GatherI w wr (.slice a n c) (usedTo S.is (k + 1))) := Lib.hid (by
          rw [usedTo_no (by rw [hx]; simpa using hyes)]; exact hG)
        clear hG hx hlen hyes
        go_wp2_with (fail)
        go_roundw
        case rel => exact ⟨k + 1, a, n, c, by omega, by go_num, rfl, by omega, HG.out⟩
        case measure => simp only [intOf]; omega
    · obtain rfl : k = S.is.length := by omega
      have HF : Hid (UsedIs (usedTo S.is S.is.length) w (.returned (.slice a n c)) wr) := Lib.hid ⟨a, n, c, rfl, hG.ints, hG.upd⟩
      clear hG hlen
      go_wp2_with (fail)
      go_ret
      exact HF.out

set_option maxRecDepth 100000 in
set_option maxHeartbeats 2000000 in
theorem own_rused {R : RC} {is : List Int} {B : List Bytes} (h : Owns w0 (rth R is B l) w) (hl : is.length ≤ 100000) : Calls Try.prog 74 #[.pointer (some ⟨R.r, 0, none⟩)] w (UsedIs (usedTo is is.length) w) := by
  have H := Lib.hid h
  clear h
  go_enter Try.func74, Try.ntmps74
  go_wp2_with (fail)
  go_loopw [3, 4] (fun v i wr => ∃ (k : Nat) (a : Option Addr) (n c : Nat), k ≤ is.length ∧ i = .int .i64 (k : Int) ∧ v = .slice a n c ∧ n ≤ k ∧ GatherI w wr (.slice a n c) (usedTo is k)) (fun _ i _ => is.length - (intOf i).toNat)
  case atStart => exact ⟨0, none, 0, 0, Nat.zero_le _, rfl, rfl, Nat.le_refl _, by rw [usedTo_zero]; exact GatherI.start w⟩
  case round =>
    obtain ⟨k, a, n, c, hk, rfl, rfl, hnk, hG⟩ := hrel
    have hlen : (usedTo is k).length = n := by obtain ⟨a', c', he, _, _⟩ := hG.ints.shape; cases he; rfl
    obtain ⟨r0, -, rlt, -, -⟩ := own_rp (H.out.upd hG.upd)
    by_cases hlt : k < is.length
    · obtain ⟨x, hx⟩ : ∃ x, is[k]? = some x := ⟨_, List.getElem?_eq_getElem hlt⟩
      have hcx := own_ris (H.out.upd hG.upd) hx
      by_cases hyes : x = 1 ∨ x = 2
      · have hsu := usedTo_yes (is := is) (k := k) (by rcases hyes with rfl | rfl <;> simp [hx])
        obtain ⟨a', c', w', hr, hG'⟩ := hG.push (k : Int) (by omega) (n := n + 1) (by omega) 100
        rw [← hsu] at hG'
        have HR := Lib.hid hr
        have HG := Lib.hid hG'
        clear hG hr hG' hx hlen hsu
        rcases hyes with rfl | rfl
        all_goals
          go_wp2_with (at_builtin; refine wpList_append_ran _ rfl _ _ 100 100 rfl rfl rfl HR.out ?_)
          go_roundw
          case rel => exact ⟨k + 1, a', n + 1, c', by omega, by go_num, rfl, by omega, HG.out⟩
          case measure => simp only [intOf]; omega
      · have h1 : (x == 1) = false := by rw [beq_eq_false_iff_ne]; exact fun e => hyes (.inl e)
        have h2 : (x == 2) = false := by rw [beq_eq_false_iff_ne]; exact fun e => hyes (.inr e)
        have HG : Hid (GatherI w wr (.slice a n c) (usedTo is (k + 1))) := Lib.hid (by
          rw [usedTo_no (by rw [hx]; simpa using hyes)]; exact hG)
        clear hG hx hlen hyes
        go_wp2_with (fail)
        go_roundw
        case rel => exact ⟨k + 1, a, n, c, by omega, by go_num, rfl, by omega, HG.out⟩
        case measure => simp only [intOf]; omega
    · obtain rfl : k = is.length := by omega
      have HF : Hid (UsedIs (usedTo is is.length) w (.returned (.slice a n c)) wr) := Lib.hid ⟨a, n, c, rfl, hG.ints, hG.upd⟩
      clear hG hlen
      go_wp2_with (fail)
      go_ret
      exact HF.out

theorem IntsO.at_ {w : World} {a : Option Addr} {n c : Nat} {L : List Int} (h : IntsO w (.slice a n c) L) {k : Nat} {x : Int} (hx : L[k]? = some x) : ∃ g, a = some ⟨g, 0, none⟩ ∧ w.cell? ⟨g, k, none⟩ = some (.int .i64 x) := by
  rcases h.block with ⟨_, h0⟩ | ⟨g, _, _, he, _⟩
  · rw [h0] at hx; simp at hx
  · cases he; exact ⟨g, rfl, h.cell hx⟩

set_option maxRecDepth 100000 in
set_option maxHeartbeats 1000000 in
theorem ints_same {w : World} {a1 a2 : Option Addr} {n1 n2 c1 c2 : Nat} {L : List Int} (h1 : IntsO w (.slice a1 n1 c1) L) (h2 : IntsO w (.slice a2 n2 c2) L) (hl : L.length ≤ 100000) : Calls Try.prog 73 #[.slice a1 n1 c1, .slice a2 n2 c2] w (Returns (.bool true) (Upd [] w)) := by
  have e1 : n1 = L.length := by obtain ⟨_, _, he, _, _⟩ := h1.shape; cases he; rfl
  have e2 : n2 = L.length := by obtain ⟨_, _, he, _, _⟩ := h2.shape; cases he; rfl
  subst e1
  subst e2
  have H1 := Lib.hid h1
  have H2 := Lib.hid h2
  clear h1 h2
  go_enter Try.func73, Try.ntmps73
  go_wp2_with (fail)
  go_loopw [5] (fun i wr => ∃ k : Nat, k ≤ L.length ∧ i = .int .i64 (k : Int) ∧ Upd [] w wr) (fun i _ => L.length - (intOf i).toNat)
  case atStart => exact ⟨0, Nat.zero_le _, rfl, Upd.refl [] w⟩
  case round =>
    obtain ⟨k, hk, rfl, hU⟩ := hrel
    by_cases hlt : k < L.length
    · obtain ⟨x, hx⟩ : ∃ x, L[k]? = some x := ⟨_, List.getElem?_eq_getElem hlt⟩
      obtain ⟨g1, rfl, q1⟩ := (H1.out.upd hU (by simp)).at_ hx
      obtain ⟨g2, rfl, q2⟩ := (H2.out.upd hU (by simp)).at_ hx
      have HU := Lib.hid hU.drew
      clear hU hx
      go_wp2_with (fail)
      go_region
      go_wp2_with (fail)
      go_roundw
      case rel => exact ⟨k + 1, by omega, by go_num, HU.out⟩
      case measure => simp only [intOf]; omega
    · obtain rfl : k = L.length := by omega
      have HU := Lib.hid hU
      clear hU
      go_wp2_with (fail)
      go_ret
      exact ⟨rfl, HU.out⟩

set_option maxRecDepth 100000 in
set_option maxHeartbeats 1000000 in
theorem own_proom (h : Owns w0 (pth C S us l) w) (hl : S.is.length ≤ 100000) : Calls Try.prog 66 #[.pointer (some ⟨C.p, 0, none⟩)] w fun e w' => e = .returned (.int .i64 (S.is.count 0 : Int)) ∧ w = w' := by
  obtain ⟨-, -, -, p3, -, -, -, plt⟩ := own_pg h
  have H := Lib.hid h
  clear h
  go_enter Try.func66, Try.ntmps66
  go_wp2_with (fail)
  go_loopw [3, 13] (fun n i wr => ∃ k : Nat, k ≤ S.is.length ∧ i = .int .i64 (k : Int) ∧ (∃ c : Nat, c = (S.is.take k).count 0 ∧ c ≤ k ∧ n = .int .i64 (c : Int)) ∧ wr = w) (fun _ i _ => S.is.length - (intOf i).toNat)
  case atStart => exact ⟨0, Nat.zero_le _, rfl, ⟨0, by simp, Nat.zero_le _, rfl⟩, rfl⟩
  case round =>
    obtain ⟨k, hk, rfl, ⟨c, hc, hck, rfl⟩, rfl⟩ := hrel
    by_cases hlt : k < S.is.length
    · obtain ⟨x, hx⟩ : ∃ x, S.is[k]? = some x := ⟨_, List.getElem?_eq_getElem hlt⟩
      have hcx := own_is H.out hx
      have hcs := count_succ hx 0
      rw [← hc] at hcs
      have HCS := Lib.hid hcs
      clear hx hc hcs
      by_cases hxm : x = 0
      · subst hxm
        go_wp2_with (fail)
        go_roundw
        case rel => exact ⟨k + 1, by omega, by go_num, ⟨c + 1, by rw [HCS.out, if_pos rfl], by omega, by go_num⟩, trivial⟩
        case measure => simp only [intOf]; omega
      · have hxm' : (x == 0) = false := by rw [beq_eq_false_iff_ne]; exact hxm
        have HX := Lib.hid hxm
        clear hxm
        go_wp2_with (fail)
        go_roundw
        case rel => exact ⟨k + 1, by omega, by go_num, ⟨c, by rw [HCS.out, if_neg HX.out]; rfl, by omega, rfl⟩, trivial⟩
        case measure => simp only [intOf]; omega
    · obtain rfl : k = S.is.length := by omega
      rw [List.take_length] at hc
      have HC := Lib.hid hc
      clear hc
      go_wp2_with (fail)
      go_ret
      exact ⟨by rw [HC.out]; rfl, rfl⟩

set_option maxRecDepth 100000 in
theorem own_pcached (h : Owns w0 (pth C S us l) w) (hn : FNodup S.fs) : Calls Try.prog 68 #[.pointer (some ⟨C.p, 0, none⟩)] w fun e w' => e = .returned (.int .i64 (S.fs.length : Int)) ∧ w = w' := by
  obtain ⟨-, -, -, -, p4, -, -, plt⟩ := own_pg h
  have hml := fun ty => own_maplen h hn ty
  clear h
  go_enter Try.func68, Try.ntmps68
  go_wp2_with (fail)
  go_ret
  exact ⟨rfl, rfl⟩

set_option maxRecDepth 100000 in
theorem own_pfresh (h : Owns w0 (pth C S us l) w) (n : Int) : Calls Try.prog 69 #[.pointer (some ⟨C.p, 0, none⟩), .int .i64 n] w fun e w' => e = .returned (.bool (S.at_ n == 2)) ∧ w = w' := by
  have hof := own_of h n
  have HOF := Lib.hid hof
  clear h hof
  generalize S.at_ n = an at HOF ⊢
  go_enter Try.func69, Try.ntmps69
  go_wp2_with (fail)
  refine HOF.out.mono ?_
  rintro e w' ⟨rfl, rfl⟩
  clear HOF
  go_wp2_with (fail)
  go_ret
  exact ⟨rfl, rfl⟩

set_option maxRecDepth 100000 in
set_option maxHeartbeats 2000000 in
theorem own_psettle (h : Owns w0 (pth C S us l) w) (hl : S.is.length ≤ 100000) : Calls Try.prog 65 #[.pointer (some ⟨C.p, 0, none⟩)] w fun e w' => e = .returned (.tuple #[]) ∧ Owns w0 (pth C { S with is := settle S.is } us l) w' ∧ Keeps w w' := by
  have hgl : ∀ k, (settleTo S.is k).length = S.is.length := settleTo_len S.is
  obtain ⟨-, -, -, p3, -, -, -, plt⟩ := own_pg h
  have H := Lib.hid h
  clear h
  go_enter Try.func65, Try.ntmps65
  go_wp2_with (fail)
  clear p3 plt
  go_loopw [11] (fun x wr => ∃ k : Nat, k ≤ S.is.length ∧ x = .int .i64 (k : Int) ∧ Owns w0 (pth C { S with is := settleTo S.is k } us l) wr ∧ Keeps w wr) (fun x _ => S.is.length - (intOf x).toNat)
  case atStart => exact ⟨0, Nat.zero_le _, rfl, by rw [settleTo_zero]; exact H.out, Keeps.refl w⟩
  case round =>
    obtain ⟨k, hk, rfl, hO, hkp⟩ := hrel
    obtain ⟨-, -, -, p3, -, -, -, plt⟩ := own_pg hO
    have p3 : wr.cell? ⟨C.p, 3, none⟩ = some (.slice (some ⟨C.isb, 0, none⟩) S.is.length S.is.length) := by rw [p3, hgl]
    have r1 := own_row hO 1 rfl
    have hz : wr.frozen? ⟨C.isb, k, none⟩ = false := free_of_heap r1
    have rilt := lt_of_heap r1
    clear r1
    by_cases hlt : k < S.is.length
    · obtain ⟨x, hx⟩ : ∃ x, S.is[k]? = some x := ⟨_, List.getElem?_eq_getElem hlt⟩
      have hc : wr.cell? ⟨C.isb, k, none⟩ = some (.int .i64 x) := own_is hO (settleTo_at hx)
      have hsu := settleTo_succ hx
      have HX := Lib.hid hx
      clear hx
      by_cases h2 : x = 2
      · subst h2
        obtain ⟨q1, q2⟩ := pth_is_set hO (k := k) 1
        have HQ : Hid (Owns w0 (pth C { S with is := settleTo S.is (k + 1) } us l) (wr.setCell ⟨C.isb, k, none⟩ (.int .i64 1))) := Lib.hid (by rw [hsu]; exact q1)
        have HK := Lib.hid (hkp.trans q2)
        clear q1 q2 hO hkp hsu
        go_wp2_with (fail)
        go_roundw
        case rel => exact ⟨k + 1, by omega, by go_num, HQ.out, HK.out⟩
        case measure => simp only [intOf]; omega
      · have k2 : (x == 2) = false := by rw [beq_eq_false_iff_ne]; exact h2
        by_cases h3 : x = 3
        · subst h3
          obtain ⟨q1, q2⟩ := pth_is_set hO (k := k) 0
          have HQ : Hid (Owns w0 (pth C { S with is := settleTo S.is (k + 1) } us l) (wr.setCell ⟨C.isb, k, none⟩ (.int .i64 0))) := Lib.hid (by rw [hsu]; exact q1)
          have HK := Lib.hid (hkp.trans q2)
          clear q1 q2 hO hkp hsu k2 h2
          go_wp2_with (fail)
          go_roundw
          case rel => exact ⟨k + 1, by omega, by go_num, HQ.out, HK.out⟩
          case measure => simp only [intOf]; omega
        · have k3 : (x == 3) = false := by rw [beq_eq_false_iff_ne]; exact h3
          have e : settleTo S.is (k + 1) = settleTo S.is k := by
            rw [hsu]
            have e1 : settle1 x = x := by unfold settle1; rw [if_neg h2, if_neg h3]
            rw [e1]
            apply List.ext_getElem?
            intro j
            rw [List.getElem?_set]
            split
            · rename_i hj
              subst hj
              rw [settleTo_at HX.out, if_pos (by rw [settleTo_len]; exact hlt)]
            · rfl
          have HQ : Hid (Owns w0 (pth C { S with is := settleTo S.is (k + 1) } us l) wr) := Lib.hid (by rw [e]; exact hO)
          have HK := Lib.hid hkp
          clear hO hkp hsu h2 h3 e
          go_wp2_with (fail)
          go_roundw
          case rel => exact ⟨k + 1, by omega, by go_num, HQ.out, HK.out⟩
          case measure => simp only [intOf]; omega
    · obtain rfl : k = S.is.length := by omega
      rw [settleTo_all] at hO
      have HO := Lib.hid hO
      have HK := Lib.hid hkp
      clear hO hkp
      go_wp2_with (fail)
      go_end0
      exact ⟨rfl, HO.out, HK.out⟩
end

end Go.Proofs.Ytkpoladbabhdmaa
