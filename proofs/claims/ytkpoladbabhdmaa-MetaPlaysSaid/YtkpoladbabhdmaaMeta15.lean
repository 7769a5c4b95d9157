/- The reference's Read. Conditions: as each says. -/
import Derived.Test.YtkpoladbabhdmaaMeta14
import Derived.Test.YtkpoladbabhdmaaMeta6
import Derived.Deep.RegionLaw
import Derived.RegionTactic
namespace Go.Proofs.Ytkpoladbabhdmaa
open Go.RowKit

theorem beNum_inj : ∀ (n : Nat) (l m : Bytes), l.length = n → m.length = n → beNum l = beNum m → l = m
  | 0, l, m, hl, hm, _ => by rw [List.eq_nil_of_length_eq_zero hl, List.eq_nil_of_length_eq_zero hm]
  | n + 1, l, m, hl, hm, h => by
    have hl0 : l ≠ [] := by rintro rfl; simp at hl
    have hm0 : m ≠ [] := by rintro rfl; simp at hm
    rw [← List.dropLast_concat_getLast hl0, ← List.dropLast_concat_getLast hm0] at h ⊢
    rw [beNum_snoc, beNum_snoc] at h
    have h1 := (l.getLast hl0).toNat_lt
    have h2 := (m.getLast hm0).toNat_lt
    have e1 : beNum l.dropLast = beNum m.dropLast := by omega
    have e2 : (l.getLast hl0).toNat = (m.getLast hm0).toNat := by omega
    rw [beNum_inj n _ _ (by simp [hl]) (by simp [hm]) e1, UInt8.toNat_inj.1 e2]

theorem be64_beNum {l : Bytes} (h : l.length = 8) : be64 (beNum l : Int) = l := by
  have hb := beNum_lt l
  rw [h] at hb
  refine beNum_inj 8 _ _ (be64_len _) h ?_
  have := beNum_be64 (beNum l : Int) (by omega) (by omega)
  omega

section
variable {l : Bytes} {b : UInt8}

theorem headOf_long (hb : l[8]? = some b) (h : 200 < b.toNat) : headOf l = (0, []) := by
  have hgd : l.getD 8 0 = b := by simp [List.getD, hb]
  simp only [headOf, hgd, h, if_true]
theorem headOf_none (h : beNum (l.take 8) = 0) : headOf l = (0, []) := by
  simp [headOf, h]
theorem headOf_bad (hl : l.length = 256) (hb : l[8]? = some b) (h : b.toNat ≤ 200) {i : Nat} (hi : 9 + b.toNat ≤ i) {x : UInt8} (hx : l[i]? = some x) (h0 : x ≠ 0) : headOf l = (0, []) := by
  have hgd : l.getD 8 0 = b := by simp [List.getD, hb]
  simp only [headOf, hgd]
  rw [if_neg (by omega), if_neg]
  rintro ⟨he, _⟩
  have hpl : ((l.drop 9).take b.toNat).length = b.toNat := by rw [List.length_take, List.length_drop]; omega
  have hx' := hx
  rw [he] at hx'
  unfold headSec at hx'
  rw [List.getElem?_append_right (by simp [be64_len, hpl]; omega), List.getElem?_replicate] at hx'
  split at hx'
  · simp at hx'; exact h0 hx'.symm
  · cases hx'
theorem headOf_good (hl : l.length = 256) (hb : l[8]? = some b) (h : b.toNat ≤ 200) (hz : beNum (l.take 8) ≠ 0) (h0 : ∀ i x, 9 + b.toNat ≤ i → l[i]? = some x → x = 0) :
    headOf l = ((beNum (l.take 8) : Int), (l.drop 9).take b.toNat) := by
  have hgd : l.getD 8 0 = b := by simp [List.getD, hb]
  simp only [headOf, hgd]
  suffices hc : l = headSec (beNum (l.take 8) : Int) ((l.drop 9).take b.toNat) by rw [if_neg (by omega), if_pos ⟨hc, hz⟩]
  have hpl : ((l.drop 9).take b.toNat).length = b.toNat := by rw [List.length_take, List.length_drop]; omega
  have hu : u8 (((l.drop 9).take b.toNat).length : Int) = b := by
    rw [hpl]
    apply UInt8.toNat_inj.1
    have := u8_toNat (b.toNat : Int)
    have := b.toNat_lt
    omega
  have hd : l.drop (9 + b.toNat) = List.replicate (256 - (9 + b.toNat)) 0 := by
    rw [List.eq_replicate_iff]
    refine ⟨by rw [List.length_drop, hl], fun x hx => ?_⟩
    obtain ⟨j, hj⟩ := List.mem_iff_getElem?.1 hx
    rw [List.getElem?_drop] at hj
    exact h0 _ x (by omega) hj
  have h9 : l.drop 8 = b :: l.drop 9 := by
    have h8 : 8 < l.length := by omega
    rw [List.drop_eq_getElem_cons h8]
    have := hb
    rw [List.getElem?_eq_getElem h8] at this
    rw [Option.some.inj this]
  unfold headSec
  rw [be64_beNum (by rw [List.length_take]; omega), hu, hpl, ← hd]
  have e1 : (l.drop 9).take b.toNat ++ l.drop (9 + b.toNat) = l.drop 9 := by rw [← List.drop_drop, List.take_append_drop]
  rw [List.append_assoc, List.append_assoc, e1, List.singleton_append, ← h9, List.take_append_drop]
end

theorem BytesO.inb {w : World} {v : Value} {l : Bytes} (h : BytesO w v l) : InBytes w v := by
  intro g hg
  rcases h.2 with ⟨rfl, _⟩ | ⟨g', cap, cur, rfl, _, hgg, _⟩
  · cases hg
  · cases hg; exact ⟨_, _, hgg⟩

set_option maxRecDepth 100000 in
set_option maxHeartbeats 2000000 in
theorem rread8_any {w : World} {v : Value} {l : Bytes} (hv : BytesO w v l) (hl : l.length = 256) : Calls Try.prog 85 #[v] w (ReadsHead (headOf l) w) := by
  obtain ⟨g, cap, rfl⟩ := hv.head (by omega)
  have hcap : l.length ≤ cap ∧ cap ≤ maxLen := by
    obtain ⟨a, c, he, h1, h2⟩ := hv.view.shape
    cases he; exact ⟨h1, h2⟩
  obtain ⟨b, hb8⟩ : ∃ b, l[8]? = some b := ⟨l[8]'(by omega), List.getElem?_eq_getElem _⟩
  have hb := b.toNat_lt
  rw [hl] at hcap ⊢
  rw [hl] at hv
  obtain ⟨hcap1, hcap2⟩ := hcap
  have HV := Lib.hid hv
  have HB8 := Lib.hid hb8
  have HL := Lib.hid hl
  clear hv hb8 hl
  go_enter Try.func85, Try.ntmps85
  go_wp2_with (fail)
  obtain ⟨r2, hr2⟩ : ∃ r, r = w.heap.size := ⟨_, rfl⟩
  go_loopw [4] (fun i wr => ∃ k : Nat, k ≤ 8 ∧ i = .int .i64 k ∧ wr.heap[w.heap.size]? = some (.cells #[.int .u64 0, .slice none 0 0] 68) ∧ wr.heap[w.heap.size + 1]? = some (.cells #[.int .u64 (beNum (l.take k) : Int), .slice none 0 0] 68) ∧ Upd [] w wr) (fun i _ => 8 - (intOf i).toNat)
  case atStart => 
    refine ⟨0, by omega, rfl, ?_, ?_, ((Upd.refl [] w).alloc _).alloc _⟩
    · exact (heap_alloc_lt _ _ (by rw [size_alloc]; omega)).trans (heap_alloc_new' _ _)
    · have := heap_alloc_new' (w.alloc (.cells #[.int .u64 0, .slice none 0 0] 68)) (.cells #[.int .u64 0, .slice none 0 0] 68)
      rw [size_alloc] at this
      exact this
  case round =>
    obtain ⟨k, hk, rfl, hrw2, hrw3, hU⟩ := hrel
    have hvr := HV.out.upd hU
    by_cases hlt : k < 8
    · obtain ⟨c, hc⟩ : ∃ c, l[k]? = some c := ⟨l[k]'(by rw [HL.out]; omega), List.getElem?_eq_getElem _⟩
      have hcl := c.toNat_lt
      have hcell := hvr.cell hc
      have hc0 := cell_of_heap hrw3 (o := 0) rfl
      have hz0 := free_of_heap hrw3 (o := 0)
      have hl3 := lt_of_heap hrw3
      have hsn : beNum (l.take (k + 1)) = beNum (l.take k) * 256 + c.toNat := by
        rw [List.take_add_one, hc, Option.toList_some, beNum_snoc]
      have hsm : beNum (l.take k) < 72057594037927936 := by
        have h1 := beNum_lt (l.take k)
        have h2 : (l.take k).length ≤ 7 := by rw [List.length_take]; omega
        have h3 : 256 ^ (l.take k).length ≤ 256 ^ 7 := Nat.pow_le_pow_right (by omega) h2
        omega
      obtain ⟨N, hN⟩ : ∃ N, N = beNum (l.take k) := ⟨_, rfl⟩
      rw [← hN] at hc0 hsn hsm
      have HSN := Lib.hid hsn
      have HR2 := Lib.hid hrw2
      have HR3 := Lib.hid hrw3
      have HU := Lib.hid hU
      have hw1 : IntKind.u64.wrap ((N : Int) * 256) = (N : Int) * 256 := by simp [IntKind.wrap, IntKind.signed, IntKind.bits]; omega
      have hw2 : IntKind.u64.wrap ((N : Int) * 256 + (c.toNat : Int)) = (N : Int) * 256 + (c.toNat : Int) := by simp [IntKind.wrap, IntKind.signed, IntKind.bits]; omega
      clear hsn hrw2 hrw3 hU hN hc hvr
      go_wp2_with (fail)
      go_region
      go_wp2_with (fail)
      have hN1 : ((N : Int) * 256 + (c.toNat : Int)) = (beNum (l.take (k + 1)) : Int) := by rw [HSN.out]; omega
      have hrow2 : (wr.setCell ⟨w.heap.size + 1, 0, none⟩ (.int .u64 ((N : Int) * 256 + (c.toNat : Int)))).drew.heap[w.heap.size]? = some (.cells #[.int .u64 0, .slice none 0 0] 68) :=
        (heap_setCell_ne _ _ _ (by simp)).trans HR2.out
      have hrow3 : (wr.setCell ⟨w.heap.size + 1, 0, none⟩ (.int .u64 ((N : Int) * 256 + (c.toNat : Int)))).drew.heap[w.heap.size + 1]? = some (.cells #[.int .u64 (beNum (l.take (k + 1)) : Int), .slice none 0 0] 68) := by
        rw [← hN1]
        exact heap_setCell_eq _ _ _ _ HR3.out
      have hU' : Upd [] w (wr.setCell ⟨w.heap.size + 1, 0, none⟩ (.int .u64 ((N : Int) * 256 + (c.toNat : Int)))).drew := (HU.out.setCell _ (.inr (by omega)) (.inl (by omega))).drew
      have HX2 := Lib.hid hrow2
      have HX3 := Lib.hid hrow3
      have HXU := Lib.hid hU'
      clear hN1 hrow2 hrow3 hU' hw1 hw2
      go_roundw
      case rel => exact ⟨k + 1, by omega, by go_num, HX2.out, HX3.out, HXU.out⟩
      case measure => simp only [intOf]; omega
    · obtain rfl : k = 8 := by omega
      have hc8 := hvr.cell HB8.out
      have c20 := cell_of_heap hrw2 (o := 0) rfl
      have c21 := cell_of_heap hrw2 (o := 1) rfl
      have z20 := free_of_heap hrw2 (o := 0)
      have z21 := free_of_heap hrw2 (o := 1)
      have c30 := cell_of_heap hrw3 (o := 0) rfl
      have c31 := cell_of_heap hrw3 (o := 1) rfl
      have z30 := free_of_heap hrw3 (o := 0)
      have z31 := free_of_heap hrw3 (o := 1)
      have hl2 := lt_of_heap hrw2
      have hl3 := lt_of_heap hrw3
      have hset : ∀ wx u v, Upd [] w wx → Upd [] w ((wx.setCell ⟨w.heap.size, 0, none⟩ u).setCell ⟨w.heap.size, 1, none⟩ v) := fun wx u v h =>
        (h.setCell _ (.inr (Nat.le_refl _)) (.inl (Nat.le_refl _))).setCell _ (.inr (Nat.le_refl _)) (.inl (Nat.le_refl _))
      have hnone : headOf l = (0, []) → ReadsHead (headOf l) w (.returned (.agg #[.int .u64 0, .slice none 0 0])) ((wr.setCell ⟨w.heap.size, 0, none⟩ (.int .u64 0)).setCell ⟨w.heap.size, 1, none⟩ (.slice none 0 0)) := fun he => by
        rw [he]; exact ⟨_, rfl, HeadV.zero _, hset _ _ _ hU⟩
      have HNO := Lib.hid hnone
      have HR2 := Lib.hid hrw2
      have HR3 := Lib.hid hrw3
      have HU := Lib.hid hU
      have HVR := Lib.hid hvr
      have HSET := Lib.hid hset
      clear hnone hrw2 hrw3 hU hvr hset
      by_cases hlong : 200 < b.toNat
      · have HF := Lib.hid (HNO.out (headOf_long HB8.out hlong))
        go_wp2_with (fail)
        refine bodyPost_ret (v := .agg #[.int .u64 0, .slice none 0 0]) (by simp [results, Try.results85, go_sem, c20, c21]) rfl HF.out
      · have hle : b.toNat ≤ 200 := by omega
        clear hlong
        obtain ⟨G, hG⟩ : ∃ G, G = beNum (l.take 8) := ⟨_, rfl⟩
        rw [← hG] at c30
        by_cases hg0 : G = 0
        · have hg1 : ((G : Int) == 0) = true := by simp [hg0]
          have HF := Lib.hid (HNO.out (headOf_none (by rw [← hG]; exact hg0)))
          clear hG hg0
          go_wp2_with (fail)
          refine bodyPost_ret (v := .agg #[.int .u64 0, .slice none 0 0]) (by simp [results, Try.results85, go_sem, c20, c21]) rfl HF.out
        · have hg1 : ((G : Int) == 0) = false := by rw [beq_eq_false_iff_ne]; omega
          have HG := Lib.hid hG
          have HG0 := Lib.hid hg0
          clear hG hg0
          go_wp2_with (fail)
          obtain ⟨wo, hwo⟩ : ∃ wo, wo = wr := ⟨_, rfl⟩
          have HWO := Lib.hid hwo
          clear hwo
          go_loopw [6] (fun i wx => ∃ m : Nat, 9 + b.toNat ≤ m ∧ m ≤ 256 ∧ i = .int .i64 m ∧ wx = wo ∧ ∀ j x, 9 + b.toNat ≤ j → j < m → l[j]? = some x → x = 0) (fun i _ => 256 - (intOf i).toNat)
          case atStart => exact ⟨9 + b.toNat, by omega, by omega, by go_num, HWO.out.symm, fun j x h1 h2 => by omega⟩
          case round =>
            obtain ⟨m, hm0, hm1, rfl, rfl, hz⟩ := hrel
            have ew := HWO.out
            subst ew
            have HZ := Lib.hid hz
            clear hz
            by_cases hlt2 : m < 256
            · obtain ⟨x, hx⟩ : ∃ x, l[m]? = some x := ⟨l[m]'(by rw [HL.out]; omega), List.getElem?_eq_getElem _⟩
              have hcm := HVR.out.cell hx
              have hxl := x.toNat_lt
              have HX := Lib.hid hx
              clear hx
              by_cases hx0 : x = 0
              · have hxz : ((x.toNat : Int) != 0) = false := by simp [hx0]
                have HX0 := Lib.hid hx0
                clear hx0
                go_wp2_with (fail)
                go_roundw
                case rel => exact ⟨m + 1, by omega, by omega, by go_num, trivial, fun j y h1 h2 hy => by
                  by_cases hjm : j = m
                  · subst hjm
                    have := HX.out
                    rw [hy] at this; cases this; exact HX0.out
                  · exact HZ.out j y h1 (by omega) hy⟩
                case measure => simp only [intOf]; omega
              · have hxz : ((x.toNat : Int) != 0) = true := by
                  rw [bne_iff_ne]; intro h; exact hx0 (UInt8.toNat_inj.1 (by simpa using h))
                have HF := Lib.hid (HNO.out (headOf_bad HL.out HB8.out hle hm0 HX.out hx0))
                clear hx0
                go_wp2_with (fail)
                refine bodyPost_ret (v := .agg #[.int .u64 0, .slice none 0 0]) (by simp [results, Try.results85, go_sem, c20, c21]) rfl HF.out
            · obtain rfl : m = 256 := by omega
              have hgood := headOf_good HL.out HB8.out hle (by rw [← HG.out]; exact HG0.out) (fun j x h1 hx => HZ.out j x h1 (by have := (List.getElem?_eq_some_iff.1 hx).1; rw [HL.out] at this; exact this) hx)
              rw [← HG.out] at hgood
              obtain ⟨p, hp⟩ : ∃ p, p = (l.drop 9).take b.toNat := ⟨_, rfl⟩
              have hpl : p.length = b.toNat := by rw [hp, List.length_take, List.length_drop, HL.out]; omega
              rw [← hp] at hgood
              have hsv : BytesV wr.drew (.slice (some ⟨g, 9, none⟩) b.toNat (cap - 9)) p := by
                have := (HVR.out.upd (Upd.refl [] wr).drew).view.sub (i := 9) (k := b.toNat) (by rw [HL.out]; omega)
                rw [← hp] at this
                simpa using this
              obtain ⟨a5, c5, w5, r5, g5⟩ := (Grows.nil wr.drew).append hsv 33 (by rw [hpl]; simp; omega)
              rw [List.nil_append, hpl] at r5 g5
              have hU5 : Upd [] w w5 := (HU.out.drew).trans g5.2.1 (by simp)
              have d3 := (g5.2.1.block (w.heap.size + 1) hl3 (by simp)).trans HR3.out
              have d2 := (g5.2.1.block w.heap.size hl2 (by simp)).trans HR2.out
              rw [← HG.out] at d3
              have D2 := Lib.hid d2
              have D3 := Lib.hid d3
              have e20 := cell_of_heap d2 (o := 0) rfl
              have e21 := cell_of_heap d2 (o := 1) rfl
              have y20 := free_of_heap d2 (o := 0)
              have y21 := free_of_heap d2 (o := 1)
              have e30 := cell_of_heap d3 (o := 0) rfl
              have e31 := cell_of_heap d3 (o := 1) rfl
              have y31 := free_of_heap d3 (o := 1)
              have hm2 := lt_of_heap d2
              have hm3 := lt_of_heap d3
              have hbv : BytesV w5 (.slice a5 b.toNat c5) p := g5.1.view
              have hwr : IntKind.i64.wrap (9 + (b.toNat : Int)) = 9 + (b.toNat : Int) := by rw [IntKind.wrap_i64]; omega
              have hc9 : (9 : Int) + (b.toNat : Int) ≤ (cap : Int) := by omega
              have hc0 : (0 : Int) ≤ (b.toNat : Int) := by omega
              have hcs : (9 : Int) ≤ (9 : Int) + (b.toNat : Int) := by omega
              have hnn : (9 + (b.toNat : Int)).toNat - 9 = b.toNat := by omega
              have R5 := Lib.hid r5
              have G5 := Lib.hid g5
              have HU5 := Lib.hid hU5
              have HGD := Lib.hid hgood
              have HPL := Lib.hid hpl
              have HBV := Lib.hid hbv
              clear r5 g5 hU5 d3 d2 hgood hp hpl hsv hbv
              go_wp2_with (fail)
              go_region_law (first | (go_must (refine step_append_ran _ rfl (.tmp 48) (.tmp 52) 33 33 rfl rfl (by go_simp; omega) R5.out ?_)))
              all_goals
                have hfin : ReadsHead (headOf l) w (.returned (.agg #[.int .u64 (G : Int), .slice a5 b.toNat c5])) (((w5.setCell ⟨w.heap.size + 1, 1, none⟩ (.slice a5 b.toNat c5)).setCell ⟨w.heap.size, 0, none⟩ (.int .u64 (G : Int))).setCell ⟨w.heap.size, 1, none⟩ (.slice a5 b.toNat c5)) := by
                  have hU6 : Upd [] w (((w5.setCell ⟨w.heap.size + 1, 1, none⟩ (.slice a5 b.toNat c5)).setCell ⟨w.heap.size, 0, none⟩ (.int .u64 (G : Int))).setCell ⟨w.heap.size, 1, none⟩ (.slice a5 b.toNat c5)) := HSET.out _ _ _ (HU5.out.setCell _ (.inr (by omega)) (.inl (by omega)))
                  have hk : Keeps w5 (((w5.setCell ⟨w.heap.size + 1, 1, none⟩ (.slice a5 b.toNat c5)).setCell ⟨w.heap.size, 0, none⟩ (.int .u64 (G : Int))).setCell ⟨w.heap.size, 1, none⟩ (.slice a5 b.toNat c5)) := by
                    refine (Upd.keeps (S := [w.heap.size, w.heap.size + 1]) ((((Upd.refl _ w5).setCell _ (.inl (by simp)) (.inr ?_)).setCell _ (.inl (by simp)) (.inr ?_)).setCell _ (.inl (by simp)) (.inr ?_)))
                    all_goals (intro c fz; first | (rw [D2.out]; simp) | (rw [D3.out]; simp))
                  rw [HGD.out]
                  have hib : InBytes w5 (.slice a5 b.toNat c5) := G5.out.1.inb
                  refine ⟨_, rfl, ⟨_, rfl, ?_, hib.keep hk⟩, hU6⟩
                  have hb5 : BytesV w5 (.slice a5 b.toNat c5) p := HBV.out
                  exact hb5.keep hib hk
                have HF := Lib.hid hfin
                clear hfin
                go_wp2_with (fail)
                refine bodyPost_ret (v := .agg #[.int .u64 (G : Int), .slice a5 b.toNat c5]) (by simp [results, Try.results85, go_sem, e20, e21]) rfl HF.out

end Go.Proofs.Ytkpoladbabhdmaa
