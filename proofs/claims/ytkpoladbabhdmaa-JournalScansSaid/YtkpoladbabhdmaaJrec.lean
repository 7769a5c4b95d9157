/- Records in sectors, plain: what a record's sectors tell, and that there is one record at most. Conditions: as each says. -/
import Derived.Test.YtkpoladbabhdmaaJrn2
namespace Go.Proofs.Ytkpoladbabhdmaa
open Go.RowKit

/-- the number in two bytes of a sector -/
def num16 (l : Bytes) (i : Nat) : Nat := beNum ((l.drop i).take 2)
theorem num16_lt (l : Bytes) (i : Nat) : num16 l i < 65536 := by
  have h := beNum_lt ((l.drop i).take 2)
  have h2 : ((l.drop i).take 2).length ≤ 2 := by rw [List.length_take]; omega
  have h3 : 256 ^ ((l.drop i).take 2).length ≤ 256 ^ 2 := Nat.pow_le_pow_right (by omega) h2
  unfold num16; omega
theorem beNum_be16 {x : Nat} (h : x < 65536) : beNum (be16 (x : Int)) = x := by
  have h1 := u8_toNat ((x : Int) / 256)
  have h2 := u8_toNat (x : Int)
  simp only [beNum, be16, List.foldl_cons, List.foldl_nil]
  omega

theorem jparts_pos {n : Nat} (h : 0 < n) : 1 ≤ jparts n := by unfold jparts; rw [if_neg (by omega)]; omega
theorem jparts_le {n : Nat} (h : n ≤ 8000) : jparts n ≤ 35 := by unfold jparts; split <;> omega

section
variable {E n r : Int} {p : Nat} {b : Bytes}

theorem jsec_drop18 : (jsec E n r p b).drop 18 = be16 (jparts b.length : Int) ++ be16 ((jpiece b p).length : Int) ++ jpiece b p ++ List.replicate (256 - (22 + (jpiece b p).length)) 0 := by
  have e : jsec E n r p b = (be64 E ++ be32 n ++ be32 r ++ be16 (p : Int)) ++ (be16 (jparts b.length : Int) ++ be16 ((jpiece b p).length : Int) ++ jpiece b p ++ List.replicate (256 - (22 + (jpiece b p).length)) 0) := by
    unfold jsec; simp only [List.append_assoc]
  rw [e]; exact List.drop_left' rfl
theorem jsec_parts (hl : b.length ≤ 8000) : num16 (jsec E n r p b) 18 = jparts b.length := by
  unfold num16
  rw [jsec_drop18, List.append_assoc, List.append_assoc, List.take_left' (be16_len _)]
  exact beNum_be16 (by have := jparts_le hl; omega)
theorem jsec_drop20 : (jsec E n r p b).drop 20 = be16 ((jpiece b p).length : Int) ++ jpiece b p ++ List.replicate (256 - (22 + (jpiece b p).length)) 0 := by
  have e : (jsec E n r p b).drop 20 = ((jsec E n r p b).drop 18).drop 2 := by rw [List.drop_drop]
  rw [e, jsec_drop18, List.append_assoc, List.append_assoc, List.drop_left' (be16_len _), List.append_assoc]
theorem jsec_n : num16 (jsec E n r p b) 20 = (jpiece b p).length := by
  unfold num16
  rw [jsec_drop20, List.append_assoc, List.take_left' (be16_len _)]
  exact beNum_be16 (by have := jpiece_len b p; omega)
theorem jsec_drop22 : (jsec E n r p b).drop 22 = jpiece b p ++ List.replicate (256 - (22 + (jpiece b p).length)) 0 := by
  have e : (jsec E n r p b).drop 22 = ((jsec E n r p b).drop 20).drop 2 := by rw [List.drop_drop]
  rw [e, jsec_drop20, List.append_assoc, List.drop_left' (be16_len _)]

/-- the piece that a sector tells -/
def secPiece (l : Bytes) : Bytes := (l.drop 22).take (num16 l 20)
theorem jsec_piece : secPiece (jsec E n r p b) = jpiece b p := by
  unfold secPiece
  rw [jsec_n, jsec_drop22, List.take_left' rfl]

theorem jpiece_pos (h : p < jparts b.length) : 1 ≤ (jpiece b p).length ∧ (jpiece b p).length ≤ 234 := by
  have := jpiece_len b p
  have := jparts_lt h
  omega
end

/-- what the first k sectors tell -/
def jcol (rd : Nat → Bytes) (k : Nat) : Bytes := (List.range k).flatMap fun p => secPiece (rd p)
theorem jcol_succ (rd : Nat → Bytes) (k : Nat) : jcol rd (k + 1) = jcol rd k ++ secPiece (rd k) := by simp [jcol, List.range_succ]

/-- b is the record that lies at a place: E its epoch, num its number -/
structure IsRec (rd : Nat → Bytes) (room : Nat) (E : Int) (at_ num : Nat) (b : Bytes) : Prop where
  ne : 0 < b.length
  le : b.length ≤ 8000
  fits : jparts b.length ≤ room
  secs : ∀ p, p < jparts b.length → rd p = jsec E ((at_ : Int) + (p : Int)) (num : Int) p b

section
variable {rd : Nat → Bytes} {room : Nat} {E : Int} {at_ num : Nat} {b : Bytes}

theorem IsRec.pos (h : IsRec rd room E at_ num b) : 1 ≤ jparts b.length ∧ jparts b.length ≤ 35 := ⟨jparts_pos h.ne, jparts_le h.le⟩
theorem IsRec.parts (h : IsRec rd room E at_ num b) : num16 (rd 0) 18 = jparts b.length := by
  rw [h.secs 0 (by have := h.pos; omega)]; exact jsec_parts h.le
theorem IsRec.n (h : IsRec rd room E at_ num b) {p : Nat} (hp : p < jparts b.length) : 1 ≤ num16 (rd p) 20 ∧ num16 (rd p) 20 ≤ 234 := by
  rw [h.secs p hp, jsec_n]; exact jpiece_pos hp
theorem IsRec.col (h : IsRec rd room E at_ num b) : ∀ k, k ≤ jparts b.length → jcol rd k = b.take (k * 234)
  | 0, _ => by simp [jcol]
  | k + 1, hk => by
    rw [jcol_succ, h.col k (by omega), h.secs k (by omega), jsec_piece, Nat.succ_mul, List.take_add]
    rfl
theorem IsRec.eq (h : IsRec rd room E at_ num b) : b = jcol rd (num16 (rd 0) 18) := by
  rw [h.parts, h.col _ (Nat.le_refl _), List.take_of_length_le]
  have := h.ne
  unfold jparts; rw [if_neg (by omega)]; omega
theorem IsRec.unique {b' : Bytes} (h : IsRec rd room E at_ num b) (h' : IsRec rd room E at_ num b') : b = b' := by rw [h.eq, h'.eq]

open Classical in
/-- the record that lies at a place -/
noncomputable def recAt (rd : Nat → Bytes) (room : Nat) (E : Int) (at_ num : Nat) : Option Bytes :=
  if h : ∃ b, IsRec rd room E at_ num b then some h.choose else none

theorem recAt_some (h : IsRec rd room E at_ num b) : recAt rd room E at_ num = some b := by
  have he : ∃ b, IsRec rd room E at_ num b := ⟨b, h⟩
  unfold recAt
  rw [dif_pos he, he.choose_spec.unique h]
theorem recAt_none (h : ∀ b, ¬ IsRec rd room E at_ num b) : recAt rd room E at_ num = none := by
  unfold recAt
  rw [dif_neg (by rintro ⟨b, hb⟩; exact h b hb)]
theorem recAt_is (h : recAt rd room E at_ num = some b) : IsRec rd room E at_ num b := by
  unfold recAt at h
  split at h
  · rename_i he
    cases h; exact he.choose_spec
  · cases h
end

/-- all records from a place on: s the sectors of the area, count how many there are -/
noncomputable def scanFrom (s : Nat → Bytes) (count : Nat) (E : Int) : Nat → Nat → Nat → List Bytes
  | 0, _, _ => []
  | f + 1, at_, num =>
    match recAt (fun p => s (at_ + p)) (count - at_) E at_ num with
    | some b => b :: scanFrom s count E f (at_ + jparts b.length) (num + 1)
    | none => []

noncomputable def scanAll (s : Nat → Bytes) (count : Nat) (E : Int) : List Bytes := scanFrom s count E count 0 0

end Go.Proofs.Ytkpoladbabhdmaa
