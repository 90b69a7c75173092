/- What the program's evaluation of expressions computes, held against the reference's. Holds for every program. -/
import Derived.Test.YtfflocidknkciaaGreatDoorWords
set_option linter.all false
namespace Go.V
open Go
theorem exK0 {id : Nat} {k : K3} {X : List (Nat × K3)} : exitK ((id, k) :: X) id = k := by simp [exitK]
theorem exKS {id i1 : Nat} {k k1 : K3} {X : List (Nat × K3)} (h1 : Nat.beq id i1 = false) (h : exitK X id = k) : exitK ((i1, k1) :: X) id = k := by simp only [exitK, h1, cond_false]; exact h
theorem compl64 {a : Int} (h : 0 ≤ a ∧ a < 9223372036854775808) : bitv .xor .i64 (-1) a = -1 - a := by
  have e1 : (BitVec.ofInt 64 a).toNat = a.toNat := (by rw [ofInt_toNat]; omega);have e3 : bitv .xor .i64 (-1) a = IntKind.i64.wrap (((BitVec.ofInt 64 (-1)) ^^^ (BitVec.ofInt 64 a)).toNat : Int) := rfl;have e4 : BitVec.ofInt 64 (-1) = BitVec.allOnes 64 := rfl;rw [e3, e4, BitVec.allOnes_xor, BitVec.toNat_not, e1, IntKind.wrap_i64];omega
section
variable {P : Program} {n : Nat} {e : Env} {w : World} {ty : TypeId} {x : Operand} {t : TypeId} {a : Int}
theorem X_complI (hx : ev n e x = .int .i64 a) (h : 0 ≤ a ∧ a < 9223372036854775808) : Ex P n (.unOp .xor t x) ty e w (.int .i64 (-1 - a)) w := by
  have := X_compl (P := P) (w := w) (ty := ty) (t := t) hx;rw [show (if IntKind.i64.signed = true then -1 else IntKind.i64.max) = (-1 : Int) from rfl, compl64 h] at this; exact this
theorem X_negI (hx : ev n e x = .int .i64 a) (h : 0 ≤ a ∧ a < 9223372036854775808) : Ex P n (.unOp .neg t x) ty e w (.int .i64 (0 - a)) w := by
  have := X_neg (P := P) (w := w) (ty := ty) (t := t) hx;rw [wrap_i64_of (by omega)] at this; exact this
end
noncomputable def apZ (op a b c : Int) : Int :=
  if op = 4 then -1 - a else if op = 5 then bitv .and .i64 a b else if op = 6 then bitv .or .i64 a b else if op = 7 then bitv .xor .i64 a b
  else if op = 8 then a + b else if op = 9 then a - b else if op = 10 then a * b else if op = 11 then (if a = b then 1 else 0)
  else if op = 12 then (if a < b then 1 else 0) else if op = 13 then (if a ≤ b then 1 else 0) else if op = 14 then (if a = 1 then b else c) else 0
theorem lowZ_id {x w : Int} (h : 0 ≤ x ∧ x < 2 ^ w.toNat) : lowZ x w = x := Int.emod_eq_of_lt h.1 h.2
set_option maxHeartbeats 2000000 in
theorem apZ_low {e : E} {v : List Int} (hn : nodeP e) (hr : inR e.ks v e.ks.length) (h1 : e.op ≠ 1) (h2 : e.op ≠ 2) (h3 : e.op ≠ 3) : lowZ (apZ e.op (gi v 0) (gi v 1) (gi v 2)) e.w = apL e.op e.w e.n v := by
  have hbd := apL_bd hn hr h2 h3;obtain ⟨hw, ⟨a1, a2, a3, a4, a5, a6⟩, b1, b2, b3, b4, b5, b6, b7⟩ := hn;have hp := pow_small hw.2;unfold apL at hbd ⊢;unfold apZ;by_cases o4 : e.op = 4
  · simp only [if_neg h1, if_pos o4] at hbd ⊢;unfold lowZ;clear b1 b2 b3 b4 b5 b6 b7 a1 a2 a3 a4;have : (-1 - gi v 0) = (2 ^ e.w.toNat - 1 - gi v 0) + (2 ^ e.w.toNat) * (-1) := (by omega);rw [this, Int.add_mul_emod_self_left];exact Int.emod_eq_of_lt hbd.1 hbd.2
  by_cases o5 : e.op = 5
  · simp only [if_neg h1, if_neg o4, if_pos o5] at hbd ⊢; exact lowZ_id hbd
  by_cases o6 : e.op = 6
  · simp only [if_neg h1, if_neg o4, if_neg o5, if_pos o6] at hbd ⊢; exact lowZ_id hbd
  by_cases o7 : e.op = 7
  · simp only [if_neg h1, if_neg o4, if_neg o5, if_neg o6, if_pos o7] at hbd ⊢; exact lowZ_id hbd
  by_cases o8 : e.op = 8
  · simp only [if_neg h1, if_neg o4, if_neg o5, if_neg o6, if_neg o7, if_pos o8]
  by_cases o9 : e.op = 9
  · simp only [if_neg h1, if_neg o4, if_neg o5, if_neg o6, if_neg o7, if_neg o8, if_pos o9];unfold lowZ;rw [Int.add_emod_right]
  by_cases o10 : e.op = 10
  · simp only [if_neg h1, if_neg o4, if_neg o5, if_neg o6, if_neg o7, if_neg o8, if_neg o9, if_pos o10]
  by_cases o14 : e.op = 14
  · have n11 : ¬ e.op = 11 := (by rw [o14]; decide);have n12 : ¬ e.op = 12 := (by rw [o14]; decide);have n13 : ¬ e.op = 13 := (by rw [o14]; decide);simp only [if_neg h1, if_neg o4, if_neg o5, if_neg o6, if_neg o7, if_neg o8, if_neg o9, if_neg o10, if_pos o14, if_neg n11, if_neg n12, if_neg n13] at hbd ⊢;have g0 := hr 0 (by have := a4 o14; clear b1 b2 b3 b4 b5 b6 a1 a2 a3 a4; omega);have hw0 := (b7 o14).1;rw [hw0, show (2 : Int) ^ (1 : Int).toNat = 2 from rfl] at g0;clear b1 b2 b3 b4 b5 b6 b7 a1 a2 a3 a4;by_cases q : gi v 0 = 1
    · rw [if_pos q]; rw [q] at hbd ⊢; exact lowZ_id hbd
    · have q0 : gi v 0 = 0 := (by omega);rw [if_neg q]; rw [q0] at hbd ⊢; exact lowZ_id hbd
  clear b1 b2 b3 b4 b5 b6 b7 a1 a2 a3 a4 hbd hr
  have hone : ∀ x : Int, (x = 0 ∨ x = 1) → lowZ x e.w = x := fun x hx => lowZ_id (by
    have : (2 : Int) ≤ 2 ^ e.w.toNat := by
      have h1 : (2 : Nat) ^ 1 ≤ 2 ^ e.w.toNat := Nat.pow_le_pow_right (by omega) (by omega);have e0 : ((2 ^ e.w.toNat : Nat) : Int) = (2 : Int) ^ e.w.toNat := (by simp);omega
    omega)
  have ho : e.op = 11 ∨ e.op = 12 ∨ e.op = 13 := (by omega);simp only [if_neg h1, if_neg o4, if_neg o5, if_neg o6, if_neg o7, if_neg o8, if_neg o9, if_neg o10, if_neg o14];rcases ho with o | o | o
  · by_cases q : gi v 0 = gi v 1
    · rw [if_pos o, if_pos q, if_pos (.inl ⟨o, q⟩), hone 1 (.inr rfl)]
    · rw [if_pos o, if_neg q, if_neg (by omega), hone 0 (.inl rfl)]
  · by_cases q : gi v 0 < gi v 1
    · rw [if_neg (by omega), if_pos o, if_pos q, if_pos (.inr (.inl ⟨o, q⟩)), hone 1 (.inr rfl)]
    · rw [if_neg (by omega), if_pos o, if_neg q, if_neg (by omega), hone 0 (.inl rfl)]
  · by_cases q : gi v 0 ≤ gi v 1
    · rw [if_neg (by omega), if_neg (by omega), if_pos o, if_pos q, if_pos (.inr (.inr ⟨o, q⟩)), hone 1 (.inr rfl)]
    · rw [if_neg (by omega), if_neg (by omega), if_pos o, if_neg q, if_neg (by omega), hone 0 (.inl rfl)]
end Go.V
