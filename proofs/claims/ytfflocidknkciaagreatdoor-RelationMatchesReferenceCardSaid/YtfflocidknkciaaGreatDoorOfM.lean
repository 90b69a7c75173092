/- The matrix of an expression, row by row; rows of slices. Holds for every program. -/
import Derived.Test.YtfflocidknkciaaGreatDoorMatB
set_option linter.all false
namespace Go.V
open Go
def rwG (G : Nat → Nat → Bool) (r : Nat) : Nat → Nat
  | 0 => 0
  | m + 1 => if G r m = true then rwG G r m ||| 2 ^ m else rwG G r m
theorem rwG_lt {G : Nat → Nat → Bool} {r : Nat} : ∀ m, m ≤ 64 → rwG G r m < 18446744073709551616
  | 0, _ => by simp [rwG]
  | m + 1, h => by
    simp only [rwG]; split
    · exact or_lt (rwG_lt m (by omega)) (pow64 (by omega)).1
    · exact rwG_lt m (by omega)
theorem rwG_bit {G : Nat → Nat → Bool} {r c : Nat} : ∀ m, (rwG G r m).testBit c = (decide (c < m) && G r c)
  | 0 => by simp [rwG]
  | m + 1 => by
    have ih := rwG_bit (G := G) (r := r) (c := c) m
    cases hg : G r m with
    | true =>
      simp only [rwG, hg, if_true, Nat.testBit_or, ih, Nat.testBit_two_pow];by_cases hc : c = m
      · subst hc; simp [hg]
      · have : (c < m + 1) ↔ c < m := (by omega);simp [this, Ne.symm hc]
    | false =>
      simp only [rwG, hg, Bool.false_eq_true, if_false, ih];by_cases hc : c = m
      · subst hc; simp [hg]
      · have : (c < m + 1) ↔ c < m := (by omega);simp [this]
def gM (G : Nat → Nat → Bool) (p x y : Nat) : List Nat := (List.range 64).map fun r => if r < x then rwG G r p else if r = x then rwG G r y else 0
theorem gM_len (G : Nat → Nat → Bool) (p x y : Nat) : (gM G p x y).length = 64 := by simp [gM]
theorem gn_gM {G : Nat → Nat → Bool} {p x y r : Nat} (h : r < 64) : gn (gM G p x y) r = if r < x then rwG G r p else if r = x then rwG G r y else 0 := by simp [gM, gn, h]
theorem okW_gM {G : Nat → Nat → Bool} {p x y : Nat} (hp : p ≤ 64) (hy : y ≤ 64) : okW (gM G p x y) := okW_of (gM_len _ _ _ _) fun r hr => by
  rw [gn_gM hr];split
  · exact rwG_lt p hp
  · split
    · exact rwG_lt y hy
    · omega
theorem gM_zero (G : Nat → Nat → Bool) (p : Nat) : gM G p 0 0 = List.replicate 64 0 := list_gn (by simp [gM]) fun i hi => by
  rw [gM_len] at hi;rw [gn_gM hi, gn_rep, if_neg (by omega)];split <;> rfl
theorem gM_yes {G : Nat → Nat → Bool} {p x y : Nat} (hx : x < 64) (h : G x y = true) : (gM G p x y).set x (gn (gM G p x y) x ||| 2 ^ y) = gM G p x (y + 1) := list_gn (by simp [gM]) fun i hi => by
  rw [List.length_set, gM_len] at hi;rw [gn_set (by rw [gM_len]; exact hx), gn_gM hi, gn_gM hi, gn_gM hx, if_neg (Nat.lt_irrefl x), if_pos rfl];by_cases hxi : x = i
  · subst hxi; rw [if_pos rfl, if_neg (Nat.lt_irrefl x), if_pos rfl, rwG, if_pos h]
  · rw [if_neg hxi];by_cases h2 : i < x
    · rw [if_pos h2, if_pos h2]
    · rw [if_neg h2, if_neg h2, if_neg (Ne.symm hxi), if_neg (Ne.symm hxi)]
theorem gM_no {G : Nat → Nat → Bool} {p x y : Nat} (h : ¬ G x y = true) : gM G p x y = gM G p x (y + 1) := list_gn (by simp [gM]) fun i hi => by
  rw [gM_len] at hi;rw [gn_gM hi, gn_gM hi];by_cases hxi : i = x
  · subst hxi; rw [if_neg (Nat.lt_irrefl i), if_neg (Nat.lt_irrefl i), if_pos rfl, if_pos rfl, rwG, if_neg h]
  · by_cases h2 : i < x
    · rw [if_pos h2, if_pos h2]
    · rw [if_neg h2, if_neg h2, if_neg hxi, if_neg hxi]
theorem gM_row {G : Nat → Nat → Bool} {p x : Nat} : gM G p x p = gM G p (x + 1) 0 := list_gn (by simp [gM]) fun i hi => by
  rw [gM_len] at hi;rw [gn_gM hi, gn_gM hi];by_cases hxi : i = x
  · subst hxi; rw [if_neg (Nat.lt_irrefl i), if_pos rfl, if_pos (by omega)]
  · by_cases h2 : i < x
    · rw [if_pos h2, if_pos (by omega)]
    · rw [if_neg h2, if_neg hxi, if_neg (by omega)]; split <;> rfl
theorem gM_end {G : Nat → Nat → Bool} {p : Nat} (hp : p ≤ 64) : prL (gM G p p 0) = relP p G := by
  have e : ∀ x y, x < 64 → mB (gM G p p 0) x y = (decide (x < p) && (decide (y < p) && G x y)) := fun x y hx => by
    unfold mB; rw [gn_gM hx];by_cases h : x < p
    · rw [if_pos h, rwG_bit]; simp [h]
    · rw [if_neg h];have : ¬ x < p := h;split <;> simp [rwG, this]
  refine pr_eq hp (fun x y hx hy hm => ?_) (fun x y hx hy => ?_)
  · rw [e x y hx] at hm; simp only [Bool.and_eq_true, decide_eq_true_eq] at hm; exact ⟨hm.1, hm.2.1⟩
  · rw [e x y (by omega)]; simp [hx, hy]

/-! ## Rows of slices -/
def HS (base : Nat) (w : World) (xs : List Value) (f : Nat → List Int) (k : Nat) : Prop := xs.length = k ∧ ∀ i, i < k → ∃ a c, xs[i]? = some (.slice a (f i).length c) ∧ New 3 1 base w (.slice a (f i).length c) (f i).length (iv (f i))
theorem HS.zero {base : Nat} {w : World} {f : Nat → List Int} : HS base w [] f 0 := ⟨rfl, fun i hi => by omega⟩
theorem HS.ext {base : Nat} {w w' : World} {xs : List Value} {f : Nat → List Int} {k : Nat} (h : HS base w xs f k) (x : Ext w w') : HS base w' xs f k :=
  ⟨h.1, fun i hi => by obtain ⟨a, c, h1, h2⟩ := h.2 i hi; exact ⟨a, c, h1, h2.ext x⟩⟩
theorem HS.keptS {base b T : Nat} {w w' : World} {xs cs : List Value} {f : Nat → List Int} {k : Nat} (h : HS base w xs f k) (hg : w.grownBy w' (some b)) (hb : Blk w b T cs) (hT : T ≠ 3) : HS base w' xs f k :=
  ⟨h.1, fun i hi => by obtain ⟨a, c, h1, h2⟩ := h.2 i hi; exact ⟨a, c, h1, h2.keptS hg hb hT⟩⟩
theorem HS.keptO {base base' size' n' : Nat} {T' : TypeId} {w w' : World} {v' : Value} {xs xs' : List Value} {f : Nat → List Int} {k : Nat} (h : HS base w xs f k) (hg : w.grownBy w' v'.ownBlock) (h' : w.ownsRow base' T' size' v' n' xs') (hT : 3 ≠ T') : HS base w' xs f k :=
  ⟨h.1, fun i hi => by obtain ⟨a, c, h1, h2⟩ := h.2 i hi; exact ⟨a, c, h1, h2.keptO hg h' hT⟩⟩
theorem HS.push {base : Nat} {w : World} {xs : List Value} {f : Nat → List Int} {k : Nat} {a : Option Addr} {c : Nat} (h : HS base w xs f k) (hn : New 3 1 base w (.slice a (f k).length c) (f k).length (iv (f k))) : HS base w (xs ++ [.slice a (f k).length c]) f (k + 1) := by
  refine ⟨by simp [h.1], fun i hi => ?_⟩;by_cases hik : i < k
  · obtain ⟨a', c', h1, h2⟩ := h.2 i hik;exact ⟨a', c', by rw [List.getElem?_append_left (by rw [h.1]; exact hik)]; exact h1, h2⟩
  · obtain rfl : i = k := (by omega);exact ⟨a, c, by rw [List.getElem?_append_right (by rw [h.1]; exact Nat.le_refl _), h.1]; simp, hn⟩
theorem take_get {xs cs : List Value} {n i : Nat} {v : Value} (h : cs.take n = xs) (hi : xs[i]? = some v) : cs[0 + i * 1]? = some v := by
  subst h;rw [Nat.zero_add, Nat.mul_one];rw [List.getElem?_take] at hi;split at hi
  · exact hi
  · cases hi
theorem subL_app {a b l : List Int} : subL (a ++ b) l = (subL a l && subL b l) := by simp [subL]
theorem SetN.keptOwn3 {base base' size' n' : Nat} {T' : TypeId} {w w' : World} {v' : Value} {xs' : List Value} {d : SetD} {a1 a2 a3 : Option Addr} {c1 c2 c3 : Nat} (h : SetN base w d a1 a2 a3 c1 c2 c3) (hg : w.grownBy w' v'.ownBlock) (h' : w.ownsRow base' T' size' v' n' xs') (hT : 3 ≠ T') : SetN base w' d a1 a2 a3 c1 c2 c3 :=
  ⟨h.c.keptO hg h' hT, h.u.keptO hg h' hT, h.i.keptO hg h' hT, h.hl⟩
end Go.V
