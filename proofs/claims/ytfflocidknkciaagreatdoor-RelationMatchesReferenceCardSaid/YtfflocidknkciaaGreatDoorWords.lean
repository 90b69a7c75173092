/- Words of 64 bits as natural numbers; the lowest bit. Holds for every program. -/
import Derived.Test.YtfflocidknkciaaGreatDoorSubA
import Derived.KernelRfl
set_option linter.all false
namespace Go.V
open Go
theorem wrapU {z : Nat} (h : z < 18446744073709551616) : IntKind.u64.wrap (z : Int) = z := by
  exact IntWalk.u64_in _ (by omega)
theorem ofIntU {a : Nat} (h : a < 18446744073709551616) : (BitVec.ofInt 64 (a : Int)).toNat = a := by
  rw [BitVec.toNat_ofInt]; omega
theorem bitv_orU {a b : Nat} (ha : a < 18446744073709551616) (hb : b < 18446744073709551616) : bitv .or .u64 (a : Int) (b : Int) = ((a ||| b : Nat) : Int) := by
  show IntKind.u64.wrap (((BitVec.ofInt 64 (a : Int)) ||| (BitVec.ofInt 64 (b : Int))).toNat : Int) = _;rw [BitVec.toNat_or, ofIntU ha, ofIntU hb];exact wrapU (Nat.or_lt_two_pow (n := 64) ha hb)
theorem bitv_andU {a b : Nat} (ha : a < 18446744073709551616) (hb : b < 18446744073709551616) : bitv .and .u64 (a : Int) (b : Int) = ((a &&& b : Nat) : Int) := by
  show IntKind.u64.wrap (((BitVec.ofInt 64 (a : Int)) &&& (BitVec.ofInt 64 (b : Int))).toNat : Int) = _;rw [BitVec.toNat_and, ofIntU ha, ofIntU hb];exact wrapU (Nat.lt_of_le_of_lt Nat.and_le_left ha)
/-- a without the bits of b. -/
def andN (a b : Nat) : Nat := a &&& (18446744073709551615 - b)
theorem bitv_andNotU {a b : Nat} (ha : a < 18446744073709551616) (hb : b < 18446744073709551616) : bitv .andNot .u64 (a : Int) (b : Int) = ((andN a b : Nat) : Int) := by
  show IntKind.u64.wrap (((BitVec.ofInt 64 (a : Int)) &&& ~~~(BitVec.ofInt 64 (b : Int))).toNat : Int) = _;rw [BitVec.toNat_and, BitVec.toNat_not, ofIntU ha, ofIntU hb];exact wrapU (Nat.lt_of_le_of_lt Nat.and_le_left ha)
theorem pow64 {y : Nat} (h : y < 64) : 2 ^ y < 18446744073709551616 ∧ 0 < 2 ^ y := ⟨Nat.pow_lt_pow_right (by omega) h, Nat.pow_pos (by omega)⟩
section
variable {P : Program} {n : Nat} {e : Env} {w : World} {ty : TypeId} {x y : Operand} {t yt : TypeId} {k' : IntKind} {a b : Nat} {i : Int}
theorem X_orU (hx : ev n e x = .int .u64 (a : Int)) (hy : ev n e y = .int .u64 (b : Int)) (ha : a < 18446744073709551616) (hb : b < 18446744073709551616) : Ex P n (.binOp .or t x y yt) ty e w (.int .u64 ((a ||| b : Nat) : Int)) w := by
  have := X_or (P := P) (w := w) (ty := ty) (t := t) (yt := yt) hx hy; rwa [bitv_orU ha hb] at this
theorem X_andU (hx : ev n e x = .int .u64 (a : Int)) (hy : ev n e y = .int .u64 (b : Int)) (ha : a < 18446744073709551616) (hb : b < 18446744073709551616) : Ex P n (.binOp .and t x y yt) ty e w (.int .u64 ((a &&& b : Nat) : Int)) w := by
  have := X_and (P := P) (w := w) (ty := ty) (t := t) (yt := yt) hx hy; rwa [bitv_andU ha hb] at this
theorem X_andNotU (hx : ev n e x = .int .u64 (a : Int)) (hy : ev n e y = .int .u64 (b : Int)) (ha : a < 18446744073709551616) (hb : b < 18446744073709551616) : Ex P n (.binOp .andNot t x y yt) ty e w (.int .u64 ((andN a b : Nat) : Int)) w := by
  have := X_andNot (P := P) (w := w) (ty := ty) (t := t) (yt := yt) hx hy; rwa [bitv_andNotU ha hb] at this
theorem X_shlU (y' : Nat) (hx : ev n e x = .int .u64 1) (hy : ev n e y = .int k' i) (hi : i = (y' : Int)) (h : y' < 64) : Ex P n (.binOp .shl t x y yt) ty e w (.int .u64 ((2 ^ y' : Nat) : Int)) w := by
  subst hi;have := X_shl (P := P) (w := w) (ty := ty) (t := t) (yt := yt) hx hy (by omega);have h2 : min ((y' : Int)).toNat IntKind.u64.bits = y' := (by show min _ 64 = _; omega);rw [h2, Int.one_mul, show (2 : Int) ^ y' = ((2 ^ y' : Nat) : Int) by simp, wrapU (pow64 h).1] at this;exact this
theorem X_shrU (y' : Nat) (hx : ev n e x = .int .u64 (a : Int)) (hy : ev n e y = .int k' i) (hi : i = (y' : Int)) (h : y' < 64) : Ex P n (.binOp .shr t x y yt) ty e w (.int .u64 ((a / 2 ^ y' : Nat) : Int)) w := by
  subst hi;have := X_shr (P := P) (w := w) (ty := ty) (t := t) (yt := yt) hx hy (by omega);have h2 : min ((y' : Int)).toNat IntKind.u64.bits = y' := (by show min _ 64 = _; omega);rw [h2, Int.fdiv_eq_ediv_of_nonneg _ (Int.le_of_lt (Int.pow_pos (by omega))), show (2 : Int) ^ y' = ((2 ^ y' : Nat) : Int) by simp, ← Int.natCast_ediv] at this;exact this
end
theorem shr_bit (a y : Nat) : (a / 2 ^ y &&& 1 = 1) ↔ a.testBit y = true := by
  have h1 : a / 2 ^ y &&& 1 = (a / 2 ^ y) % 2 := Nat.and_one_is_mod _;have h2 : 1 &&& a / 2 ^ y = (a / 2 ^ y) % 2 := (by rw [Nat.and_comm]; exact h1);rw [Nat.testBit, Nat.shiftRight_eq_div_pow, h1, h2];have := Nat.mod_two_eq_zero_or_one (a / 2 ^ y);rcases this with h | h <;> simp [h]

/-! ## The lowest bit -/
theorem low_exists {a : Nat} (h : a ≠ 0) : ∃ i, a.testBit i = true ∧ ∀ j, j < i → a.testBit j = false := by
  obtain ⟨i, hi⟩ := Nat.exists_testBit_of_ne_zero h
  induction i using Nat.strongRecOn with
  | _ i ih =>
    by_cases hq : ∃ j, j < i ∧ a.testBit j = true
    · obtain ⟨j, hj, hb⟩ := hq; exact ih j hj hb
    · exact ⟨i, hi, fun j hj => by cases hb : a.testBit j with | false => rfl | true => exact absurd ⟨j, hj, hb⟩ hq⟩
/-- Below its lowest bit, and beyond it, a number less one. -/
theorem pred_bits {a i : Nat} (h : a.testBit i = true) (hl : ∀ j, j < i → a.testBit j = false) (j : Nat) : (a - 1).testBit j = if j < i then true else if j = i then false else a.testBit j := by
  have hmod : a % 2 ^ i = 0 := by
    apply Nat.eq_of_testBit_eq;intro k;rw [Nat.testBit_mod_two_pow];by_cases hk : k < i
    · simp [hk, hl k hk]
    · simp [hk]
  have ha : a = 2 ^ i * (a / 2 ^ i) := by have := Nat.div_add_mod a (2 ^ i); omega
  have hodd : (a / 2 ^ i) % 2 = 1 := by
    rw [Nat.testBit, Nat.shiftRight_eq_div_pow] at h;have h2 : 1 &&& a / 2 ^ i = (a / 2 ^ i) % 2 := (by rw [Nat.and_comm]; exact Nat.and_one_is_mod _);rw [h2] at h;have := Nat.mod_two_eq_zero_or_one (a / 2 ^ i);rcases this with q1 | q1
    · rw [q1] at h; simp at h
    · exact q1
  have hp : 0 < 2 ^ i := Nat.pow_pos (by omega)
  generalize a / 2 ^ i = q at ha hodd
  have ha1 : a - 1 = 2 ^ i * (q - 1) + (2 ^ i - 1) := by
    rw [ha, Nat.mul_sub, Nat.mul_one];have : 2 ^ i ≤ 2 ^ i * q := Nat.le_mul_of_pos_right _ (by omega);omega
  rw [ha1, Nat.testBit_two_pow_mul_add _ (by omega)];have hq0 : (q - 1).testBit 0 = false := by simp [Nat.testBit_zero]; omega
  have hqs : ∀ k, (q - 1).testBit (k + 1) = q.testBit (k + 1) := fun k => by
    rw [Nat.testBit_succ, Nat.testBit_succ]; congr 1; omega
  by_cases h1 : j < i
  · simp [h1, Nat.testBit_two_pow_sub_one]
  · by_cases h2 : j = i
    · subst h2; simp [hq0]
    · simp only [h1, h2, if_false];obtain ⟨k, rfl⟩ : ∃ k, j = i + (k + 1) := ⟨j - i - 1, by omega⟩;rw [ha, Nat.testBit_two_pow_mul];simp [show i + (k + 1) - i = k + 1 by omega, hqs]
theorem clear_low {a i : Nat} (h : a.testBit i = true) (hl : ∀ j, j < i → a.testBit j = false) (j : Nat) : (a &&& (a - 1)).testBit j = (a.testBit j && !decide (j = i)) := by
  rw [Nat.testBit_and, pred_bits h hl];by_cases h1 : j < i
  · simp [h1, hl j h1]
  · by_cases h2 : j = i
    · subst h2; simp
    · simp [h1, h2]
theorem low_only {a i : Nat} (ha : a < 18446744073709551616) (h : a.testBit i = true) (hl : ∀ j, j < i → a.testBit j = false) : a &&& (18446744073709551616 - a) = 2 ^ i := by
  have ha0 : a ≠ 0 := (by intro h0; subst h0; simp at h);apply Nat.eq_of_testBit_eq;intro j;have e : 18446744073709551616 - a = 2 ^ 64 - ((a - 1) + 1) := (by omega);rw [Nat.testBit_and, e, Nat.testBit_two_pow_sub_succ (by omega), pred_bits h hl, Nat.testBit_two_pow];by_cases h1 : j < i
  · simp [h1, hl j h1]; omega
  · by_cases h2 : j = i
    · subst h2
      have : j < 64 := by
        apply Classical.byContradiction; intro hq;have := Nat.testBit_lt_two_pow (x := a) (i := j) (Nat.lt_of_lt_of_le ha (by exact Nat.pow_le_pow_right (n := 2) (by omega) (show 64 ≤ j by omega)));rw [this] at h; cases h
      simp [h, this]
    · cases hb : a.testBit j <;> simp [h1, h2] <;> omega

/-! ## The number of the lowest bit, by its table -/
def dbT : List Nat := [0, 1, 56, 2, 57, 49, 28, 3, 61, 58, 42, 50, 38, 29, 17, 4, 62, 47, 59, 36, 45, 43, 51, 22, 53, 39, 33, 30, 24, 18, 12, 5, 63, 55, 48, 27, 60, 41, 37, 16, 46, 35, 44, 21, 52, 32, 23, 11, 54, 26, 40, 15, 34, 20, 31, 10, 25, 14, 19, 9, 13, 8, 7, 6]
def dbV : List Value := dbT.map fun (n : Nat) => .int .u8 (n : Int)
def dbC : Nat := 285870213051353865
theorem db_at : ∀ {i : Nat}, i < 64 → gn dbT ((2 ^ i * dbC % 18446744073709551616) / 2 ^ 58) = i
  | 0, _ => rfl
  | 1, _ => rfl
  | 2, _ => rfl
  | 3, _ => rfl
  | 4, _ => rfl
  | 5, _ => rfl
  | 6, _ => rfl
  | 7, _ => rfl
  | 8, _ => rfl
  | 9, _ => rfl
  | 10, _ => rfl
  | 11, _ => rfl
  | 12, _ => rfl
  | 13, _ => rfl
  | 14, _ => rfl
  | 15, _ => rfl
  | 16, _ => rfl
  | 17, _ => rfl
  | 18, _ => rfl
  | 19, _ => rfl
  | 20, _ => rfl
  | 21, _ => rfl
  | 22, _ => rfl
  | 23, _ => rfl
  | 24, _ => rfl
  | 25, _ => rfl
  | 26, _ => rfl
  | 27, _ => rfl
  | 28, _ => rfl
  | 29, _ => rfl
  | 30, _ => rfl
  | 31, _ => rfl
  | 32, _ => rfl
  | 33, _ => rfl
  | 34, _ => rfl
  | 35, _ => rfl
  | 36, _ => rfl
  | 37, _ => rfl
  | 38, _ => rfl
  | 39, _ => rfl
  | 40, _ => rfl
  | 41, _ => rfl
  | 42, _ => rfl
  | 43, _ => rfl
  | 44, _ => rfl
  | 45, _ => rfl
  | 46, _ => rfl
  | 47, _ => rfl
  | 48, _ => rfl
  | 49, _ => rfl
  | 50, _ => rfl
  | 51, _ => rfl
  | 52, _ => rfl
  | 53, _ => rfl
  | 54, _ => rfl
  | 55, _ => rfl
  | 56, _ => rfl
  | 57, _ => rfl
  | 58, _ => rfl
  | 59, _ => rfl
  | 60, _ => rfl
  | 61, _ => rfl
  | 62, _ => rfl
  | 63, _ => rfl
  | i + 64, h => by omega
theorem db_lt (i : Nat) : (2 ^ i * dbC % 18446744073709551616) / 2 ^ 58 < 64 := by
  generalize 2 ^ i * dbC = q
  have := Nat.mod_lt q (show 0 < 18446744073709551616 by omega); omega
def dbX (i : Nat) : Nat := (2 ^ i * dbC % 18446744073709551616) / 2 ^ 58
theorem dbX_lt (i : Nat) : dbX i < 64 := db_lt i
theorem dbX_at {i : Nat} (h : i < 64) : gn dbT (dbX i) = i := db_at h
theorem db_cell {w : World} {b o i j : Nat} (h : Cells w b 0 dbV) (hj : j < 64) (hg : gn dbT j = i) (ho : o = j) : Cell w b o (.int .u8 (i : Int)) := by
  subst ho;have hlen : dbT.length = 64 := rfl
  have h1 : dbV[o]? = some (.int .u8 (i : Int)) := by
    have h3 : dbT[o]? = some i := by
      rw [gn, List.getD_eq_getElem?_getD] at hg;rw [List.getElem?_eq_getElem (by omega)] at hg ⊢
      simpa using hg
    simp only [dbV, List.getElem?_map, h3, Option.map_some]
  have := h _ _ h1
  rwa [Nat.zero_add] at this
theorem bit_lt {a i : Nat} (ha : a < 18446744073709551616) (h : a.testBit i = true) : i < 64 := by
  apply Classical.byContradiction; intro hq;have := Nat.testBit_lt_two_pow (x := a) (i := i) (Nat.lt_of_lt_of_le ha (by exact Nat.pow_le_pow_right (n := 2) (by omega) (show 64 ≤ i by omega)));rw [this] at h; cases h
section
variable {P : Program} {n : Nat} {e : Env} {w : World} {ty : TypeId} {x y : Operand} {t yt : TypeId} {a b i : Nat}
theorem X_negU (hx : ev n e x = .int .u64 (a : Int)) (h0 : a ≠ 0) (ha : a < 18446744073709551616) : Ex P n (.unOp .neg t x) ty e w (.int .u64 ((18446744073709551616 - a : Nat) : Int)) w := by
  have := X_neg (P := P) (w := w) (ty := ty) (t := t) hx
  have h1 : IntKind.u64.wrap (0 - (a : Int)) = ((18446744073709551616 - a : Nat) : Int) := by
    simp only [IntKind.wrap, IntKind.signed, IntKind.bits, Bool.false_and, Bool.false_eq_true, if_false];omega
  rw [h1] at this; exact this
theorem X_mulU (hx : ev n e x = .int .u64 (a : Int)) (hy : ev n e y = .int .u64 (b : Int)) : Ex P n (.binOp .mul t x y yt) ty e w (.int .u64 ((a * b % 18446744073709551616 : Nat) : Int)) w := by
  have := X_mul (P := P) (w := w) (ty := ty) (t := t) (yt := yt) hx hy
  have h1 : IntKind.u64.wrap ((a : Int) * (b : Int)) = ((a * b % 18446744073709551616 : Nat) : Int) := by
    rw [← Int.natCast_mul]
    generalize a * b = q
    simp only [IntKind.wrap, IntKind.signed, IntKind.bits, Bool.false_and, Bool.false_eq_true, if_false];omega
  rw [h1] at this; exact this
theorem X_lowU (hx : ev n e x = .int .u64 (a : Int)) (hy : ev n e y = .int .u64 ((18446744073709551616 - a : Nat) : Int)) (h0 : a ≠ 0) (ha : a < 18446744073709551616) (hi : a.testBit i = true) (hl : ∀ j, j < i → a.testBit j = false) :
    Ex P n (.binOp .and t x y yt) ty e w (.int .u64 ((2 ^ i : Nat) : Int)) w := by
  have := X_andU (P := P) (w := w) (ty := ty) (t := t) (yt := yt) hx hy ha (by omega)
  rwa [low_only ha hi hl] at this
end

/-! ## Rows of words -/
def okW (ms : List Nat) : Prop := ms.length = 64 ∧ ∀ i, gn ms i < 18446744073709551616
def addW (ms : List Nat) (k : Nat) : List Nat := ms.set (k / 64) (gn ms (k / 64) ||| 2 ^ (k % 64))
theorem gn_set {ms : List Nat} {i j v : Nat} (h : i < ms.length) : gn (ms.set i v) j = if i = j then v else gn ms j := by
  simp only [gn, List.getD_eq_getElem?_getD, List.getElem?_set];by_cases hij : i = j
  · subst hij; simp [h]
  · simp [hij]
theorem okW_set {ms : List Nat} {i v : Nat} (h : okW ms) (hi : i < 64) (hv : v < 18446744073709551616) : okW (ms.set i v) :=
  ⟨by simp [h.1], fun j => by rw [gn_set (by rw [h.1]; exact hi)]; split; exact hv; exact h.2 j⟩
theorem okW_add {ms : List Nat} {k : Nat} (h : okW ms) (hk : k < 4096) : okW (addW ms k) :=
  okW_set h (by omega) (Nat.or_lt_two_pow (n := 64) (h.2 _) (pow64 (by omega)).1)
theorem okW_zero : okW (List.replicate 64 0) := ⟨by simp, fun i => by simp only [gn, List.getD_eq_getElem?_getD, List.getElem?_replicate]; split <;> simp⟩
/-- Whether a number is in a row of words. -/
def bitW (ms : List Nat) (k : Nat) : Bool := (gn ms (k / 64)).testBit (k % 64)
theorem bitW_add {ms : List Nat} {k j : Nat} (h : okW ms) (hk : k < 4096) : bitW (addW ms k) j = (bitW ms j || decide (j = k)) := by
  unfold bitW addW;rw [gn_set (by rw [h.1]; omega)];by_cases h1 : k / 64 = j / 64
  · rw [if_pos h1, Nat.testBit_or, Nat.testBit_two_pow, h1];congr 1;rw [Bool.eq_iff_iff]; simp only [decide_eq_true_eq]; omega
  · rw [if_neg h1];have : decide (j = k) = false := (by simp; omega);rw [this]; simp
def mapW (l : List Int) (m : Nat) : List Nat := (l.take m).foldl (fun ms x => addW ms x.toNat) (List.replicate 64 0)
theorem mapW_succ {l : List Int} {k : Nat} (h : k < l.length) : mapW l (k + 1) = addW (mapW l k) (gi l k).toNat := by
  simp only [mapW, List.take_succ_eq_append_getElem h, List.foldl_append, List.foldl_cons, List.foldl_nil]; simp [gi, h]
theorem mapW_ok {l : List Int} (hl : ∀ i, i < l.length → 0 ≤ gi l i ∧ gi l i < 4096) : ∀ k, k ≤ l.length → okW (mapW l k)
  | 0, _ => by simp only [mapW, List.take_zero, List.foldl_nil]; exact okW_zero
  | k + 1, h => by rw [mapW_succ (by omega)]; exact okW_add (mapW_ok hl k (by omega)) (by have := hl k (by omega); omega)
theorem splice_all {cs vs : List Value} (h : cs.length = vs.length) : splice cs 0 vs = vs := by
  simp [splice, h]
theorem uv_one (ms : List Nat) : (uv ms).all (·.oneCell') = true := by simp [uv, Value.oneCell']
theorem uv_cells (ms : List Nat) : (Value.agg (uv ms).toArray).cells.toList = uv ms := by simp [Value.cells]
theorem Blk.lenEq {w : World} {b T : Nat} {cs cs' : List Value} (_h : Blk w b T cs) (e : cs.length = cs'.length) : cs.length = cs'.length := e
theorem X_subU1 {P : Program} {n : Nat} {e : Env} {w : World} {ty : TypeId} {x y : Operand} {t yt : TypeId} {a : Nat} (hx : ev n e x = .int .u64 (a : Int)) (hy : ev n e y = .int .u64 1) (h0 : a ≠ 0) (ha : a < 18446744073709551616) :
    Ex P n (.binOp .sub t x y yt) ty e w (.int .u64 ((a - 1 : Nat) : Int)) w := by
  have := X_sub (P := P) (w := w) (ty := ty) (t := t) (yt := yt) hx hy;rw [show (a : Int) - 1 = ((a - 1 : Nat) : Int) by omega, wrapU (by omega)] at this;exact this
def lsT (ms : List Nat) (m : Nat) : List Int := ((List.range m).filter (bitW ms)).map fun (n : Nat) => (n : Int)
def wbits (k a : Nat) : List Int := ((List.range 64).filter a.testBit).map fun (j : Nat) => 64 * (k : Int) + (j : Int)
theorem wbits_zero (k : Nat) : wbits k 0 = [] := by simp [wbits]
theorem lsT_word (ms : List Nat) (k : Nat) : lsT ms (64 * k) ++ wbits k (gn ms k) = lsT ms (64 * (k + 1)) := by
  unfold lsT wbits;rw [show 64 * (k + 1) = 64 * k + 64 by omega, List.range_add, List.filter_append, List.map_append, List.filter_map, List.map_map];congr 1;have hf : (bitW ms ∘ fun x => 64 * k + x) = fun j => bitW ms (64 * k + j) := rfl;rw [hf]
  have : (List.range 64).filter (gn ms k).testBit = (List.range 64).filter (fun j => bitW ms (64 * k + j)) := by
    apply List.filter_congr;intro j hj;simp only [List.mem_range] at hj;unfold bitW;rw [show (64 * k + j) / 64 = k by omega, show (64 * k + j) % 64 = j by omega]
  rw [this];apply List.map_congr_left;intro j _;simp
theorem filter_low {p q : Nat → Bool} {i n : Nat} (hi : i < n) (h1 : p i = true) (h2 : ∀ j, j < i → p j = false) (h3 : ∀ j, q j = (p j && !decide (j = i))) : (List.range n).filter p = i :: (List.range n).filter q := by
  induction n with
  | zero => omega
  | succ n ih =>
    rw [List.range_succ, List.filter_append, List.filter_append];by_cases hin : i = n
    · subst hin;have e1 : (List.range i).filter p = [] := List.filter_eq_nil_iff.2 fun j hj => (by rw [h2 j (List.mem_range.1 hj)]; simp);have e2 : (List.range i).filter q = [] := List.filter_eq_nil_iff.2 fun j hj => (by rw [h3, h2 j (List.mem_range.1 hj)]; simp);rw [e1, e2]; simp [h1, h3]
    · rw [ih (by omega)];have : q n = p n := (by rw [h3]; simp [Ne.symm hin]);simp [List.filter_cons, this]
theorem wbits_low {k a i : Nat} (ha : a < 18446744073709551616) (h : a.testBit i = true) (hl : ∀ j, j < i → a.testBit j = false) : wbits k a = (64 * (k : Int) + (i : Int)) :: wbits k (a &&& (a - 1)) := by
  unfold wbits;rw [filter_low (bit_lt ha h) h hl (clear_low h hl)];rfl
theorem lsT_len (ms : List Nat) (m : Nat) : (lsT ms m).length ≤ m := by
  simp only [lsT, List.length_map]; exact Nat.le_trans (List.length_filter_le _ _) (by simp)
end Go.V
