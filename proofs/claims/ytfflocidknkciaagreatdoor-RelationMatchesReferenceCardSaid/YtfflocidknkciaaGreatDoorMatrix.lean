/- A relation as a matrix of words: its pairs, how it is laid, joined, closed. Holds for every program. -/
import Derived.Test.YtfflocidknkciaaGreatDoorRange
set_option linter.all false
namespace Go.V
open Go
def mB (ms : List Nat) (x y : Nat) : Bool := (gn ms x).testBit y
def prL (ms : List Nat) : List (Int × Int) := relP 64 (mB ms)
theorem rlT_pre {p : Nat} (M : Nat → Nat → Bool) : ∀ (m x y : Nat), x < p → y ≤ p → (p - x) * (p + 1) + (p - y) ≤ m → ∃ suf, relP p M = rlT p M x y ++ suf := by
  intro m
  induction m with
  | zero =>
    intro x y hx hy hm;have h1 : 0 < p - x := (by omega);have h2 : 0 < (p - x) * (p + 1) := Nat.mul_pos h1 (by omega);omega
  | succ m ih =>
    intro x y hx hy hm;by_cases hy2 : y < p
    · obtain ⟨suf, hs⟩ := ih x (y + 1) hx (by omega) (by omega);rw [hs, rlT_y];split
      · exact ⟨[((x : Int), (y : Int))] ++ suf, by simp⟩
      · exact ⟨suf, rfl⟩
    · obtain rfl : y = p := (by omega);by_cases hx2 : x + 1 < y
      · have e1 : (y - x) * (y + 1) = (y - (x + 1)) * (y + 1) + (y + 1) := by
          rw [show y - x = (y - (x + 1)) + 1 by omega, Nat.add_mul, Nat.one_mul]
        obtain ⟨suf, hs⟩ := ih (x + 1) 0 hx2 (by omega) (by omega);exact ⟨suf, by rw [hs, rlT_x]⟩
      · have : x + 1 = y := (by omega);refine ⟨[], ?_⟩;rw [List.append_nil, ← rlT_x, this, rlT_end]
theorem pr_split {ms : List Nat} {x y : Nat} (hx : x < 64) (hy : y < 64) (h : mB ms x y = true) : ∃ suf, prL ms = rlT 64 (mB ms) x y ++ ((x : Int), (y : Int)) :: suf := by
  obtain ⟨suf, hs⟩ := rlT_pre (mB ms) _ x (y + 1) hx (by omega) (Nat.le_refl _);refine ⟨suf, ?_⟩;rw [prL, hs, rlT_y, if_pos h]; simp
theorem relP_mem {p : Nat} {M : Nat → Nat → Bool} {q : Int × Int} (h : q ∈ relP p M) : ∃ x y : Nat, x < p ∧ y < p ∧ q = ((x : Int), (y : Int)) ∧ M x y = true := by
  simp only [relP, rlRow, List.mem_flatMap, List.mem_map, List.mem_filter, List.mem_range] at h;obtain ⟨x, hx, y, ⟨hy, hm⟩, rfl⟩ := h;exact ⟨x, y, hx, hy, rfl, hm⟩
theorem relP_len {p : Nat} (M : Nat → Nat → Bool) (hp : p ≤ 64) : (relP p M).length ≤ 4096 := by
  have h := rlT_len p M p 0;rw [rlT_end] at h;have : p * p ≤ 64 * 64 := Nat.mul_le_mul hp hp;omega
/-- Nothing lies beyond p. -/
theorem relP_cut {p : Nat} {M : Nat → Nat → Bool} (hp : p ≤ 64) (h : ∀ x y, x < 64 → y < 64 → M x y = true → x < p ∧ y < p) : relP 64 M = relP p M := by
  have e : List.range 64 = List.range p ++ (List.range (64 - p)).map (p + ·) := by rw [← List.range_add]; congr 1; omega
  have row : ∀ x, x < 64 → rlRow 64 M x 64 = rlRow p M x p := fun x hx => by
    unfold rlRow;rw [e, List.filter_append]
    have : ((List.range (64 - p)).map (p + ·)).filter (M x) = [] := List.filter_eq_nil_iff.2 fun y hy => by
      simp only [List.mem_map, List.mem_range] at hy;obtain ⟨z, hz, rfl⟩ := hy;intro hm;have := (h x (p + z) hx (by omega) hm).2; omega
    rw [this, List.append_nil]
  have none : ∀ x, x < 64 → p ≤ x → rlRow 64 M x 64 = [] := fun x hx hpx => by
    unfold rlRow
    have : (List.range 64).filter (M x) = [] := List.filter_eq_nil_iff.2 fun y hy => by
      intro hm;have := (h x y hx (by simpa using hy) hm).1; omega
    rw [this]; rfl
  unfold relP;rw [e, List.flatMap_append]
  have h2 : ((List.range (64 - p)).map (p + ·)).flatMap (fun x => rlRow 64 M x 64) = [] := by
    rw [List.flatMap_eq_nil_iff];intro x hx;simp only [List.mem_map, List.mem_range] at hx;obtain ⟨z, hz, rfl⟩ := hx;exact none _ (by omega) (by omega)
  rw [h2, List.append_nil];simp only [List.flatMap_def];congr 1;apply List.map_congr_left;intro x hx;exact row x (by have := List.mem_range.1 hx; omega)

/-! ## A relation's rows -/
def rowM (ms : List Nat) (x y : Nat) : List Nat := ms.set x (gn ms x ||| 2 ^ y)
theorem mB_row {ms : List Nat} {x y a b : Nat} (h : okW ms) (hx : x < 64) : mB (rowM ms x y) a b = (mB ms a b || decide (a = x ∧ b = y)) := by
  unfold mB rowM;rw [gn_set (by rw [h.1]; exact hx)];by_cases hax : x = a
  · subst hax;rw [if_pos rfl, Nat.testBit_or, Nat.testBit_two_pow];congr 1;by_cases hb : b = y
    · subst hb; simp
    · simp [hb, Ne.symm hb]
  · rw [if_neg hax]; simp [Ne.symm hax]
theorem or_lt {a b : Nat} (ha : a < 18446744073709551616) (hb : b < 18446744073709551616) : a ||| b < 18446744073709551616 := Nat.or_lt_two_pow (n := 64) ha hb
theorem okW_row {ms : List Nat} {x y : Nat} (h : okW ms) (hx : x < 64) (hy : y < 64) : okW (rowM ms x y) := okW_set h hx (or_lt (h.2 x) (pow64 hy).1)
def rowsM (ins : List (Int × Int)) (k : Nat) : List Nat := (ins.take k).foldl (fun ms q => rowM ms q.1.toNat q.2.toNat) (List.replicate 64 0)
theorem rowsM_zero (ins : List (Int × Int)) : rowsM ins 0 = List.replicate 64 0 := by simp [rowsM]
theorem rowsM_succ {ins : List (Int × Int)} {k : Nat} (h : k < ins.length) : rowsM ins (k + 1) = rowM (rowsM ins k) (gp ins k).1.toNat (gp ins k).2.toNat := by
  unfold rowsM;rw [List.take_succ_eq_append_getElem h, List.foldl_append];simp [gp, h]
def prIn (ins : List (Int × Int)) : Prop := ∀ i, i < ins.length → 0 ≤ (gp ins i).1 ∧ (gp ins i).1 < 64 ∧ 0 ≤ (gp ins i).2 ∧ (gp ins i).2 < 64
theorem okW_rows {ins : List (Int × Int)} (h : prIn ins) : ∀ k, k ≤ ins.length → okW (rowsM ins k)
  | 0, _ => by rw [rowsM_zero]; exact okW_zero
  | k + 1, hk => by
    rw [rowsM_succ (by omega)];have := h k (by omega);exact okW_row (okW_rows h k (by omega)) (by omega) (by omega)
theorem mB_zero (x y : Nat) : mB (List.replicate 64 0) x y = false := by
  have h0 : gn (List.replicate 64 0) x = 0 := (by simp only [gn, List.getD_eq_getElem?_getD, List.getElem?_replicate]; split <;> simp);rw [mB, h0]; simp
theorem mB_rows {ins : List (Int × Int)} (h : prIn ins) (x y : Nat) : ∀ k, k ≤ ins.length → mB (rowsM ins k) x y = decide (((x : Int), (y : Int)) ∈ ins.take k)
  | 0, _ => by rw [rowsM_zero, mB_zero]; simp
  | k + 1, hk => by
    have hr := h k (by omega);rw [rowsM_succ (by omega), mB_row (okW_rows h k (by omega)) (by omega), mB_rows h x y k (by omega), List.take_succ_eq_append_getElem (by omega)];have e : gp ins k = ins[k] := (by simp [gp, show k < ins.length by omega]);rw [e] at hr ⊢;rw [Bool.eq_iff_iff];simp only [Bool.or_eq_true, decide_eq_true_eq, List.mem_append, List.mem_singleton];constructor
    · rintro (q | ⟨q1, q2⟩)
      · exact .inl q
      · right; apply Prod.ext
        · simp only; omega
        · simp only; omega
    · rintro (q | q)
      · exact .inl q
      · right; rw [← q]; simp
def rowA (ins : List (Int × Int)) : List Nat := rowsM ins ins.length
theorem mB_rowA {ins : List (Int × Int)} (h : prIn ins) (x y : Nat) : mB (rowA ins) x y = tabA ins x y := by
  rw [rowA, mB_rows h x y _ (Nat.le_refl _), List.take_length]; rfl
theorem rel_64 {s : RelD} (h : relB s = true) : prIn s.ins ∧ s.cells.length ≤ 32 ∧ s.us.length ≤ 32 ∧ pw s.us ≤ 64 ∧ prTo s.ins (pw s.us : Int) s.ins.length := by
  obtain ⟨hsh, h6, hpr⟩ := relB_iff.1 h;obtain ⟨hcu, hc32, _⟩ := shB_iff.1 hsh;have hp6 := pw_64 h6.2;rw [← pw_int] at hpr;refine ⟨fun i hi => ?_, hc32, by omega, hp6, hpr⟩;have := hpr i hi;unfold prOk at this;omega
theorem tabA_lt {s : RelD} (h : relB s = true) {x y : Nat} (hx : tabA s.ins x y = true) : x < pw s.us ∧ y < pw s.us := by
  simp only [tabA, decide_eq_true_eq] at hx;obtain ⟨i, hi, hg⟩ := List.getElem_of_mem hx;have := (rel_64 h).2.2.2.2 i hi;unfold prOk at this;rw [gp_some hi, hg] at this;simp only at this; omega
/-! ## Words as sets -/
def wdW (ins : List Int) (k : Nat) : Nat := (ins.take k).foldl (fun a x => a ||| 2 ^ x.toNat) 0
theorem wdW_succ {ins : List Int} {k : Nat} (h : k < ins.length) : wdW ins (k + 1) = wdW ins k ||| 2 ^ (gi ins k).toNat := by
  unfold wdW;rw [List.take_succ_eq_append_getElem h, List.foldl_append];simp [gi, h]
def in64 (ins : List Int) : Prop := ∀ i, i < ins.length → 0 ≤ gi ins i ∧ gi ins i < 64
theorem wdW_lt {ins : List Int} (h : in64 ins) : ∀ k, k ≤ ins.length → wdW ins k < 18446744073709551616
  | 0, _ => by simp [wdW]
  | k + 1, hk => by
    rw [wdW_succ (by omega)];exact or_lt (wdW_lt h k (by omega)) (pow64 (by have := h k (by omega); omega)).1
theorem wdW_bit {ins : List Int} (h : in64 ins) (y : Nat) : ∀ k, k ≤ ins.length → (wdW ins k).testBit y = decide ((y : Int) ∈ ins.take k)
  | 0, _ => by simp [wdW]
  | k + 1, hk => by
    have hr := h k (by omega);rw [wdW_succ (by omega), Nat.testBit_or, wdW_bit h y k (by omega), Nat.testBit_two_pow, List.take_succ_eq_append_getElem (by omega)];have e : gi ins k = ins[k] := (by simp [gi, show k < ins.length by omega]);rw [e] at hr ⊢;rw [Bool.eq_iff_iff];simp only [Bool.or_eq_true, decide_eq_true_eq, List.mem_append, List.mem_singleton];constructor
    · rintro (q | q)
      · exact .inl q
      · right; omega
    · rintro (q | q)
      · exact .inl q
      · right; omega
def wlT (a m : Nat) : List Int := ((List.range m).filter a.testBit).map fun (n : Nat) => (n : Int)
theorem wlT_succ (a m : Nat) : wlT a (m + 1) = if a.testBit m = true then wlT a m ++ [(m : Int)] else wlT a m := by
  simp only [wlT, List.range_succ, List.filter_append, List.map_append];split <;> simp_all
theorem wlT_len (a m : Nat) : (wlT a m).length ≤ m := by
  simp only [wlT, List.length_map];exact Nat.le_trans (List.length_filter_le _ _) (by simp)
theorem bit_iff {a y : Nat} : (((a / 2 ^ y &&& 1 : Nat) : Int) = 1) ↔ a.testBit y = true := by
  rw [← shr_bit]; omega
theorem shr_lt {a : Nat} (y : Nat) (ha : a < 18446744073709551616) : a / 2 ^ y < 18446744073709551616 := Nat.lt_of_le_of_lt (Nat.div_le_self _ _) ha
/-- A set under way: its list is still empty. -/
def isPre (B : Nat) (cl us : List Int) (v : Value) (w : World) : Prop := ∃ a1 c1 a2 c2, v = .agg #[.slice a1 cl.length c1, .slice a2 us.length c2, .slice none 0 0] ∧ New 3 1 B w (.slice a1 cl.length c1) cl.length (iv cl) ∧ New 3 1 B w (.slice a2 us.length c2) us.length (iv us)
theorem isPre.ext {B : Nat} {cl us : List Int} {v : Value} {w w' : World} (h : isPre B cl us v w) (x : Ext w w') : isPre B cl us v w' := by
  obtain ⟨a1, c1, a2, c2, h1, h2, h3⟩ := h; exact ⟨a1, c1, a2, c2, h1, h2.ext x, h3.ext x⟩
theorem rlT_next {p j k : Nat} {M : Nat → Nat → Bool} {J : List (Int × Int) → World → Prop} {w : World} (hj : j = p) (h : J (rlT p M k j) w) : J (rlT p M (k + 1) 0) w := by subst hj; rw [rlT_x]; exact h
/-- The shape of a list, by way of the set of its states. -/
theorem shE_sof (cs : List CellD) (l : List Int) : (sofE cs l c0 = 0 → sofR cs l c0 = ⟨l, wdL cs l, []⟩ ∧ wsOk (wdL cs l)) ∧ (sofE cs l c0 ≠ 0 → shE cs l = sofE cs l c0) ∧ (sofE cs l c0 = 0 → shE cs l = if 6 < sumL (wdL cs l) then 2 else 0) := by
  have h := sof_c0 cs l;refine ⟨fun h0 => ?_, fun h0 => ?_, fun h0 => ?_⟩
  · rw [h0] at h;split at h
    · omega
    · rename_i hw
      split at h
      · omega
      · rename_i h12
        have hw' : wdB cs l = true := (by simpa using hw);exact ⟨sofR_c0 h0 (by omega), sh_wsOk (wdB_sh hw')⟩
  · rw [h] at h0 ⊢;unfold shE
    cases hw : wdB cs l with
    | false => simp
    | true =>
      rw [hw] at h0;simp only [Bool.true_eq_false, if_false, if_true] at h0 ⊢;by_cases h12 : 12 < sumL (wdL cs l)
      · rw [if_pos h12, if_pos (by omega)]
      · rw [if_neg h12] at h0; exact absurd rfl h0
  · rw [h0] at h;unfold shE;split
    · rfl
    · rename_i hw
      rw [if_pos (by simpa using hw)] at h; omega
/-- What Meet says of a set without elements. -/
theorem me_shape {s : RelD} (h : meE ⟨s.cells, s.us, []⟩ ⟨s.cells, s.us, []⟩ = 0) : shB s.cells s.us = true ∧ 0 ≤ sumL s.us ∧ sumL s.us ≤ 12 := by
  unfold meE at h;split at h
  · rename_i hm
    rw [meet_self] at hm;obtain ⟨h1, h2, _⟩ := setB_iff.1 hm;exact ⟨h1, h2.1, h2.2⟩
  · omega
theorem rel_noShape {s : RelD} (h : meE ⟨s.cells, s.us, []⟩ ⟨s.cells, s.us, []⟩ ≠ 0) : relB s = false := by
  cases hq : relB s with
  | false => rfl
  | true =>
    exfalso;obtain ⟨h1, h2, _⟩ := relB_iff.1 hq;apply h;unfold meE;rw [if_pos (by rw [meet_self]; exact setB_iff.2 ⟨h1, ⟨h2.1, Int.le_trans h2.2 (by decide)⟩, risB_iff.2 fun i hi => by simp at hi⟩)]
theorem rel_big {s : RelD} (h : 6 < sumL s.us) : relB s = false := by
  cases hq : relB s with
  | false => rfl
  | true => have := (relB_iff.1 hq).2.1.2; omega
theorem rel_noPair {s : RelD} {k : Nat} (hk : k < s.ins.length) (h : ¬ prOk s.ins (2 ^ (sumL s.us).toNat) k) : relB s = false := by
  cases hq : relB s with
  | false => rfl
  | true => exact absurd ((relB_iff.1 hq).2.2 k hk) h
theorem pr_lt {ms : List Nat} {q suf : List (Int × Int)} {x : Int × Int} (h : prL ms = q ++ x :: suf) : q.length < 4096 := by
  have h1 := congrArg List.length h;have h2 := relP_len (mB ms) (Nat.le_refl 64);have h3 : (prL ms).length ≤ 4096 := h2;rw [h1] at h3;simp only [List.length_append, List.length_cons] at h3;omega
theorem New.lt {T size base n : Nat} {w : World} {v : Value} {xs : List Value} (h : New T size base w v n xs) (h0 : 0 < n) : ∀ k, v.ownBlock = some k → k < w.heap.size := by
  rcases h with ⟨h1, _⟩ | ⟨_, h⟩
  · omega
  · exact fun k hk => (h.lt k hk).2
theorem New.keptA {T T' size size' base B n m : Nat} {w w' : World} {v u : Value} {xs ys : List Value} (h : New T size base w v n xs) (hb : 0 < n → ∀ k, v.ownBlock = some k → k < B) (hg : w.grownBy w' u.ownBlock) (hown : w.ownsRow B T' size' u m ys) : New T size base w' v n xs := by
  rcases h with h | ⟨h0, h⟩
  · exact .inl h
  · refine .inr ⟨h0, h.kept hg ?_⟩
    cases hv : v.ownBlock with
    | none => exact .inl rfl
    | some k =>
      right;intro hq;have h1 := hb h0 k hv;have h2 := (hown.lt k hq.symm).1;omega
theorem me_self {t : SetD} : meE t t = if setB t = true then 0 else 1 := by unfold meE; rw [meet_self]
theorem me_self0 {t : SetD} : meE t t = 0 ↔ setB t = true := by
  rw [me_self]; cases setB t <;> simp
/-- The union of two matrices. -/
theorem mB_zip {ms ns : List Nat} {x y : Nat} (hx : x < 64) : mB (zipT (fun a b => a ||| b) ms ns 64) x y = (mB ms x y || mB ns x y) := by
  unfold mB; rw [gn_zipT hx, if_pos hx, Nat.testBit_or]
theorem uv_inj {a b : List Nat} (h : uv a = uv b) : a = b := by
  have hl : a.length = b.length := (by have := congrArg List.length h; simpa [uv_len] using this);refine list_gn hl fun i hi => ?_;have h1 : (uv a)[i]? = some (.int .u64 ((gn a i : Nat) : Int)) := (by simp [uv, gn, hi]);have h2 : (uv b)[i]? = some (.int .u64 ((gn b i : Nat) : Int)) := (by simp [uv, gn, show i < b.length by omega]);rw [h, h2] at h1;injection h1 with h1; injection h1 with _ h1;omega
theorem Blk.uvEq {w : World} {b T T' : Nat} {a c : List Nat} (h1 : Blk w b T (uv a)) (h2 : Blk w b T' (uv c)) : a = c := by
  have h := (show w.heap[b]? = _ from h1).symm.trans (show w.heap[b]? = _ from h2);injection h with h; injection h with h;exact uv_inj (by simpa using congrArg Array.toList h)
theorem zip_step {f : Nat → Nat → Nat} {ms ns : List Nat} {k : Nat} (hk : k < 64) : zipT f ms ns (k + 1) = (zipT f ms ns k).set k (f (gn (zipT f ms ns k) k) (gn ns k)) := by
  rw [gn_zipT hk, if_neg (Nat.lt_irrefl k), zipT_set hk]
theorem zip_same {f : Nat → Nat → Nat} {ms ns : List Nat} {k : Nat} (h : ms = ns) (hk : k < 64) : (zipT f ms ns k).set k (f (gn (zipT f ms ns k) k) (gn (zipT f ms ns k) k)) = zipT f ms ns (k + 1) := by
  subst h;have e : gn (zipT f ms ms k) k = gn ms k := (by rw [gn_zipT hk, if_neg (Nat.lt_irrefl k)]);rw [e, zipT_set hk]
theorem un_eq {s t : RelD} (h : alikeB s t = true) : (⟨s.cells, s.us, prL (zipT (fun a b => a ||| b) (rowA s.ins) (rowA t.ins) 64)⟩ : RelD) = unR s t := by
  obtain ⟨h1, h2, h3, h4⟩ := alike_iff.1 h;rw [unR, if_pos h];congr 1;unfold prL
  have e : ∀ x y, x < 64 → y < 64 → mB (zipT (fun a b => a ||| b) (rowA s.ins) (rowA t.ins) 64) x y = (tabA s.ins x y || tabA t.ins x y) := fun x y hx _ => by
    rw [mB_zip hx, mB_rowA (rel_64 h1).1, mB_rowA (rel_64 h2).1]
  rw [relP_cut (p := pw s.us) (rel_64 h1).2.2.2.1]
  · exact relP_congr fun x y hx hy => e x y (by have := (rel_64 h1).2.2.2.1; omega) (by have := (rel_64 h1).2.2.2.1; omega)
  · intro x y hx hy hm;rw [e x y hx hy, Bool.or_eq_true] at hm;rcases hm with hm | hm
    · exact tabA_lt h1 hm
    · rw [h4]; exact tabA_lt h2 hm
end Go.V
