/- What the functions on matrices compute, held against the reference's answers. No program in sight. -/
import Derived.Test.YtfflocidknkciaaGreatDoorMatrix
set_option linter.all false
namespace Go.V
open Go
theorem un_if (s t : RelD) : (if alikeB s t = true then unR s t else rel0) = unR s t := by unfold unR; split <;> rfl
theorem co_if (s t : RelD) : (if alikeB s t = true then coR s t else rel0) = coR s t := by unfold coR; split <;> rfl
theorem cl_if (s : RelD) : (if relB s = true then clR s else rel0) = clR s := by unfold clR; split <;> rfl
theorem im_if (s : RelD) (t : SetD) : (if fitsB s t = true then imR s t else set0) = imR s t := by unfold imR; split <;> rfl
theorem in_if (s : RelD) (t : SetD) : (if fitsB s t = true then inR' s t else set0) = inR' s t := by unfold inR'; split <;> rfl
theorem pr_in {ms : List Nat} {q suf : List (Int × Int)} {x : Int × Int} (h : prL ms = q ++ x :: suf) : ∃ i j : Nat, i < 64 ∧ j < 64 ∧ x = ((i : Int), (j : Int)) ∧ mB ms i j = true := relP_mem (p := 64) (M := mB ms) (by
  show x ∈ prL ms
  rw [h]; simp)
/-- Two matrices of the same pairs below p. -/
theorem pr_eq {ms : List Nat} {p : Nat} {M : Nat → Nat → Bool} (hp : p ≤ 64) (h1 : ∀ x y, x < 64 → y < 64 → mB ms x y = true → x < p ∧ y < p) (h2 : ∀ x y, x < p → y < p → mB ms x y = M x y) : prL ms = relP p M := by
  unfold prL; rw [relP_cut hp h1]; exact relP_congr h2

theorem gn_rep (i : Nat) : gn (List.replicate 64 0) i = 0 := by simp only [gn, List.getD_eq_getElem?_getD, List.getElem?_replicate]; split <;> simp
theorem okW_rowA {ins : List (Int × Int)} (h : prIn ins) : okW (rowA ins) := okW_rows h _ (Nat.le_refl _)
/-! ## The identity -/
def idM (k : Nat) : List Nat := (List.range 64).map fun x => if x < k then 2 ^ x else 0
theorem gn_idM {k i : Nat} (h : i < 64) : gn (idM k) i = if i < k then 2 ^ i else 0 := by simp [idM, gn, h]
theorem idM_len (k : Nat) : (idM k).length = 64 := by simp [idM]
theorem idM_zero : idM 0 = List.replicate 64 0 := list_gn (by simp [idM]) fun i hi => by
  rw [idM_len] at hi;rw [gn_idM hi, gn_rep, if_neg (by omega)]
theorem idM_succ {k : Nat} (hk : k < 64) : (idM k).set k (2 ^ k) = idM (k + 1) := list_gn (by simp [idM]) fun i hi => by
  rw [List.length_set, idM_len] at hi;rw [gn_set (by rw [idM_len]; exact hk), gn_idM hi, gn_idM hi];by_cases h : k = i
  · subst h; rw [if_pos rfl, if_pos (by omega)]
  · rw [if_neg h];by_cases h2 : i < k
    · rw [if_pos h2, if_pos (by omega)]
    · rw [if_neg h2, if_neg (by omega)]
theorem gn_out {l : List Nat} {i : Nat} (h : l.length ≤ i) : gn l i = 0 := by simp [gn, h]
theorem okW_of {ms : List Nat} (hl : ms.length = 64) (h : ∀ i, i < 64 → gn ms i < 18446744073709551616) : okW ms := ⟨hl, fun i => by
  by_cases hi : i < 64
  · exact h i hi
  · rw [gn_out (by omega)]; omega⟩
theorem okW_idM (k : Nat) : okW (idM k) := okW_of (idM_len k) fun i hi => by
  rw [gn_idM hi]; split
  · exact (pow64 hi).1
  · omega
theorem id_eq {p : Nat} (hp : p ≤ 64) : prL (idM p) = relP p (fun x y => decide (x = y)) := by
  have e : ∀ x y, x < 64 → mB (idM p) x y = (decide (x < p) && decide (x = y)) := fun x y hx => by
    unfold mB; rw [gn_idM hx];by_cases h : x < p
    · rw [if_pos h, Nat.testBit_two_pow]; simp [h]
    · rw [if_neg h]; simp [h]
  refine pr_eq hp (fun x y hx hy hm => ?_) (fun x y hx hy => ?_)
  · rw [e x y hx] at hm; simp only [Bool.and_eq_true, decide_eq_true_eq] at hm; omega
  · rw [e x y (by omega)]; simp [hx]

/-! ## The composition -/
def coW (ns : List Nat) (q : List (Int × Int)) : List Nat := q.foldl (fun ms z => ms.set z.1.toNat (gn ms z.1.toNat ||| gn ns z.2.toNat)) (List.replicate 64 0)
theorem coW_nil (ns : List Nat) : coW ns [] = List.replicate 64 0 := rfl
theorem coW_app (ns : List Nat) (q : List (Int × Int)) (i j : Nat) : coW ns (q ++ [((i : Int), (j : Int))]) = (coW ns q).set i (gn (coW ns q) i ||| gn ns j) := by
  simp [coW, List.foldl_append]
def in64p (q : List (Int × Int)) : Prop := ∀ z, z ∈ q → ∃ i j : Nat, i < 64 ∧ j < 64 ∧ z = ((i : Int), (j : Int))
theorem coW_ok {ns : List Nat} (hn : okW ns) : ∀ (q : List (Int × Int)), in64p q → okW (coW ns q) ∧ ∀ a b, mB (coW ns q) a b = true ↔ ∃ i j : Nat, ((i : Int), (j : Int)) ∈ q ∧ a = i ∧ mB ns j b = true := by
  intro q;rw [← List.reverse_reverse q]
  induction q.reverse with
  | nil => intro _; simp only [List.reverse_nil]; exact ⟨okW_zero, fun a b => ⟨fun h => (by rw [coW_nil, mB_zero] at h; cases h), fun ⟨i, j, h, _⟩ => (by simp at h)⟩⟩
  | cons z q ih =>
    intro h;rw [List.reverse_cons] at h ⊢;obtain ⟨i, j, hi, hj, rfl⟩ := h z (by simp);obtain ⟨ih1, ih2⟩ := ih fun z hz => h z (by simp at hz ⊢; exact .inl hz);rw [coW_app];refine ⟨okW_set ih1 hi (or_lt (ih1.2 i) (hn.2 j)), fun a b => ?_⟩;unfold mB at ih2 ⊢;rw [gn_set (by rw [ih1.1]; exact hi)];by_cases hia : i = a
    · subst hia;rw [if_pos rfl, Nat.testBit_or, Bool.or_eq_true, ih2];constructor
      · rintro (⟨i', j', h1, rfl, h3⟩ | h1)
        · exact ⟨_, j', List.mem_append_left _ h1, rfl, h3⟩
        · exact ⟨i, j, by simp, rfl, h1⟩
      · rintro ⟨i', j', h1, rfl, h3⟩
        rcases List.mem_append.1 h1 with h1 | h1
        · exact .inl ⟨_, j', h1, rfl, h3⟩
        · right;have h1 := List.mem_singleton.1 h1;have := congrArg Prod.snd h1; simp only at this;rw [show j = j' by omega]; exact h3
    · rw [if_neg hia, ih2];constructor
      · rintro ⟨i', j', h1, h2, h3⟩; exact ⟨i', j', List.mem_append_left _ h1, h2, h3⟩
      · rintro ⟨i', j', h1, h2, h3⟩
        rcases List.mem_append.1 h1 with h1 | h1
        · exact ⟨i', j', h1, h2, h3⟩
        · exfalso;have h1 := List.mem_singleton.1 h1;have := congrArg Prod.fst h1; simp only at this;omega
theorem pr_in64 (ms : List Nat) : in64p (prL ms) := fun z hz => by
  obtain ⟨i, j, h1, h2, h3, _⟩ := relP_mem hz;exact ⟨i, j, h1, h2, h3⟩
theorem in64_pre {q suf : List (Int × Int)} {ms : List Nat} (h : prL ms = q ++ suf) : in64p q := fun z hz => pr_in64 ms z (by rw [h]; exact List.mem_append_left _ hz)
theorem pr_iff {ms : List Nat} {i j : Nat} (hi : i < 64) (hj : j < 64) : ((i : Int), (j : Int)) ∈ prL ms ↔ mB ms i j = true := by
  constructor
  · intro h;obtain ⟨x, y, h1, h2, h3, h4⟩ := relP_mem h;have e1 := congrArg Prod.fst h3; have e2 := congrArg Prod.snd h3;simp only at e1 e2;rw [show i = x by omega, show j = y by omega]; exact h4
  · intro h;obtain ⟨suf, hs⟩ := pr_split hi hj h;rw [hs]; simp
theorem co_eq {s t : RelD} (h : alikeB s t = true) : (⟨s.cells, s.us, prL (coW (rowA t.ins) (prL (rowA s.ins)))⟩ : RelD) = coR s t := by
  obtain ⟨h1, h2, h3, h4⟩ := alike_iff.1 h;obtain ⟨p1, _, _, hp, _⟩ := rel_64 h1;obtain ⟨q1, _, _, _, _⟩ := rel_64 h2;rw [coR, if_pos h];congr 1;have hco := (coW_ok (okW_rowA q1) _ (pr_in64 (rowA s.ins))).2
  have e : ∀ x z, x < 64 → (mB (coW (rowA t.ins) (prL (rowA s.ins))) x z = true ↔ ∃ y, tabA s.ins x y = true ∧ tabA t.ins y z = true) := fun x z hx => by
    rw [hco];constructor
    · rintro ⟨i, j, hm, rfl, hb⟩
      obtain ⟨i', j', hi, hj, he⟩ := pr_in64 _ _ hm;have e1 := congrArg Prod.fst he; have e2 := congrArg Prod.snd he;simp only at e1 e2;rw [pr_iff (by omega) (by omega), mB_rowA p1] at hm;rw [mB_rowA q1] at hb;exact ⟨j, hm, hb⟩
    · rintro ⟨y, hm, hb⟩
      have hy := (tabA_lt h1 hm).2;exact ⟨x, y, (pr_iff hx (by omega)).2 (by rw [mB_rowA p1]; exact hm), rfl, by rw [mB_rowA q1]; exact hb⟩
  refine pr_eq hp (fun x z hx hz hm => ?_) (fun x z hx hz => ?_)
  · obtain ⟨y, ha, hb⟩ := (e x z hx).1 hm;exact ⟨(tabA_lt h1 ha).1, by rw [h4]; exact (tabA_lt h2 hb).2⟩
  · rw [Bool.eq_iff_iff, e x z (by omega)];simp only [thr, thrT, List.any_eq_true, List.mem_range, Bool.and_eq_true];constructor
    · rintro ⟨y, ha, hb⟩; exact ⟨y, (tabA_lt h1 ha).2, ha, hb⟩
    · rintro ⟨y, _, ha, hb⟩; exact ⟨y, ha, hb⟩

/-! ## The closure -/
def wR (S : Nat → Nat → Bool) : Nat → Nat → Nat → Bool
  | 0, x, z => S x z || decide (x = z)
  | k + 1, x, z => wR S k x z || (wR S k x k && wR S k k z)
theorem wR_mono {S : Nat → Nat → Bool} {x z : Nat} : ∀ {k m : Nat}, k ≤ m → wR S k x z = true → wR S m x z = true := by
  intro k m h hk
  induction m with
  | zero => rw [show k = 0 by omega] at hk; exact hk
  | succ m ih =>
    by_cases hkm : k = m + 1
    · subst hkm; exact hk
    · simp only [wR, Bool.or_eq_true]; exact .inl (ih (by omega))
theorem wR_trans {S : Nat → Nat → Bool} : ∀ (k x y z : Nat), y < k → wR S k x y = true → wR S k y z = true → wR S k x z = true
  | 0, _, _, _, h, _, _ => by omega
  | k + 1, x, y, z, hy, h1, h2 => by
    simp only [wR, Bool.or_eq_true, Bool.and_eq_true] at h1 h2 ⊢;by_cases hyk : y = k
    · subst hyk;refine .inr ⟨?_, ?_⟩
      · rcases h1 with h1 | h1
        · exact h1
        · exact h1.1
      · rcases h2 with h2 | h2
        · exact h2
        · exact h2.2
    · have hlt : y < k := (by omega);rcases h1 with h1 | ⟨h1, h1'⟩
      · rcases h2 with h2 | ⟨h2, h2'⟩
        · exact .inl (wR_trans k x y z hlt h1 h2)
        · exact .inr ⟨wR_trans k x y k hlt h1 h2, h2'⟩
      · rcases h2 with h2 | ⟨h2, h2'⟩
        · exact .inr ⟨h1, wR_trans k k y z hlt h1' h2⟩
        · exact .inr ⟨h1, h2'⟩
theorem Reach.trans {S : Nat → Nat → Bool} {x y z : Nat} (h1 : Reach S x y) (h2 : Reach S y z) : Reach S x z := by
  induction h2 with
  | refl => exact h1
  | step _ h ih => exact .step ih h
theorem wR_sound {S : Nat → Nat → Bool} : ∀ (k x z : Nat), wR S k x z = true → Reach S x z
  | 0, x, z, h => by
    simp only [wR, Bool.or_eq_true, decide_eq_true_eq] at h;rcases h with h | rfl
    · exact .step .refl h
    · exact .refl
  | k + 1, x, z, h => by
    simp only [wR, Bool.or_eq_true, Bool.and_eq_true] at h;rcases h with h | ⟨h1, h2⟩
    · exact wR_sound k x z h
    · exact (wR_sound k x k h1).trans (wR_sound k k z h2)
theorem wR_clo {S : Nat → Nat → Bool} {p : Nat} (hS : ∀ x y, S x y = true → x < p ∧ y < p) (x z : Nat) : wR S p x z = clo S x z := by
  rw [Bool.eq_iff_iff, clo_iff];refine ⟨wR_sound p x z, fun h => ?_⟩
  induction h with
  | refl => exact wR_mono (Nat.zero_le _) (by simp [wR])
  | step _ h ih => exact wR_trans p _ _ _ (hS _ _ h).1 ih (wR_mono (Nat.zero_le _) (by simp [wR, h]))
/-- One round: the rows below i have taken in row y. -/
def wrM (ms : List Nat) (y i : Nat) : List Nat := (List.range 64).map fun x => if x < i ∧ mB ms x y = true then gn ms x ||| gn ms y else gn ms x
theorem wrM_len (ms : List Nat) (y i : Nat) : (wrM ms y i).length = 64 := by simp [wrM]
theorem gn_wrM {ms : List Nat} {y i x : Nat} (h : x < 64) : gn (wrM ms y i) x = if x < i ∧ mB ms x y = true then gn ms x ||| gn ms y else gn ms x := by simp [wrM, gn, h]
theorem wrM_zero {ms : List Nat} {y : Nat} (h : ms.length = 64) : wrM ms y 0 = ms := list_gn (by rw [wrM_len, h]) fun i hi => by
  rw [wrM_len] at hi; rw [gn_wrM hi, if_neg (by omega)]
theorem okW_wrM {ms : List Nat} {y i : Nat} (h : okW ms) : okW (wrM ms y i) := okW_of (wrM_len _ _ _) fun x hx => by
  rw [gn_wrM hx]; split
  · exact or_lt (h.2 x) (h.2 y)
  · exact h.2 x
theorem wrM_row {ms : List Nat} {y i : Nat} (hy : y < 64) : gn (wrM ms y i) y = gn ms y := by
  rw [gn_wrM hy]; split
  · exact Nat.or_self _
  · rfl
theorem wrM_at {ms : List Nat} {y i : Nat} (hi : i < 64) : gn (wrM ms y i) i = gn ms i := by rw [gn_wrM hi, if_neg (by omega)]
theorem wrM_yes {ms : List Nat} {y i : Nat} (hy : y < 64) (hi : i < 64) (hb : (gn (wrM ms y i) i).testBit y = true) : (wrM ms y i).set i (gn (wrM ms y i) i ||| gn (wrM ms y i) y) = wrM ms y (i + 1) := by
  rw [wrM_at hi] at hb ⊢;rw [wrM_row hy];refine list_gn (by simp [wrM]) fun x hx => ?_;rw [List.length_set, wrM_len] at hx;rw [gn_set (by rw [wrM_len]; exact hi), gn_wrM hx, gn_wrM hx];by_cases h : i = x
  · subst h; rw [if_pos rfl, if_pos ⟨by omega, hb⟩]
  · rw [if_neg h];by_cases h2 : x < i
    · by_cases h3 : mB ms x y = true
      · rw [if_pos ⟨h2, h3⟩, if_pos ⟨by omega, h3⟩]
      · rw [if_neg (fun q => h3 q.2), if_neg (fun q => h3 q.2)]
    · rw [if_neg (fun q => h2 q.1), if_neg (fun q => by omega)]
theorem wrM_no {ms : List Nat} {y i : Nat} (hi : i < 64) (hb : ¬ (gn (wrM ms y i) i).testBit y = true) : wrM ms y i = wrM ms y (i + 1) := by
  rw [wrM_at hi] at hb;refine list_gn (by simp [wrM]) fun x hx => ?_;rw [wrM_len] at hx;rw [gn_wrM hx, gn_wrM hx];by_cases h : i = x
  · subst h; rw [if_neg (by omega), if_neg (fun q => hb q.2)]
  · by_cases h3 : mB ms x y = true
    · by_cases h2 : x < i
      · rw [if_pos ⟨h2, h3⟩, if_pos ⟨by omega, h3⟩]
      · rw [if_neg (fun q => h2 q.1), if_neg (fun q => by omega)]
    · rw [if_neg (fun q => h3 q.2), if_neg (fun q => h3 q.2)]
/-- With the identity. -/
def rfM (ms : List Nat) (k : Nat) : List Nat := (List.range 64).map fun x => if x < k then gn ms x ||| 2 ^ x else gn ms x
theorem rfM_len (ms : List Nat) (k : Nat) : (rfM ms k).length = 64 := by simp [rfM]
theorem gn_rfM {ms : List Nat} {k x : Nat} (h : x < 64) : gn (rfM ms k) x = if x < k then gn ms x ||| 2 ^ x else gn ms x := by simp [rfM, gn, h]
theorem rfM_zero {ms : List Nat} (h : ms.length = 64) : rfM ms 0 = ms := list_gn (by rw [rfM_len, h]) fun i hi => by
  rw [rfM_len] at hi; rw [gn_rfM hi, if_neg (by omega)]
theorem okW_rfM {ms : List Nat} {k : Nat} (h : okW ms) : okW (rfM ms k) := okW_of (rfM_len _ _) fun x hx => by
  rw [gn_rfM hx]; split
  · exact or_lt (h.2 x) (pow64 hx).1
  · exact h.2 x
theorem rfM_succ {ms : List Nat} {k : Nat} (hk : k < 64) : (rfM ms k).set k (gn (rfM ms k) k ||| 2 ^ k) = rfM ms (k + 1) := by
  refine list_gn (by simp [rfM]) fun x hx => ?_;rw [List.length_set, rfM_len] at hx;rw [gn_set (by rw [rfM_len]; exact hk), gn_rfM hx, gn_rfM hx, gn_rfM hk, if_neg (Nat.lt_irrefl k)];by_cases h : k = x
  · subst h; rw [if_pos rfl, if_pos (by omega)]
  · rw [if_neg h];by_cases h2 : x < k
    · rw [if_pos h2, if_pos (by omega)]
    · rw [if_neg h2, if_neg (by omega)]
def clM (ms : List Nat) (p : Nat) : Nat → List Nat
  | 0 => rfM ms p
  | k + 1 => wrM (clM ms p k) k p
theorem okW_clM {ms : List Nat} {p : Nat} (h : okW ms) : ∀ k, okW (clM ms p k)
  | 0 => okW_rfM h
  | k + 1 => okW_wrM (okW_clM h k)
theorem mB_clM {ms : List Nat} {p : Nat} {S : Nat → Nat → Bool} (hp : p ≤ 64) (hS : ∀ x y, S x y = true → x < p ∧ y < p) (hm : ∀ x y, mB ms x y = S x y) : ∀ k, k ≤ p → ∀ x z, x < 64 → mB (clM ms p k) x z = (if x < p then wR S k x z else false)
  | 0, _, x, z, hx => by
    have h0 := hm x z;unfold mB clM at *;rw [gn_rfM hx];by_cases h : x < p
    · rw [if_pos h, if_pos h, Nat.testBit_or, h0, Nat.testBit_two_pow]; rfl
    · rw [if_neg h, if_neg h, h0]
      cases hq : S x z with
      | false => rfl
      | true => exact absurd (hS _ _ hq).1 h
  | k + 1, hk, x, z, hx => by
    have ih := mB_clM hp hS hm k (by omega)
    have e : mB (clM ms p (k + 1)) x z = if x < p ∧ mB (clM ms p k) x k = true then (mB (clM ms p k) x z || mB (clM ms p k) k z) else mB (clM ms p k) x z := by
      show (gn (wrM (clM ms p k) k p) x).testBit z = _;rw [gn_wrM hx]; split
      · rw [Nat.testBit_or]; rfl
      · rfl
    rw [e, ih x z hx, ih x k hx, ih k z (by omega), if_pos (show k < p by omega)];by_cases h : x < p
    · simp only [if_pos h, wR];by_cases hb : wR S k x k = true
      · rw [if_pos ⟨h, hb⟩, hb]; simp
      · rw [if_neg (fun q => hb q.2)]; simp only [Bool.not_eq_true] at hb; rw [hb]; simp
    · rw [if_neg (fun q => h q.1), if_neg h, if_neg h]
theorem cl_eq {s : RelD} (h : relB s = true) : (⟨s.cells, s.us, prL (clM (rowA s.ins) (pw s.us) (pw s.us))⟩ : RelD) = clR s := by
  obtain ⟨p1, _, _, hp, _⟩ := rel_64 h;have hS : ∀ x y, tabA s.ins x y = true → x < pw s.us ∧ y < pw s.us := fun x y q => tabA_lt h q;have e := mB_clM (ms := rowA s.ins) hp hS (fun x y => mB_rowA p1 x y) (pw s.us) (Nat.le_refl _);rw [clR, if_pos h];congr 1;refine pr_eq hp (fun x z hx hz hm => ?_) (fun x z hx hz => ?_)
  · rw [e x z hx] at hm;by_cases hxp : x < pw s.us
    · rw [if_pos hxp, wR_clo hS, clo_iff] at hm;refine ⟨hxp, ?_⟩
      cases hm with
      | refl => exact hxp
      | step _ q => exact (hS _ _ q).2
    · rw [if_neg hxp] at hm; cases hm
  · rw [e x z (by omega), if_pos hx, wR_clo hS]

/-! ## Image and Inside -/
theorem wl_mark {a p : Nat} {l : List Bool} (hp : p ≤ 64) (hl : l.length = p) (h : ∀ y, y < 64 → a.testBit y = (decide (y < p) && gb l y)) : wlT a 64 = markL l := by
  unfold wlT markL markT;congr 1;rw [hl];have e : List.range 64 = List.range p ++ (List.range (64 - p)).map (p + ·) := (by rw [← List.range_add]; congr 1; omega);rw [e, List.filter_append]
  have h2 : ((List.range (64 - p)).map (p + ·)).filter a.testBit = [] := List.filter_eq_nil_iff.2 fun y hy => by
    simp only [List.mem_map, List.mem_range] at hy;obtain ⟨z, hz, rfl⟩ := hy;have hn : ¬ p + z < p := (by omega);rw [h _ (by omega)]; simp [hn]
  rw [h2, List.append_nil];apply List.filter_congr;intro y hy;have hy := List.mem_range.1 hy;rw [h y (by omega)]; simp [hy]
def imW (ms : List Nat) (ins : List Int) (k : Nat) : Nat := (ins.take k).foldl (fun a x => a ||| gn ms x.toNat) 0
theorem imW_succ {ms : List Nat} {ins : List Int} {k : Nat} (h : k < ins.length) : imW ms ins (k + 1) = imW ms ins k ||| gn ms (gi ins k).toNat := by
  unfold imW;rw [List.take_succ_eq_append_getElem h, List.foldl_append];simp [gi, h]
theorem imW_lt {ms : List Nat} {ins : List Int} (hm : okW ms) : ∀ k, k ≤ ins.length → imW ms ins k < 18446744073709551616
  | 0, _ => by simp [imW]
  | k + 1, hk => by rw [imW_succ (by omega)]; exact or_lt (imW_lt hm k (by omega)) (hm.2 _)
theorem imW_bit {ms : List Nat} {ins : List Int} (y : Nat) : ∀ k, k ≤ ins.length → ((imW ms ins k).testBit y = true ↔ ∃ i, i < k ∧ mB ms (gi ins i).toNat y = true)
  | 0, _ => by simp [imW]
  | k + 1, hk => by
    rw [imW_succ (by omega), Nat.testBit_or, Bool.or_eq_true, imW_bit y k (by omega)];constructor
    · rintro (⟨i, h1, h2⟩ | h)
      · exact ⟨i, by omega, h2⟩
      · exact ⟨k, by omega, h⟩
    · rintro ⟨i, h1, h2⟩
      by_cases hik : i = k
      · subst hik; exact .inr h2
      · exact .inl ⟨i, by omega, h2⟩
theorem fit_64 {s : RelD} {t : SetD} (h : fitsB s t = true) : relB s = true ∧ setB t = true ∧ pw t.us = pw s.us ∧ (∀ i, i < t.ins.length → 0 ≤ gi t.ins i ∧ gi t.ins i < (pw s.us : Int)) ∧ in64 t.ins ∧ t.cells.length ≤ 32 ∧ t.us.length ≤ 32 := by
  obtain ⟨h1, h2, h3, h4⟩ := fits_iff.1 h;obtain ⟨hsh, h12, hri⟩ := setB_iff.1 h2;obtain ⟨_, _, _, hp, _⟩ := rel_64 h1;have e : pw t.us = pw s.us := (by rw [h4]);have hr := risB_iff.1 hri;have hpi := pw_int t.us;rw [← hpi] at hr;rw [e] at hr;have hr' : ∀ i, i < t.ins.length → 0 ≤ gi t.ins i ∧ gi t.ins i < (pw s.us : Int) := fun i hi => ⟨(hr i hi).1, (hr i hi).2.1⟩;refine ⟨h1, h2, e, hr', fun i hi => ?_, (set_4096 h2).2.1, (set_4096 h2).2.2⟩;have := hr' i hi;omega
theorem gi_mem_iff {l : List Int} {x : Int} : x ∈ l ↔ ∃ i, i < l.length ∧ gi l i = x := by
  constructor
  · intro h;obtain ⟨i, hi, he⟩ := List.getElem_of_mem h;exact ⟨i, hi, by simp [gi, hi, he]⟩
  · rintro ⟨i, hi, rfl⟩; exact gi_mem hi
theorem im_eq {s : RelD} {t : SetD} (h : fitsB s t = true) : (⟨t.cells, t.us, wlT (imW (rowA s.ins) t.ins t.ins.length) 64⟩ : SetD) = imR s t := by
  obtain ⟨h1, h2, e, hr, h64, _, _⟩ := fit_64 h;obtain ⟨p1, _, _, hp, _⟩ := rel_64 h1;rw [imR, if_pos h];congr 1;refine wl_mark (p := pw t.us) (by omega) (imL_len _ _ _) fun y hy => ?_;rw [Bool.eq_iff_iff, imW_bit y _ (Nat.le_refl _)];simp only [Bool.and_eq_true, decide_eq_true_eq];constructor
  · rintro ⟨i, hi, hm⟩
    rw [mB_rowA p1] at hm;have hlt := tabA_lt h1 hm;refine ⟨by omega, ?_⟩;have : gb (imL (pw t.us) s.ins t.ins) y = s.ins.any fun q => decide (q.2 = (y : Int)) && decide (q.1 ∈ t.ins) := (by simp [gb, imL, show y < pw t.us by omega]);rw [this, List.any_eq_true];simp only [tabA, decide_eq_true_eq] at hm;exact ⟨_, hm, by simp only [decide_true, Bool.true_and, decide_eq_true_eq]; exact gi_mem_iff.2 ⟨i, hi, by have := hr i hi; omega⟩⟩
  · rintro ⟨hy2, hg⟩
    have : gb (imL (pw t.us) s.ins t.ins) y = s.ins.any fun q => decide (q.2 = (y : Int)) && decide (q.1 ∈ t.ins) := (by simp [gb, imL, hy2]);rw [this, List.any_eq_true] at hg;obtain ⟨q, hq, hb⟩ := hg;simp only [Bool.and_eq_true, decide_eq_true_eq] at hb;obtain ⟨i, hi, he⟩ := gi_mem_iff.1 hb.2;refine ⟨i, hi, ?_⟩;rw [mB_rowA p1];simp only [tabA, decide_eq_true_eq];have h0 := (hr i hi).1;have : (((gi t.ins i).toNat : Int), (y : Int)) = q := Prod.ext (by simp only; omega) (by simp only; omega);rw [this]; exact hq
/-- Nothing of a beyond b. -/
theorem andN_zero {a b : Nat} (ha : a < 18446744073709551616) (hb : b < 18446744073709551616) : andN a b = 0 ↔ ∀ y, a.testBit y = true → b.testBit y = true := by
  have hbit : ∀ y, y < 64 → (18446744073709551615 - b).testBit y = !b.testBit y := fun y hy => by
    have := Nat.testBit_two_pow_sub_succ (n := 64) (x := b) hb y;rw [show (2 : Nat) ^ 64 - (b + 1) = 18446744073709551615 - b by omega] at this;rw [this]; simp [hy]
  constructor
  · intro h y hy;have hy64 : y < 64 := bit_lt ha hy;have h0 : (andN a b).testBit y = false := (by rw [h]; simp);unfold andN at h0;rw [Nat.testBit_and, hy, hbit y hy64] at h0
    simpa using h0
  · intro h;apply Nat.eq_of_testBit_eq;intro y;unfold andN;rw [Nat.testBit_and, Nat.zero_testBit]
    cases hq : a.testBit y with
    | false => rfl
    | true => rw [hbit y (bit_lt ha hq), h y hq]; rfl
def inW (ms : List Nat) (all : Nat) (ins : List Int) (k : Nat) : Nat := (ins.take k).foldl (fun a x => if andN (gn ms x.toNat) all = 0 then a ||| 2 ^ x.toNat else a) 0
theorem inW_succ {ms : List Nat} {all : Nat} {ins : List Int} {k : Nat} (h : k < ins.length) : inW ms all ins (k + 1) = if andN (gn ms (gi ins k).toNat) all = 0 then inW ms all ins k ||| 2 ^ (gi ins k).toNat else inW ms all ins k := by
  unfold inW;rw [List.take_succ_eq_append_getElem h, List.foldl_append];simp [gi, h]
theorem inW_lt {ms : List Nat} {all : Nat} {ins : List Int} (h : in64 ins) : ∀ k, k ≤ ins.length → inW ms all ins k < 18446744073709551616
  | 0, _ => by simp [inW]
  | k + 1, hk => by
    rw [inW_succ (by omega)]; split
    · exact or_lt (inW_lt h k (by omega)) (pow64 (by have := h k (by omega); omega)).1
    · exact inW_lt h k (by omega)
theorem inW_bit {ms : List Nat} {all : Nat} {ins : List Int} (h : in64 ins) (y : Nat) : ∀ k, k ≤ ins.length → ((inW ms all ins k).testBit y = true ↔ andN (gn ms y) all = 0 ∧ ∃ i, i < k ∧ gi ins i = (y : Int))
  | 0, _ => by simp [inW]
  | k + 1, hk => by
    have hr := h k (by omega);have ih := inW_bit (ms := ms) (all := all) h y k (by omega);rw [inW_succ (by omega)];split
    · rename_i hz
      rw [Nat.testBit_or, Bool.or_eq_true, ih, Nat.testBit_two_pow, decide_eq_true_eq];constructor
      · rintro (⟨h1, i, h2, h3⟩ | h1)
        · exact ⟨h1, i, by omega, h3⟩
        · rw [h1] at hz; exact ⟨hz, k, by omega, by omega⟩
      · rintro ⟨h1, i, h2, h3⟩
        by_cases hik : i = k
        · subst hik; right; omega
        · exact .inl ⟨h1, i, by omega, h3⟩
    · rename_i hz
      rw [ih];constructor
      · rintro ⟨h1, i, h2, h3⟩; exact ⟨h1, i, by omega, h3⟩
      · rintro ⟨h1, i, h2, h3⟩
        by_cases hik : i = k
        · subst hik; exfalso; apply hz; rw [h3]; simpa using h1
        · exact ⟨h1, i, by omega, h3⟩
theorem in_eq {s : RelD} {t : SetD} (h : fitsB s t = true) : (⟨t.cells, t.us, wlT (inW (rowA s.ins) (wdW t.ins t.ins.length) t.ins t.ins.length) 64⟩ : SetD) = inR' s t := by
  obtain ⟨h1, h2, e, hr, h64, _, _⟩ := fit_64 h;obtain ⟨p1, _, _, hp, _⟩ := rel_64 h1;rw [inR', if_pos h];congr 1;refine wl_mark (p := pw t.us) (by omega) (inL_len _ _ _) fun y hy => ?_;rw [Bool.eq_iff_iff, inW_bit h64 y _ (Nat.le_refl _), andN_zero ((okW_rowA p1).2 y) (wdW_lt h64 _ (Nat.le_refl _))];simp only [Bool.and_eq_true, decide_eq_true_eq];have hw : ∀ z, (wdW t.ins t.ins.length).testBit z = decide ((z : Int) ∈ t.ins) := fun z => (by rw [wdW_bit h64 z _ (Nat.le_refl _), List.take_length]);have hm : ∀ z, (gn (rowA s.ins) y).testBit z = tabA s.ins y z := fun z => mB_rowA p1 y z;have hg : y < pw t.us → gb (inL (pw t.us) s.ins t.ins) y = (decide ((y : Int) ∈ t.ins) && s.ins.all fun q => !decide (q.1 = (y : Int)) || decide (q.2 ∈ t.ins)) := fun hy2 => (by simp [gb, inL, hy2]);constructor
  · rintro ⟨ha, i, hi, he⟩
    have hy2 : y < pw t.us := (by have := hr i hi; omega);refine ⟨hy2, ?_⟩;rw [hg hy2, Bool.and_eq_true, decide_eq_true_eq, List.all_eq_true];refine ⟨gi_mem_iff.2 ⟨i, hi, he⟩, fun q hq => ?_⟩;rw [Bool.or_eq_true, Bool.not_eq_true', decide_eq_false_iff_not, decide_eq_true_eq];by_cases hq1 : q.1 = (y : Int)
    · right;obtain ⟨m, hml, hmg⟩ := List.getElem_of_mem hq;have hpq := (rel_64 h1).1 m hml;rw [gp_some hml, hmg] at hpq;have hz := ha q.2.toNat
      have : tabA s.ins y q.2.toNat = true := by
        simp only [tabA, decide_eq_true_eq];have : ((y : Int), ((q.2.toNat : Nat) : Int)) = q := Prod.ext (by simp only; omega) (by simp only; omega);rw [this]; exact hq
      have h9 := hz ((hm _).trans this);rw [hw, decide_eq_true_eq] at h9;rw [show ((q.2.toNat : Nat) : Int) = q.2 by omega] at h9; exact h9
    · exact .inl hq1
  · rintro ⟨hy2, hgb⟩
    rw [hg hy2, Bool.and_eq_true, decide_eq_true_eq, List.all_eq_true] at hgb;refine ⟨fun z hz => ?_, ?_⟩
    · have hz' := (hm z).symm.trans hz;simp only [tabA, decide_eq_true_eq] at hz';have := hgb.2 _ hz';rw [Bool.or_eq_true, Bool.not_eq_true', decide_eq_false_iff_not, decide_eq_true_eq] at this;rcases this with q | q
      · exact absurd rfl q
      · rw [hw, decide_eq_true_eq]; exact q
    · obtain ⟨i, hi, he⟩ := gi_mem_iff.1 hgb.1;exact ⟨i, hi, he⟩
end Go.V
