/- Plain facts on lists and numbers that the walks' specifications speak of. No program in sight. -/
import Derived.Test.YtfflocidknkciaaGreatDoorRep
set_option linter.all false
namespace Go.V
open Go

/-! ## Strictly increasing -/
def incTo (l : List Int) (m : Nat) : Bool := (List.range (m - 1)).all fun i => decide (gi l i < gi l (i + 1))
def incB (l : List Int) : Bool := incTo l l.length
theorem incTo_iff {l : List Int} {m : Nat} : incTo l m = true ↔ ∀ i, i + 1 < m → gi l i < gi l (i + 1) := by
  simp only [incTo, List.all_eq_true, List.mem_range, decide_eq_true_eq];exact ⟨fun h i hi => h i (by omega), fun h i hi => h i (by omega)⟩
theorem incTo_one (l : List Int) : incTo l (0 + 1) = true := by simp [incTo]
theorem incTo_succ {l : List Int} {k : Nat} (h : incTo l (k + 1) = true) (hk : k + 1 < l.length) (hlt : gi l (k + 1 - 1) < gi l (k + 1)) : incTo l (k + 1 + 1) = true := by
  rw [incTo_iff] at *;intro i hi;by_cases h1 : i = k
  · subst h1; simpa using hlt
  · exact h i (by omega)
theorem incB_true {l : List Int} {k : Nat} (h : incTo l (k + 1) = true) (hk : l.length ≤ k + 1) : incB l = true := by
  rw [incB, incTo_iff] at *;intro i hi;exact h i (by omega)
theorem incB_false {l : List Int} {k : Nat} (hk : k + 1 < l.length) (hle : gi l (k + 1) ≤ gi l (k + 1 - 1)) : incB l = false := by
  cases h : incB l with
  | false => rfl
  | true =>
    rw [incB, incTo_iff] at h;have := h k (by omega);simp at hle; omega

/-! ## Sums, powers -/
def sumTo (l : List Int) : Nat → Int
  | 0 => 0
  | k + 1 => sumTo l k + gi l k
def sumL (l : List Int) : Int := sumTo l l.length
def wsOk (l : List Int) : Prop := l.length ≤ 1000000 ∧ ∀ i, i < l.length → 0 ≤ gi l i ∧ gi l i ≤ 255
theorem sumTo_bd {l : List Int} (h : wsOk l) : ∀ k, k ≤ l.length → 0 ≤ sumTo l k ∧ sumTo l k ≤ 255 * k
  | 0, _ => by simp [sumTo]
  | k + 1, hk => by
    have h1 := sumTo_bd h k (by omega);have h2 := h.2 k (by omega);simp only [sumTo]; omega
theorem pow_two_bd {n : Nat} (h : n ≤ 62) : (1 : Int) ≤ 2 ^ n ∧ (2 : Int) ^ n ≤ 4611686018427387904 := by
  have h1 : (2 : Nat) ^ n ≤ 2 ^ 62 := Nat.pow_le_pow_right (by omega) h;have h2 : 0 < (2 : Nat) ^ n := Nat.pow_pos (by omega);have e : ((2 ^ n : Nat) : Int) = (2 : Int) ^ n := (by simp);omega
theorem pow_succ_int (n : Nat) : (2 : Int) ^ n * 2 = 2 ^ (n + 1) := (Int.pow_succ 2 n).symm
/-! ## Lists held against one another -/
def eqTo (a b : List Int) (m : Nat) : Prop := ∀ i, i < m → gi a i = gi b i
theorem list_eq_of {a b : List Int} (h : a.length = b.length) (he : eqTo a b a.length) : a = b := by
  apply List.ext_getElem h;intro i h1 h2;have := he i h1
  simpa [gi, h1, h2] using this
theorem eqTo_succ {a b : List Int} {k : Nat} (h : eqTo a b k) (he : gi a k = gi b k) : eqTo a b (k + 1) := fun i hi => by
  by_cases h1 : i = k
  · subst h1; exact he
  · exact h i (by omega)
/-! ## Looking for a number -/
def idxL (l : List Int) (x : Int) : Int := match l.findIdx? (· == x) with | some i => i | none => -1
def notTo (l : List Int) (x : Int) (m : Nat) : Prop := ∀ i, i < m → gi l i ≠ x
theorem notTo_succ {l : List Int} {x : Int} {k : Nat} (h : notTo l x k) (hne : gi l k ≠ x) : notTo l x (k + 1) := fun i hi => by
  by_cases h1 : i = k
  · subst h1; exact hne
  · exact h i (by omega)
theorem idxL_found {l : List Int} {x : Int} {k : Nat} (hk : k < l.length) (h : notTo l x k) (he : gi l k = x) : idxL l x = k := by
  have : l.findIdx? (· == x) = some k := by
    rw [List.findIdx?_eq_some_iff_getElem];refine ⟨hk, by simpa [gi, hk] using he, fun j hj => ?_⟩;have := h j hj;simp [gi, show j < l.length by omega] at this
    simpa using this
  simp [idxL, this]
theorem idxL_none {l : List Int} {x : Int} (h : notTo l x l.length) : idxL l x = -1 := by
  have : l.findIdx? (· == x) = none := by
    rw [List.findIdx?_eq_none_iff];intro y hy;obtain ⟨i, hi, rfl⟩ := List.getElem_of_mem hy;have := h i hi
    simpa [gi, hi] using this
  simp [idxL, this]
theorem idxL_neg {l : List Int} {x : Int} : idxL l x < 0 ↔ x ∉ l := by
  unfold idxL
  cases h : l.findIdx? (· == x) with
  | none =>
    rw [List.findIdx?_eq_none_iff] at h;simp;intro hx; simpa using h x hx
  | some i =>
    rw [List.findIdx?_eq_some_iff_getElem] at h;obtain ⟨hi, he, _⟩ := h;simp;constructor
    · intro h; omega
    · intro hn; exfalso; apply hn; rw [← show l[i] = x by simpa using he]; exact List.getElem_mem hi
def subTo (a b : List Int) (m : Nat) : Prop := ∀ i, i < m → gi a i ∈ b
def subL (a b : List Int) : Bool := a.all fun x => decide (x ∈ b)
theorem subTo_succ {a b : List Int} {k : Nat} (h : subTo a b k) (he : gi a k ∈ b) : subTo a b (k + 1) := fun i hi => by
  by_cases h1 : i = k
  · subst h1; exact he
  · exact h i (by omega)
theorem gi_mem {l : List Int} {k : Nat} (h : k < l.length) : gi l k ∈ l := by simp [gi, h]
theorem subL_true {a b : List Int} (h : subTo a b a.length) : subL a b = true := by
  simp only [subL, List.all_eq_true, decide_eq_true_eq];intro x hx;obtain ⟨i, hi, rfl⟩ := List.getElem_of_mem hx;have := h i hi
  simpa [gi, hi] using this
theorem subL_false {a b : List Int} {k : Nat} (hk : k < a.length) (h : gi a k ∉ b) : subL a b = false := by
  cases hq : subL a b with
  | false => rfl
  | true =>
    simp only [subL, List.all_eq_true, decide_eq_true_eq] at hq;exact absurd (hq _ (gi_mem hk)) h
/-! ## Increasing and in range -/
def risTo (l : List Int) (b : Int) (m : Nat) : Prop := ∀ i, i < m → 0 ≤ gi l i ∧ gi l i < b ∧ (0 < i → gi l (i - 1) < gi l i)
def risB (l : List Int) (b : Int) : Bool := (List.range l.length).all fun i => decide (0 ≤ gi l i) && decide (gi l i < b) && (decide (i = 0) || decide (gi l (i - 1) < gi l i))
theorem risB_iff {l : List Int} {b : Int} : risB l b = true ↔ risTo l b l.length := by
  simp only [risB, List.all_eq_true, List.mem_range, Bool.and_eq_true, decide_eq_true_eq, Bool.or_eq_true, risTo];exact ⟨fun h i hi => ⟨(h i hi).1.1, (h i hi).1.2, fun h0 => by rcases (h i hi).2 with h1 | h1 <;> omega⟩, fun h i hi => ⟨⟨(h i hi).1, (h i hi).2.1⟩, by by_cases h0 : i = 0; exact .inl h0; exact .inr ((h i hi).2.2 (by omega))⟩⟩
theorem risTo_succ {l : List Int} {b : Int} {k : Nat} (h : risTo l b k) (h1 : 0 ≤ gi l k) (h2 : gi l k < b) (h3 : 0 < k → gi l (k - 1) < gi l k) : risTo l b (k + 1) := fun i hi => by
  by_cases hik : i = k
  · subst hik; exact ⟨h1, h2, h3⟩
  · exact h i (by omega)
theorem risB_false {l : List Int} {b : Int} {k : Nat} (hk : k < l.length) (h : gi l k < 0 ∨ b ≤ gi l k ∨ (0 < k ∧ gi l k ≤ gi l (k - 1))) : risB l b = false := by
  cases hq : risB l b with
  | false => rfl
  | true =>
    have := risB_iff.1 hq k hk;rcases h with h | h | ⟨h0, h⟩
    · omega
    · omega
    · have := this.2.2 h0; omega
/-- Cells and widths are a shape: its bits, or -1. -/
def shTo (c u : List Int) (m : Nat) : Prop := ∀ i, i < m → 0 ≤ gi c i ∧ gi c i < 32 ∧ (0 < i → gi c (i - 1) < gi c i) ∧ 1 ≤ gi u i ∧ gi u i ≤ 8
def shB (c u : List Int) : Bool := decide (c.length = u.length) && decide (c.length ≤ 32) && risB c 32 && (List.range u.length).all fun i => decide (1 ≤ gi u i) && decide (gi u i ≤ 8)
def bitsL (c u : List Int) (most : Int) : Int := if shB c u = true ∧ sumL u ≤ most then sumL u else -1
theorem shB_iff {c u : List Int} : shB c u = true ↔ c.length = u.length ∧ c.length ≤ 32 ∧ shTo c u c.length := by
  simp only [shB, Bool.and_eq_true, decide_eq_true_eq, List.all_eq_true, List.mem_range, risB_iff];constructor
  · rintro ⟨⟨⟨h1, h2⟩, h3⟩, h4⟩
    refine ⟨h1, h2, fun i hi => ⟨(h3 i hi).1, (h3 i hi).2.1, (h3 i hi).2.2, h4 i (by omega)⟩⟩
  · rintro ⟨h1, h2, h3⟩
    exact ⟨⟨⟨h1, h2⟩, fun i hi => ⟨(h3 i hi).1, (h3 i hi).2.1, (h3 i hi).2.2.1⟩⟩, fun i hi => (h3 i (by omega)).2.2.2⟩
theorem shTo_succ {c u : List Int} {k : Nat} (h : shTo c u k) (h1 : 0 ≤ gi c k) (h2 : gi c k < 32) (h3 : 0 < k → gi c (k - 1) < gi c k) (h4 : 1 ≤ gi u k) (h5 : gi u k ≤ 8) : shTo c u (k + 1) := fun i hi => by
  by_cases hik : i = k
  · subst hik; exact ⟨h1, h2, h3, h4, h5⟩
  · exact h i (by omega)
theorem shTo_sum {c u : List Int} {k : Nat} (h : shTo c u k) : 0 ≤ sumTo u k ∧ sumTo u k ≤ 8 * k := by
  induction k with
  | zero => simp [sumTo]
  | succ k ih =>
    have h1 := ih (fun i hi => h i (by omega));have h2 := h k (by omega);simp only [sumTo]; omega
theorem bitsL_bad {c u : List Int} {most : Int} (h : shB c u = false) : bitsL c u most = -1 := by simp [bitsL, h]
theorem shB_false {c u : List Int} {k : Nat} (hk : k < c.length) (h : gi c k < 0 ∨ 32 ≤ gi c k ∨ (0 < k ∧ gi c k ≤ gi c (k - 1)) ∨ gi u k < 1 ∨ 8 < gi u k) : shB c u = false := by
  cases hq : shB c u with
  | false => rfl
  | true =>
    have := (shB_iff.1 hq).2.2 k hk;rcases h with h | h | ⟨h0, h⟩ | h | h
    · omega
    · omega
    · have := this.2.2.1 h0; omega
    · omega
    · omega
theorem shB_len {c u : List Int} (h : c.length ≠ u.length ∨ 32 < c.length) : shB c u = false := by
  cases hq : shB c u with
  | false => rfl
  | true => have := shB_iff.1 hq; rcases h with h | h <;> omega
theorem bitsL_end {c u : List Int} {most : Int} (h0 : c.length = u.length) (h1 : c.length ≤ 32) (h : shTo c u c.length) : bitsL c u most = if sumTo u c.length ≤ most then sumTo u c.length else -1 := by
  have hs : shB c u = true := shB_iff.2 ⟨h0, h1, h⟩;simp [bitsL, hs, sumL, h0]
theorem sh_wsOk {c u : List Int} (h : shB c u = true) : wsOk u := by
  obtain ⟨h1, h2, h3⟩ := shB_iff.1 h;exact ⟨by omega, fun i hi => by have := h3 i (by omega); omega⟩
theorem bitsL_bd {c u : List Int} {most : Int} : -1 ≤ bitsL c u most ∧ bitsL c u most ≤ 256 ∧ (0 ≤ bitsL c u most → shB c u = true ∧ bitsL c u most = sumL u ∧ bitsL c u most ≤ most) := by
  unfold bitsL;split
  · rename_i h
    obtain ⟨h1, h2, h3⟩ := shB_iff.1 h.1;have h4 := shTo_sum h3;have h5 : sumL u = sumTo u c.length := (by unfold sumL; rw [h1]);have h6 := h.2;refine ⟨by omega, by omega, fun _ => ⟨h.1, rfl, h.2⟩⟩
  · exact ⟨by omega, by omega, fun h => by omega⟩

/-! ## Expressions: size, form -/
def sizeL (e : E) (lim : Int) : Int := if lim ≤ 0 then 0 else min (esize e : Int) lim
theorem esizes_take_succ {ks : List E} {k : Nat} (h : k < ks.length) : esizes (ks.take (k + 1)) = esizes (ks.take k) + esize (ge ks k) := by
  rw [List.take_succ_eq_append_getElem h, esizes_append];simp [esizes, ge, h]
theorem esizes_take_le (ks : List E) (k : Nat) : esizes (ks.take k) ≤ esizes ks := by
  have := esizes_append (ks.take k) (ks.drop k);rw [List.take_append_drop] at this; omega
def arL (op : Int) : Int := if 1 ≤ op ∧ op ≤ 3 then 0 else if op = 4 then 1 else if 5 ≤ op ∧ op ≤ 13 then 2 else if op = 14 then 3 else -1
abbrev nodeP (e : E) : Prop := (1 ≤ e.w ∧ e.w ≤ 8) ∧ ((1 ≤ e.op ∧ e.op ≤ 3 → e.ks.length = 0) ∧ (e.op = 4 → e.ks.length = 1) ∧ (5 ≤ e.op ∧ e.op ≤ 13 → e.ks.length = 2) ∧ (e.op = 14 → e.ks.length = 3) ∧ 1 ≤ e.op ∧ e.op ≤ 14) ∧
  (e.op = 1 → 0 ≤ e.n ∧ e.n < 2 ^ e.w.toNat) ∧ (e.op = 2 ∨ e.op = 3 → 0 ≤ e.n ∧ e.n < 32) ∧ (4 ≤ e.op → e.n = 0) ∧ (e.op = 4 → (ge e.ks 0).w = e.w) ∧
  (5 ≤ e.op ∧ e.op ≤ 10 → (ge e.ks 0).w = e.w ∧ (ge e.ks 1).w = e.w) ∧ (11 ≤ e.op ∧ e.op ≤ 13 → e.w = 1 ∧ (ge e.ks 0).w = (ge e.ks 1).w) ∧ (e.op = 14 → (ge e.ks 0).w = 1 ∧ (ge e.ks 1).w = e.w ∧ (ge e.ks 2).w = e.w)
open Classical in
noncomputable def nodeB (e : E) : Bool := decide (nodeP e)
theorem nodeB_iff {e : E} : nodeB e = true ↔ nodeP e := decide_eq_true_iff
mutual
noncomputable def dpB : E → Int → Bool
  | .mk op w n ks, lim => decide (1 ≤ lim) && nodeB (.mk op w n ks) && dpBs ks (lim - 1)
noncomputable def dpBs : List E → Int → Bool
  | [], _ => true
  | k :: ks, lim => dpB k lim && dpBs ks lim
end
theorem dpBs_iff {ks : List E} {lim : Int} : dpBs ks lim = true ↔ ∀ i, i < ks.length → dpB (ge ks i) lim = true := by
  induction ks with
  | nil => simp [dpBs]
  | cons k ks ih =>
    simp only [dpBs, Bool.and_eq_true, ih, List.length_cons];constructor
    · rintro ⟨h1, h2⟩ i hi
      cases i with
      | zero => simpa [ge] using h1
      | succ i => have := h2 i (by omega); simpa [ge] using this
    · intro h;exact ⟨by have := h 0 (by omega); simpa [ge] using this, fun i hi => by have := h (i + 1) (by omega); simpa [ge] using this⟩
theorem dpB_iff {e : E} {lim : Int} : dpB e lim = true ↔ 1 ≤ lim ∧ nodeP e ∧ ∀ i, i < e.ks.length → dpB (ge e.ks i) (lim - 1) = true := by
  cases e with
  | mk op w n ks => simp only [dpB, Bool.and_eq_true, decide_eq_true_eq, nodeB_iff, dpBs_iff, E.ks]; exact ⟨fun h => ⟨h.1.1, h.1.2, h.2⟩, fun h => ⟨⟨h.1, h.2.1⟩, h.2.2⟩⟩
def dpTo (ks : List E) (lim : Int) (m : Nat) : Prop := ∀ i, i < m → dpB (ge ks i) lim = true
theorem dpTo_succ {ks : List E} {lim : Int} {k : Nat} (h : dpTo ks lim k) (h1 : dpB (ge ks k) lim = true) : dpTo ks lim (k + 1) := fun i hi => by
  by_cases hik : i = k
  · subst hik; exact h1
  · exact h i (by omega)
theorem dpB_false1 {e : E} {lim : Int} (h : lim < 1) : dpB e lim = false := by
  cases hq : dpB e lim with
  | false => rfl
  | true => have := (dpB_iff.1 hq).1; omega
theorem dpB_false2 {e : E} {lim : Int} (h : nodeB e = false) : dpB e lim = false := by
  cases hq : dpB e lim with
  | false => rfl
  | true => rw [nodeB_iff.2 (dpB_iff.1 hq).2.1] at h; cases h
theorem dpB_false3 {e : E} {lim : Int} {k : Nat} (hk : k < e.ks.length) (h : dpB (ge e.ks k) (lim - 1) = false) : dpB e lim = false := by
  cases hq : dpB e lim with
  | false => rfl
  | true => rw [(dpB_iff.1 hq).2.2 k hk] at h; cases h
theorem dpB_true {e : E} {lim : Int} (h1 : ¬ lim < 1) (h2 : nodeB e = true) (h3 : dpTo e.ks (lim - 1) e.ks.length) : dpB e lim = true := dpB_iff.2 ⟨by omega, nodeB_iff.1 h2, h3⟩
noncomputable def wfB (e : E) : Bool := decide (esize e ≤ 600) && dpB e 40
theorem wfB_iff {e : E} : wfB e = true ↔ esize e ≤ 600 ∧ dpB e 40 = true := by simp [wfB]
theorem arL_of {op : Int} {n : Nat} (h : arL op = (n : Int)) : (1 ≤ op ∧ op ≤ 3 ∧ n = 0) ∨ (op = 4 ∧ n = 1) ∨ (5 ≤ op ∧ op ≤ 13 ∧ n = 2) ∨ (op = 14 ∧ n = 3) := by
  unfold arL at h;split at h
  · omega
  · split at h
    · omega
    · split at h
      · omega
      · split at h <;> omega
theorem arL_node {e : E} (h : nodeP e) : arL e.op = (e.ks.length : Int) := by
  obtain ⟨h1, ⟨a1, a2, a3, a4, a5, a6⟩, h3⟩ := h;clear h3;unfold arL;split
  · have := a1 ‹_›; omega
  · split
    · have := a2 ‹_›; omega
    · split
      · have := a3 ‹_›; omega
      · split
        · have := a4 ‹_›; omega
        · omega

/-! ## Expressions over cells -/
def ovOk (e : E) (cs : List CellD) (pair : Bool) : Prop := ¬ (e.op = 3 ∧ pair = false) ∧ (e.op = 3 ∨ e.op = 2 → e.n < cs.length ∧ (gc cs e.n.toNat).w = e.w)
open Classical in
noncomputable def ovN (e : E) (cs : List CellD) (pair : Bool) : Bool := decide (ovOk e cs pair)
mutual
noncomputable def ovB : E → List CellD → Bool → Bool
  | .mk op w n ks, cs, pair => ovN (.mk op w n ks) cs pair && ovBs ks cs pair
noncomputable def ovBs : List E → List CellD → Bool → Bool
  | [], _, _ => true
  | k :: ks, cs, pair => ovB k cs pair && ovBs ks cs pair
end
theorem ovBs_iff {ks : List E} {cs : List CellD} {pair : Bool} : ovBs ks cs pair = true ↔ ∀ i, i < ks.length → ovB (ge ks i) cs pair = true := by
  induction ks with
  | nil => simp [ovBs]
  | cons k ks ih =>
    simp only [ovBs, Bool.and_eq_true, ih, List.length_cons];constructor
    · rintro ⟨h1, h2⟩ i hi
      cases i with
      | zero => simpa [ge] using h1
      | succ i => have := h2 i (by omega); simpa [ge] using this
    · intro h;exact ⟨by have := h 0 (by omega); simpa [ge] using this, fun i hi => by have := h (i + 1) (by omega); simpa [ge] using this⟩
theorem ovB_iff {e : E} {cs : List CellD} {pair : Bool} : ovB e cs pair = true ↔ ovOk e cs pair ∧ ∀ i, i < e.ks.length → ovB (ge e.ks i) cs pair = true := by
  cases e with
  | mk op w n ks => simp only [ovB, Bool.and_eq_true, ovN, decide_eq_true_iff, ovBs_iff, E.ks]
def ovTo (ks : List E) (cs : List CellD) (pair : Bool) (m : Nat) : Prop := ∀ i, i < m → ovB (ge ks i) cs pair = true
theorem ovTo_succ {ks : List E} {cs : List CellD} {pair : Bool} {k : Nat} (h : ovTo ks cs pair k) (h1 : ovB (ge ks k) cs pair = true) : ovTo ks cs pair (k + 1) := fun i hi => by
  by_cases hik : i = k
  · subst hik; exact h1
  · exact h i (by omega)
theorem ovB_false1 {e : E} {cs : List CellD} {pair : Bool} (h : ¬ ovOk e cs pair) : ovB e cs pair = false := by
  cases hq : ovB e cs pair with
  | false => rfl
  | true => exact absurd (ovB_iff.1 hq).1 h
theorem ovB_false2 {e : E} {cs : List CellD} {pair : Bool} {k : Nat} (hk : k < e.ks.length) (h : ovB (ge e.ks k) cs pair = false) : ovB e cs pair = false := by
  cases hq : ovB e cs pair with
  | false => rfl
  | true => rw [(ovB_iff.1 hq).2 k hk] at h; cases h
noncomputable def vaB (e : E) (cs : List CellD) (pair : Bool) : Bool := wfB e && ovB e cs pair

/-! ## Bits -/
def lowZ (n w : Int) : Int := n % 2 ^ w.toNat
theorem wrap64_nat {x : Nat} (h : x < 2 ^ 63) : IntKind.i64.wrap (x : Int) = x := by
  rw [IntKind.wrap_i64]; omega
theorem ofInt_toNat (n : Int) : (BitVec.ofInt 64 n).toNat = (n % 18446744073709551616).toNat := by
  rw [BitVec.toNat_ofInt]; rfl
theorem bitv_mask (n : Int) {w : Nat} (hw : w ≤ 62) : bitv .and .i64 n (2 ^ w - 1) = n % 2 ^ w := by
  have hb := pow_two_bd hw
  have e1 : ((2 ^ w - 1 : Nat) : Int) = (2 : Int) ^ w - 1 := by
    have : 0 < 2 ^ w := Nat.pow_pos (by omega);have e0 : ((2 ^ w : Nat) : Int) = (2 : Int) ^ w := (by simp);omega
  have e2 : (BitVec.ofInt 64 ((2 : Int) ^ w - 1)).toNat = 2 ^ w - 1 := by
    rw [ofInt_toNat, ← e1];have : 2 ^ w ≤ 2 ^ 62 := Nat.pow_le_pow_right (by omega) hw;omega
  have e3 : ((BitVec.ofInt 64 n) &&& (BitVec.ofInt 64 ((2 : Int) ^ w - 1))).toNat = (n % 18446744073709551616).toNat % 2 ^ w := by
    rw [BitVec.toNat_and, e2, Nat.and_two_pow_sub_one_eq_mod, ofInt_toNat]
  show IntKind.i64.wrap (((BitVec.ofInt 64 n) &&& (BitVec.ofInt 64 ((2 : Int) ^ w - 1))).toNat : Int) = _;rw [e3];have hlt : (n % 18446744073709551616).toNat % 2 ^ w < 2 ^ w := Nat.mod_lt _ (Nat.pow_pos (by omega));have hle : 2 ^ w ≤ 2 ^ 62 := Nat.pow_le_pow_right (by omega) hw;rw [wrap64_nat (by omega)];have h0 : 0 ≤ n % 18446744073709551616 := by omega
  have e4 : (((n % 18446744073709551616).toNat % 2 ^ w : Nat) : Int) = (n % 18446744073709551616) % 2 ^ w := by
    rw [Int.natCast_emod, Int.toNat_of_nonneg h0]; simp
  rw [e4]
  have hd : ((2 : Int) ^ w) ∣ 18446744073709551616 := by
    have : (18446744073709551616 : Int) = 2 ^ w * 2 ^ (64 - w) := by
      rw [← Int.pow_add];rw [show w + (64 - w) = 64 by omega]; rfl
    exact ⟨_, this⟩
  exact Int.emod_emod_of_dvd n hd
theorem lowZ_bd (n : Int) {w : Int} : 0 ≤ lowZ n w ∧ lowZ n w < 2 ^ w.toNat := by
  unfold lowZ;have : (0 : Int) < 2 ^ w.toNat := Int.pow_pos (by omega);exact ⟨Int.emod_nonneg _ (by omega), Int.emod_lt_of_pos _ this⟩
theorem pow_small {w : Int} (h : w ≤ 8) : (1 : Int) ≤ 2 ^ w.toNat ∧ (2 : Int) ^ w.toNat ≤ 256 := by
  have h1 : (2 : Nat) ^ w.toNat ≤ 2 ^ 8 := Nat.pow_le_pow_right (by omega) (by omega);have h2 : 0 < (2 : Nat) ^ w.toNat := Nat.pow_pos (by omega);have e : ((2 ^ w.toNat : Nat) : Int) = (2 : Int) ^ w.toNat := (by simp);omega
def atZ (l : List Int) (n : Int) : Int := if n < l.length then gi l n.toNat else 0
/-- The value of a node whose kids have the values v. -/
noncomputable def apL (op w n : Int) (v : List Int) : Int :=
  if op = 1 then n else if op = 4 then 2 ^ w.toNat - 1 - gi v 0 else if op = 5 then bitv .and .i64 (gi v 0) (gi v 1) else if op = 6 then bitv .or .i64 (gi v 0) (gi v 1)
  else if op = 7 then bitv .xor .i64 (gi v 0) (gi v 1) else if op = 8 then lowZ (gi v 0 + gi v 1) w else if op = 9 then lowZ (gi v 0 - gi v 1 + 2 ^ w.toNat) w
  else if op = 10 then lowZ (gi v 0 * gi v 1) w else if op = 14 then gi v (2 - gi v 0).toNat
  else if (op = 11 ∧ gi v 0 = gi v 1) ∨ (op = 12 ∧ gi v 0 < gi v 1) ∨ (op = 13 ∧ gi v 0 ≤ gi v 1) then 1 else 0
mutual
noncomputable def valE : E → List Int → List Int → Int
  | .mk op w n ks, old, now => if op = 2 then lowZ (atZ now n) w else if op = 3 then lowZ (atZ old n) w else apL op w n (valEs ks old now)
noncomputable def valEs : List E → List Int → List Int → List Int
  | [], _, _ => []
  | k :: ks, old, now => valE k old now :: valEs ks old now
end
theorem valEs_len (ks : List E) (old now : List Int) : (valEs ks old now).length = ks.length := by
  induction ks with
  | nil => rfl
  | cons k ks ih => simp [valEs, ih]
theorem valEs_get {ks : List E} {old now : List Int} {i : Nat} (h : i < ks.length) : gi (valEs ks old now) i = valE (ge ks i) old now := by
  induction ks generalizing i with
  | nil => simp at h
  | cons k ks ih =>
    cases i with
    | zero => simp [valEs, gi, ge]
    | succ i => have := ih (i := i) (by simpa using h); simpa [valEs, gi, ge] using this
theorem valE_eq (e : E) (old now : List Int) : valE e old now = if e.op = 2 then lowZ (atZ now e.n) e.w else if e.op = 3 then lowZ (atZ old e.n) e.w else apL e.op e.w e.n (valEs e.ks old now) := by
  cases e with
  | mk op w n ks => show valE (.mk op w n ks) old now = _; rw [valE]; rfl

theorem bitv_and_bd {a b m : Int} (ha : 0 ≤ a ∧ a < m) (hb : 0 ≤ b ∧ b < m) (hm : m ≤ 256) : 0 ≤ bitv .and .i64 a b ∧ bitv .and .i64 a b < m := by
  have e1 : (BitVec.ofInt 64 a).toNat = a.toNat := (by rw [ofInt_toNat]; omega);have e2 : (BitVec.ofInt 64 b).toNat = b.toNat := (by rw [ofInt_toNat]; omega);have e3 : bitv .and .i64 a b = IntKind.i64.wrap (((BitVec.ofInt 64 a) &&& (BitVec.ofInt 64 b)).toNat : Int) := rfl;rw [e3, BitVec.toNat_and, e1, e2];have : a.toNat &&& b.toNat ≤ a.toNat := Nat.and_le_left;rw [wrap64_nat (by omega)];omega
theorem pow_two_lt {x y n : Nat} (hx : x < 2 ^ n) (hy : y < 2 ^ n) : x ||| y < 2 ^ n ∧ x ^^^ y < 2 ^ n := ⟨Nat.or_lt_two_pow hx hy, Nat.xor_lt_two_pow hx hy⟩
theorem bitv_or_bd {a b : Int} {n : Nat} (hn : n ≤ 8) (ha : 0 ≤ a ∧ a < 2 ^ n) (hb : 0 ≤ b ∧ b < 2 ^ n) :
    (0 ≤ bitv .or .i64 a b ∧ bitv .or .i64 a b < 2 ^ n) ∧ (0 ≤ bitv .xor .i64 a b ∧ bitv .xor .i64 a b < 2 ^ n) := by
  have e0 : ((2 ^ n : Nat) : Int) = (2 : Int) ^ n := (by simp);have hle : 2 ^ n ≤ 2 ^ 8 := Nat.pow_le_pow_right (by omega) hn;have e1 : (BitVec.ofInt 64 a).toNat = a.toNat := (by rw [ofInt_toNat]; omega);have e2 : (BitVec.ofInt 64 b).toNat = b.toNat := (by rw [ofInt_toNat]; omega);have h := pow_two_lt (x := a.toNat) (y := b.toNat) (n := n) (by omega) (by omega);constructor
  · have e3 : bitv .or .i64 a b = IntKind.i64.wrap (((BitVec.ofInt 64 a) ||| (BitVec.ofInt 64 b)).toNat : Int) := rfl;rw [e3, BitVec.toNat_or, e1, e2, wrap64_nat (by omega)]; omega
  · have e3 : bitv .xor .i64 a b = IntKind.i64.wrap (((BitVec.ofInt 64 a) ^^^ (BitVec.ofInt 64 b)).toNat : Int) := rfl;rw [e3, BitVec.toNat_xor, e1, e2, wrap64_nat (by omega)]; omega
/-- The kids' values are in the range of their widths. -/
def inR (ks : List E) (v : List Int) (m : Nat) : Prop := ∀ i, i < m → (1 ≤ (ge ks i).w ∧ (ge ks i).w ≤ 8) ∧ 0 ≤ gi v i ∧ gi v i < 2 ^ (ge ks i).w.toNat
theorem inR_small {ks : List E} {v : List Int} {m i : Nat} (h : inR ks v m) (hi : i < m) : 0 ≤ gi v i ∧ gi v i < 256 := by
  have h1 := h i hi;have h2 := pow_small h1.1.2;omega
theorem apL_bd {e : E} {v : List Int} (hn : nodeP e) (hr : inR e.ks v e.ks.length) (h2 : e.op ≠ 2) (h3 : e.op ≠ 3) : 0 ≤ apL e.op e.w e.n v ∧ apL e.op e.w e.n v < 2 ^ e.w.toNat := by
  obtain ⟨hw, ⟨a1, a2, a3, a4, a5, a6⟩, b1, b2, b3, b4, b5, b6, b7⟩ := hn;have hp := pow_small hw.2;unfold apL;split
  · exact b1 ‹_›
  split
  · have := a2 ‹_›; have h := hr 0 (by omega); rw [b4 ‹_›] at h; omega
  split
  · have := a3 (by omega); have h := hr 0 (by omega); have h' := hr 1 (by omega); have q := b5 (by omega); rw [q.1] at h; rw [q.2] at h';exact bitv_and_bd h.2 h'.2 hp.2
  split
  · have := a3 (by omega); have h := hr 0 (by omega); have h' := hr 1 (by omega); have q := b5 (by omega); rw [q.1] at h; rw [q.2] at h';exact (bitv_or_bd (by omega) h.2 h'.2).1
  split
  · have := a3 (by omega); have h := hr 0 (by omega); have h' := hr 1 (by omega); have q := b5 (by omega); rw [q.1] at h; rw [q.2] at h';exact (bitv_or_bd (by omega) h.2 h'.2).2
  split
  · exact lowZ_bd _
  split
  · exact lowZ_bd _
  split
  · exact lowZ_bd _
  split
  · have := a4 ‹_›; have q := b7 ‹_›;have h := hr 0 (by omega); rw [q.1] at h;have e2 : (2 : Int) ^ (1 : Int).toNat = 2 := rfl;rw [e2] at h;have h1 := hr 1 (by omega); rw [q.2.1] at h1;have h2 := hr 2 (by omega); rw [q.2.2] at h2;rcases (by omega : gi v 0 = 0 ∨ gi v 0 = 1) with hz | hz
    · rw [hz, show ((2 : Int) - 0).toNat = 2 from rfl]; exact h2.2
    · rw [hz, show ((2 : Int) - 1).toNat = 1 from rfl]; exact h1.2
  · have := b6 (by clear b1 b2 b3 b4 b5 b6 b7 a1 a2 a3 a4 hr; omega);rw [this.1];have e2 : (2 : Int) ^ (1 : Int).toNat = 2 := rfl;rw [e2];split <;> omega
theorem valE_bd : ∀ (N : Nat) (e : E) (old now : List Int) (lim : Int), esize e ≤ N → dpB e lim = true → 0 ≤ valE e old now ∧ valE e old now < 2 ^ e.w.toNat
  | 0, e, _, _, _, h, _ => by have := esize_pos e; omega
  | N + 1, e, old, now, lim, h, hd => by
    obtain ⟨_, hn, hk⟩ := dpB_iff.1 hd;rw [valE_eq];split
    · exact lowZ_bd _
    split
    · exact lowZ_bd _
    · refine apL_bd hn (fun i hi => ?_) ‹_› ‹_›;have hs := esize_mem (ge_mem hi);have he := esize_eq e;have := valE_bd N (ge e.ks i) old now (lim - 1) (by omega) (hk i hi);rw [valEs_get hi];exact ⟨(dpB_iff.1 (hk i hi)).2.1.1, this⟩
theorem vals_inR {e : E} {old now : List Int} {lim : Int} (hd : dpB e lim = true) : inR e.ks (valEs e.ks old now) e.ks.length := fun i hi => by
  obtain ⟨_, _, hk⟩ := dpB_iff.1 hd;rw [valEs_get hi];exact ⟨(dpB_iff.1 (hk i hi)).2.1.1, valE_bd _ _ old now _ (Nat.le_refl _) (hk i hi)⟩
theorem valEs_take {ks : List E} {old now : List Int} {k : Nat} (h : k < ks.length) : (valEs (ks.take (k + 1)) old now) = valEs (ks.take k) old now ++ [valE (ge ks k) old now] := by
  have gen : ∀ (l : List E) (x : E), valEs (l ++ [x]) old now = valEs l old now ++ [valE x old now] := by
    intro l x
    induction l with
    | nil => rfl
    | cons q l ih => simp [valEs, ih]
  rw [List.take_succ_eq_append_getElem h, gen];simp [ge, h]
/-- The numbers whose place holds true. -/
def markT (l : List Bool) (m : Nat) : List Int := ((List.range m).filter (fun i => gb l i)).map (fun (i : Nat) => (i : Int))
def markL (l : List Bool) : List Int := markT l l.length
theorem markT_succ (l : List Bool) (k : Nat) : markT l (k + 1) = if gb l k = true then markT l k ++ [(k : Int)] else markT l k := by
  simp only [markT, List.range_succ, List.filter_append];by_cases h : gb l k = true
  · simp [h]
  · simp [h]
theorem markT_len (l : List Bool) (k : Nat) : (markT l k).length ≤ k := by
  simp only [markT, List.length_map];exact Nat.le_trans (List.length_filter_le _ _) (by simp)
end Go.V
