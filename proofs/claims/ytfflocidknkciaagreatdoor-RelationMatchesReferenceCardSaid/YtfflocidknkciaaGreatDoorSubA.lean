/- Operations and plain facts that the program's own functions need: a slice held against nil, shapes by increasing lists. Holds for every program. -/
import Derived.Test.YtfflocidknkciaaGreatDoorRel
set_option linter.all false
namespace Go.V
open Go
attribute [local semireducible] W WL OpW CV WS OpR
section
variable {P : Program} {n : Nat} {e : Env} {w : World} {ty : TypeId} {x y : Operand}
theorem X_eqNil {t yt el : TypeId} {a : Option Addr} {l c : Nat} (ht : P.underlying t = some (.slice el)) (hx : ev n e x = .slice a l c) (hy : ev n e y = .slice none 0 0) : Ex P n (.binOp .eql t x y yt) ty e w (.bool a.isNone) w := by
  refine ⟨by simp, ?_⟩;have hg : (eqGuard .eql t x y (.slice a l c) (.slice none 0 0)).run P w = .ok () w := by simp [eqGuard]
  have he : (Op.equalIn 10000 t (.slice a l c) (.slice none 0 0)).run P w = .ok a.isNone w := by
    rw [Op.equalIn];simp only [Sem.run_bind, run_underlying ht, Result.andThen]
    cases a <;> simp
  have hb : (binOp .eql t (.slice a l c) (.slice none 0 0)).run P w = .ok (.bool a.isNone) w := by
    simp [binOp, Op.equal, Op.maxDepth, Sem.run_bind, he, Result.andThen]
  simp only [execOp, mkOp, hx, hy, Sem.run_bind, hg, hb, Result.andThen, Sem.run_pure]
end
theorem X_shl1 {P : Program} {n : Nat} {e : Env} {w : World} {ty : TypeId} {x y : Operand} {t yt : TypeId} {k' : IntKind} {b : Int} (hx : ev n e x = .int .i64 1) (hy : ev n e y = .int k' b) (hb : 0 ≤ b ∧ b ≤ 62) :
    Ex P n (.binOp .shl t x y yt) ty e w (.int .i64 (2 ^ b.toNat)) w := by
  have := X_shl (P := P) (w := w) (ty := ty) (t := t) (yt := yt) hx hy hb.1;have h1 := pow_two_bd (n := b.toNat) (by omega);have h2 : min b.toNat IntKind.i64.bits = b.toNat := (by show min b.toNat 64 = _; omega);rw [h2, Int.one_mul, wrap_i64_of (by omega)] at this;exact this
theorem X_shrN {P : Program} {n : Nat} {e : Env} {w : World} {ty : TypeId} {x y : Operand} {t yt : TypeId} {k' : IntKind} {a b : Int} (hx : ev n e x = .int .i64 a) (hy : ev n e y = .int k' b) (ha : 0 ≤ a) (hb : 0 ≤ b ∧ b ≤ 62) :
    Ex P n (.binOp .shr t x y yt) ty e w (.int .i64 (a / 2 ^ b.toNat)) w := by
  have := X_shr (P := P) (w := w) (ty := ty) (t := t) (yt := yt) hx hy hb.1;have h1 := pow_two_bd (n := b.toNat) (by omega);have h2 : min b.toNat IntKind.i64.bits = b.toNat := (by show min b.toNat 64 = _; omega);rw [h2, Int.fdiv_eq_ediv_of_nonneg _ (by omega)] at this;exact this
theorem X_maskN {P : Program} {n : Nat} {e : Env} {w : World} {ty : TypeId} {x y : Operand} {t yt : TypeId} {a : Int} {m : Nat} (hx : ev n e x = .int .i64 a) (hy : ev n e y = .int .i64 (2 ^ m - 1)) (hm : m ≤ 62) :
    Ex P n (.binOp .and t x y yt) ty e w (.int .i64 (a % 2 ^ m)) w := by
  have := X_and (P := P) (w := w) (ty := ty) (t := t) (yt := yt) hx hy;rw [bitv_mask a hm] at this; exact this
theorem SlI.none {w : World} {l : List Int} (h : SlI w none l) : l = [] := by
  rcases Nat.eq_zero_or_pos l.length with h0 | h0
  · exact List.eq_nil_of_length_eq_zero h0
  · have := h.ad 0 h0; cases this
theorem inc_ris {c : List Int} {b : Int} {m : Nat} (hm : m ≤ c.length) : (incB c = true → (∀ i, i < m → 0 ≤ gi c i ∧ gi c i < b) → risTo c b m) := by
  intro h h1 i hi;rw [incB, incTo_iff] at h;exact ⟨(h1 i hi).1, (h1 i hi).2, fun h0 => by have := h (i - 1) (by omega); rwa [show i - 1 + 1 = i by omega] at this⟩
theorem ris_inc {c : List Int} {b : Int} (h : risTo c b c.length) : incB c = true := by
  rw [incB, incTo_iff];intro i hi;have := (h (i + 1) hi).2.2 (by omega)
  simpa using this
/-- What the program's 'shape' has seen of its first m cells. -/
def shpTo (c u : List Int) (m : Nat) : Prop := ∀ i, i < m → 0 ≤ gi c i ∧ gi c i < 32 ∧ 1 ≤ gi u i ∧ gi u i ≤ 8
theorem shpTo_succ {c u : List Int} {k : Nat} (h : shpTo c u k) (h1 : 0 ≤ gi c k) (h2 : gi c k < 32) (h4 : 1 ≤ gi u k) (h5 : gi u k ≤ 8) : shpTo c u (k + 1) := fun i hi => by
  by_cases hik : i = k
  · subst hik; exact ⟨h1, h2, h4, h5⟩
  · exact h i (by omega)
theorem shp_iff {c u : List Int} : shB c u = true ↔ c.length = u.length ∧ incB c = true ∧ shpTo c u c.length := by
  rw [shB_iff];constructor
  · rintro ⟨h1, h2, h3⟩
    exact ⟨h1, ris_inc (b := 32) fun i hi => ⟨(h3 i hi).1, (h3 i hi).2.1, (h3 i hi).2.2.1⟩, fun i hi => ⟨(h3 i hi).1, (h3 i hi).2.1, (h3 i hi).2.2.2⟩⟩
  · rintro ⟨h1, h2, h3⟩
    have hr := inc_ris (b := 32) (Nat.le_refl c.length) h2 fun i hi => ⟨(h3 i hi).1, (h3 i hi).2.1⟩;exact ⟨h1, ris_len hr (by omega), fun i hi => ⟨(hr i hi).1, (hr i hi).2.1, (hr i hi).2.2, (h3 i hi).2.2⟩⟩
theorem shp_false {c u : List Int} (h : c.length ≠ u.length ∨ incB c = false ∨ ∃ k, k < c.length ∧ ¬ (0 ≤ gi c k ∧ gi c k < 32 ∧ 1 ≤ gi u k ∧ gi u k ≤ 8)) : shB c u = false := by
  cases hq : shB c u with
  | false => rfl
  | true =>
    obtain ⟨h1, h2, h3⟩ := shp_iff.1 hq;rcases h with h | h | ⟨k, hk, h⟩
    · exact absurd h1 h
    · rw [h] at h2; cases h2
    · exact absurd (h3 k hk) h
theorem bits12 {c u : List Int} (h : shB c u = true) : (sumL u ≤ 12 ↔ 0 ≤ bitsL c u 12) := by
  obtain ⟨h1, h2, h3⟩ := shB_iff.1 h;have h4 := shTo_sum h3;have h5 : sumL u = sumTo u c.length := (by unfold sumL; rw [h1]);unfold bitsL;split
  · rename_i hq; constructor <;> intro <;> omega
  · rename_i hq; constructor
    · intro q; exact absurd ⟨h, q⟩ hq
    · intro q; omega
theorem wdB_eq {cs : List CellD} {l : List Int} (h1 : incB l = true) (h2 : ∀ i, i < l.length → 0 ≤ gi l i ∧ gi l i < cs.length) : wdB cs l = shB l (wdL cs l) := by
  unfold wdB
  cases hq : shB l (wdL cs l) with
  | false => simp
  | true =>
    obtain ⟨q1, q2, q3⟩ := shB_iff.1 hq
    have : risB l (mn32 cs) = true := risB_iff.2 (inc_ris (Nat.le_refl _) h1 fun i hi => by
      have a1 := h2 i hi; have a2 := q3 i hi
      unfold mn32; split <;> omega)
    simp [this]
theorem wdB_no {cs : List CellD} {l : List Int} (h : incB l = false ∨ ∃ k, k < l.length ∧ ¬ (0 ≤ gi l k ∧ gi l k < cs.length)) : wdB cs l = false := by
  unfold wdB
  have : risB l (mn32 cs) = false := by
    cases hq : risB l (mn32 cs) with
    | false => rfl
    | true =>
      have hr := risB_iff.1 hq;have hm : mn32 cs ≤ cs.length := (by unfold mn32; split <;> omega);rcases h with h | ⟨k, hk, h⟩
      · rw [ris_inc hr] at h; cases h
      · exact absurd ⟨(hr k hk).1, by have := (hr k hk).2.1; omega⟩ h
  simp [this]
theorem ris_ends {l : List Int} {b : Int} (h : incB l = true) (h0 : l.length = 0 ∨ (0 ≤ gi l 0 ∧ gi l (l.length - 1) < b)) : risB l b = true := by
  rw [risB_iff];rcases h0 with h0 | ⟨h1, h2⟩
  · intro i hi; omega
  · have key : ∀ d i, i + d < l.length → gi l i ≤ gi l (i + d) := by
      intro d
      induction d with
      | zero => intro i _; exact Int.le_refl _
      | succ d ih =>
        intro i hi;have h3 := ih i (by omega);have h4 := (incTo_iff.1 h) (i + d) (by omega);exact Int.le_of_lt (Int.lt_of_le_of_lt h3 h4)
    have hmono : ∀ i j, i ≤ j → j < l.length → gi l i ≤ gi l j := fun i j hij hj => by
      have := key (j - i) i (by omega); rwa [show i + (j - i) = j by omega] at this
    refine inc_ris (Nat.le_refl _) h fun i hi => ⟨?_, ?_⟩
    · have := hmono 0 i (by omega) hi; omega
    · have := hmono i (l.length - 1) (by omega) (by omega); omega
theorem ris_first {l : List Int} {b : Int} (h : risB l b = true) (h0 : l.length ≠ 0) : 0 ≤ gi l 0 ∧ gi l (l.length - 1) < b := by
  have hr := risB_iff.1 h;exact ⟨(hr 0 (by omega)).1, (hr (l.length - 1) (by omega)).2.1⟩
theorem setB_small {s : SetD} (h : ¬ 0 ≤ bitsL s.cells s.us 12) : setB s = false := by simp [setB, h]
theorem setB_inc {s : SetD} (h : incB s.ins = false) : setB s = false := by
  cases hq : setB s with
  | false => rfl
  | true => have := ris_inc (risB_iff.1 (setB_iff.1 hq).2.2); rw [this] at h; cases h
end Go.V
