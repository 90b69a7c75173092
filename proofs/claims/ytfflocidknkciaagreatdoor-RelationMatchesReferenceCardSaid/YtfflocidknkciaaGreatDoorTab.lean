/- Tables of truth values (a slice of slices), lists of pairs, pairs compared. Holds for every program. -/
import Derived.Test.YtfflocidknkciaaGreatDoorPlain
import Derived.Laws.StructEq
set_option linter.all false
namespace Go.V
open Go
attribute [local semireducible] W WL OpW CV WS OpR

theorem run_eq2 {P : Program} {w : World} {t el : TypeId} {k : IntKind} {a b c d : Int} (dd : Nat) (ht : P.underlying t = some (.array 2 el)) (hel : P.underlying el = some (.int k)) (hz : ∀ w, (sizeOf el).run P w = .ok 1 w) (ha : ∀ w, (isAgg el).run P w = .ok false w) :
    (Op.equalIn (dd + 2) t (.agg #[.int k a, .int k b]) (.agg #[.int k c, .int k d])).run P w = .ok (decide (a = c ∧ b = d)) w := by
  have hp : ∀ (x y : Value) (w : World), (part el #[x, y] 0).run P w = .ok x w := (by intro x y w; simp [part, Sem.run_bind, ha, Result.andThen]);have hq : ∀ (x y : Value) (w : World), (part el #[x, y] 1).run P w = .ok y w := (by intro x y w; simp [part, Sem.run_bind, ha, Result.andThen]);have h1 := fun (a b : Int) (w : World) => run_equalIn_int (P := P) w dd el k k a b hel;rw [Op.equalIn];simp only [Sem.run_bind, run_underlying ht, Result.andThen, hz];simp only [Std.Legacy.Range.forIn_eq_forIn_range', Std.Legacy.Range.size, List.range', List.forIn_cons, List.forIn_nil, Sem.run_bind, hp, hq, h1, Result.andThen, Nat.zero_mul, Nat.one_mul];by_cases h : a = c <;> by_cases h' : b = d <;> simp [h, h', Result.andThen, Sem.run_bind, hq, h1, hp]
section
variable {P : Program} {n : Nat} {e : Env} {w : World} {ty : TypeId} {x y : Operand}
theorem X_neA2 {t yt el : TypeId} {k : IntKind} {a b c d : Int} (ht : P.underlying t = some (.array 2 el)) (hel : P.underlying el = some (.int k)) (hz : ∀ w, (sizeOf el).run P w = .ok 1 w) (ha : ∀ w, (isAgg el).run P w = .ok false w) (hg : P.eqGuardType P.depth t = false)
    (hx : ev n e x = .agg #[.int k a, .int k b]) (hy : ev n e y = .agg #[.int k c, .int k d]) : Ex P n (.binOp .neq t x y yt) ty e w (.bool (decide ¬ (a = c ∧ b = d))) w := by
  refine ⟨by simp, ?_⟩;simp only [execOp, mkOp, hx, hy, Sem.run_bind, run_eqGuard_agg w _ _ _ _ _ _ hg, Result.andThen, run_neq_struct, run_eq2 9998 ht hel hz ha, Sem.run_pure, decide_not]
theorem X_eqA2 {t yt el : TypeId} {k : IntKind} {a b c d : Int} (ht : P.underlying t = some (.array 2 el)) (hel : P.underlying el = some (.int k)) (hz : ∀ w, (sizeOf el).run P w = .ok 1 w) (ha : ∀ w, (isAgg el).run P w = .ok false w) (hg : P.eqGuardType P.depth t = false)
    (hx : ev n e x = .agg #[.int k a, .int k b]) (hy : ev n e y = .agg #[.int k c, .int k d]) : Ex P n (.binOp .eql t x y yt) ty e w (.bool (decide (a = c ∧ b = d))) w := by
  refine ⟨by simp, ?_⟩;simp only [execOp, mkOp, hx, hy, Sem.run_bind, run_eqGuard_agg w _ _ _ _ _ _ hg, Result.andThen, run_eql_struct, run_eq2 9998 ht hel hz ha, Sem.run_pure]
end

/-! ## Pairs -/
def pv (l : List (Int × Int)) : List Value := l.flatMap fun p => [.int .i64 p.1, .int .i64 p.2]
theorem pv_append (a b : List (Int × Int)) : pv (a ++ b) = pv a ++ pv b := by simp [pv]
theorem pv_len (l : List (Int × Int)) : (pv l).length = l.length * 2 := by
  induction l with
  | nil => rfl
  | cons p l ih => simp only [pv, List.flatMap_cons, List.length_append, List.length_cons, List.length_nil] at *; omega
theorem pv_get {l : List (Int × Int)} {i : Nat} {x : Int × Int} (h : l[i]? = some x) : (pv l)[i * 2]? = some (.int .i64 x.1) ∧ (pv l)[i * 2 + 1]? = some (.int .i64 x.2) := by
  induction l generalizing i with
  | nil => simp at h
  | cons p l ih =>
    cases i with
    | zero => simp at h; subst h; simp [pv]
    | succ i =>
      have := ih (i := i) (by simpa using h);simp only [pv, List.flatMap_cons] at *;rw [show (i + 1) * 2 = 2 + i * 2 by omega, show 2 + i * 2 + 1 = 2 + (i * 2 + 1) by omega];simp only [List.getElem?_append_right, List.length_cons, List.length_nil, Nat.zero_add, Nat.reduceAdd, Nat.le_add_right, Nat.add_sub_cancel_left];exact this
theorem own_slp {w : World} {base : Nat} {e : TypeId} {v : Value} {n : Nat} {l : List (Int × Int)} (hl : l.length ≤ 140737488355328) (h : w.ownsRow base e 2 v n (pv l)) : ∃ a c, v = .slice a l.length c ∧ SlP w a l ∧ n = l.length := by
  have hn : n = l.length := (by have := h.1; rw [pv_len] at this; omega);subst hn;rcases h.2 with ⟨rfl, h0⟩ | ⟨g, cap, cur, rfl, hb, hg, hc, hm, hs, ht⟩
  · have : l = [] := List.eq_nil_of_length_eq_zero h0;subst this;exact ⟨none, 0, rfl, Sl.nil, rfl⟩
  · refine ⟨_, _, rfl, ⟨fun i hi => rfl, fun i x hx => ?_, hl⟩, rfl⟩;obtain ⟨q1, q2⟩ := pv_get hx;have h1 := h.cells (g := g) rfl _ _ q1;have h2 := h.cells (g := g) rfl _ _ q2;rw [addr_add] at h1 h2;exact ⟨by simpa [bk, of', Cell] using h1, by simpa [bk, of', Cell, Nat.add_assoc] using h2⟩
theorem own_isSlice {w : World} {base size : Nat} {e : TypeId} {v : Value} {n : Nat} {xs : List Value} (h : w.ownsRow base e size v n xs) : ∃ a c, v = .slice a n c := by
  rcases h.2 with ⟨rfl, rfl⟩ | ⟨g, cap, cur, rfl, _⟩
  · exact ⟨none, 0, rfl⟩
  · exact ⟨_, _, rfl⟩
theorem own_other {w w' : World} {base size base' size' : Nat} {T T' : TypeId} {v v' : Value} {n n' : Nat} {xs xs' : List Value} (h : w.ownsRow base T size v n xs) (h' : w.ownsRow base' T' size' v' n' xs') (hT : T ≠ T') : v.ownBlock = none ∨ v.ownBlock ≠ v'.ownBlock := by
  rcases h.2 with ⟨rfl, rfl⟩ | ⟨g, cap, cur, rfl, _, hg, _⟩
  · exact .inl rfl
  · right;rcases h'.2 with ⟨rfl, rfl⟩ | ⟨g', cap', cur', rfl, _, hg', _⟩
    · simp [Value.ownBlock]
    · simp only [Value.ownBlock, ne_eq, Option.some.injEq];intro heq; subst heq; rw [hg] at hg'; injection hg' with q; injection q with _ q _; exact hT q
/-- An append to a row of another element type. -/
theorem New.keptO {w w' : World} {base size base' size' : Nat} {T T' : TypeId} {v v' : Value} {n n' : Nat} {xs xs' : List Value} (h : New T size base w v n xs) (hg : w.grownBy w' v'.ownBlock) (h' : w.ownsRow base' T' size' v' n' xs') (hT : T ≠ T') : New T size base w' v n xs := by
  rcases h with h | ⟨h0, h⟩
  · exact .inl h
  · exact .inr ⟨h0, h.kept hg (own_other (w' := w) h h' hT)⟩
theorem New.own2 {T size base : Nat} {w : World} {v : Value} {n : Nat} {xs : List Value} (h : w.ownsRow base T size v n xs) : New T size base w v n xs := New.own h
theorem Sl.getPc {w : World} {a : Option Addr} {l : List (Int × Int)} (h : SlP w a l) (j : Nat) (hj : j < l.length) : Cells w (bk a) (of' a + j * 2) [.int .i64 (gp l j).1, .int .i64 (gp l j).2] := by
  intro i v hi
  match i, hi with
  | 0, hi => simp at hi; subst hi; exact h.getP0 j hj
  | 1, hi => simp at hi; subst hi; exact h.getP1 j hj
  | i + 2, hi => simp at hi

/-! ## Tables -/
def rowL (p : Nat) (f : Nat → Bool) : List Bool := (List.range p).map f
theorem rowL_len (p : Nat) (f : Nat → Bool) : (rowL p f).length = p := by simp [rowL]
theorem rowL_get {p : Nat} {f : Nat → Bool} {i : Nat} (h : i < p) : gb (rowL p f) i = f i := by simp [rowL, gb, h]
theorem rowL_rep (p : Nat) : List.replicate p false = rowL p (fun _ => false) := by apply List.ext_getElem <;> simp [rowL]
def upd2 (M : Nat → Nat → Bool) (x y : Nat) (b : Bool) : Nat → Nat → Bool := fun x' y' => if x' = x ∧ y' = y then b else M x' y'
theorem rowL_set {p : Nat} {M : Nat → Nat → Bool} {x y : Nat} {b : Bool} : (rowL p (M x)).set y b = rowL p (upd2 M x y b x) := by
  apply List.ext_getElem
  · simp [rowL]
  · intro i h1 h2;simp only [rowL, List.getElem_set, List.getElem_map, List.getElem_range, upd2, true_and];by_cases h : y = i
    · subst h; simp
    · simp [h, Ne.symm h]
theorem rowL_ne {p : Nat} {M : Nat → Nat → Bool} {x y x' : Nat} {b : Bool} (h : x' ≠ x) : rowL p (upd2 M x y b x') = rowL p (M x') := by
  simp only [rowL]; apply List.map_congr_left; intro i _; simp [upd2, h]
/-- m rows made of a table of p rows of p: header block h, row blocks rb, all from base on and below top. -/
structure Tab (w : World) (base top p m h : Nat) (rb : Nat → Nat) (M : Nat → Nat → Bool) : Prop where
  head : Blk w h 74 ((List.range p).map fun x => if x < m then .slice (some ⟨rb x, 0, none⟩) p p else .slice none 0 0)
  rows : ∀ x, x < m → Blk w (rb x) 4 (bv (rowL p (M x)))
  ge : ∀ x, x < m → base ≤ rb x ∧ rb x < top
  hge : base ≤ h ∧ h < top
  inj : ∀ x y, x < m → y < m → rb x = rb y → x = y
  mp : m ≤ p
section
variable {w w' : World} {base top p m h : Nat} {rb : Nat → Nat} {M : Nat → Nat → Bool}
theorem Tab.ext (t : Tab w base top p m h rb M) (x : Ext w w') : Tab w' base top p m h rb M := ⟨t.head.ext x, fun i hi => (t.rows i hi).ext x, t.ge, t.hge, t.inj, t.mp⟩
theorem Tab.kept {b : Nat} (t : Tab w base top p m h rb M) (hg : w.grownBy w' (some b)) (hb : b < base ∨ top ≤ b) : Tab w' base top p m h rb M :=
  ⟨t.head.kept hg (by intro hq; injection hq with hq; have := t.hge; omega), fun i hi => (t.rows i hi).kept hg (by intro hq; injection hq with hq; have := t.ge i hi; omega), t.ge, t.hge, t.inj, t.mp⟩
theorem Tab.keptO {row : Option Nat} (t : Tab w base top p m h rb M) (hg : w.grownBy w' row) (hb : ∀ b, row = some b → b < base ∨ top ≤ b) : Tab w' base top p m h rb M :=
  ⟨t.head.kept hg (by intro hq; have := hb _ hq; have := t.hge; omega), fun i hi => (t.rows i hi).kept hg (by intro hq; have := hb _ hq; have := t.ge i hi; omega), t.ge, t.hge, t.inj, t.mp⟩
theorem Tab.keptB {b T : Nat} {cs : List Value} (t : Tab w base top p m h rb M) (hg : w.grownBy w' (some b)) (hb : Blk w b T cs) (h1 : T ≠ 4) (h2 : T ≠ 74) : Tab w' base top p m h rb M :=
  ⟨t.head.kept hg (by intro hq; injection hq with hq; exact hb.neT t.head h2 hq), fun i hi => (t.rows i hi).kept hg (by intro hq; injection hq with hq; exact hb.neT (t.rows i hi) h1 hq), t.ge, t.hge, t.inj, t.mp⟩
theorem Tab.now (t : Tab w base top p m h rb M) : Tab w base w.heap.size p m h rb M := ⟨t.head, t.rows, fun x hx => ⟨(t.ge x hx).1, (t.rows x hx).lt⟩, ⟨t.hge.1, t.head.lt⟩, t.inj, t.mp⟩
theorem Tab.hdr {o : Nat} (t : Tab w base top p m h rb M) (j : Nat) (ho : o = j) (hj : j < m) : Cell w h o (.slice (some ⟨rb j, 0, none⟩) p p) := by
  subst ho; exact t.head.cell (by have := t.mp; simp [show o < p by omega, hj])
theorem Tab.get {o : Nat} (t : Tab w base top p m h rb M) (j y : Nat) (ho : o = y) (hj : j < m) (hy : y < p) : Cell w (rb j) o (.bool (M j y)) := by
  have := (t.rows j hj).getB (o := o) y ho (by rw [rowL_len]; exact hy)
  rwa [rowL_get hy] at this
theorem Tab.hne (t : Tab w base top p m h rb M) {x : Nat} (hx : x < m) : rb x ≠ h := (t.rows x hx).neT t.head (by decide)
theorem Tab.set {b : Bool} {x y : Nat} (t : Tab w base top p m h rb M) (hx : x < m) (hB : Blk w' (rb x) 4 ((bv (rowL p (M x))).set y (.bool b))) (hg : w.grownBy w' (some (rb x))) : Tab w' base top p m h rb (upd2 M x y b) :=
  ⟨t.head.kept hg (by intro hq; injection hq with hq; exact t.hne hx hq), fun i hi => by
    by_cases hix : i = x
    · subst hix; rwa [bv_set, rowL_set] at hB
    · rw [rowL_ne hix]; exact (t.rows i hi).kept hg (by intro hq; injection hq with hq; exact hix (t.inj _ _ hi hx hq.symm)), t.ge, t.hge, t.inj, t.mp⟩
theorem Tab.congr {M' : Nat → Nat → Bool} (t : Tab w base top p m h rb M) (hM : ∀ x y, x < m → y < p → M x y = M' x y) : Tab w base top p m h rb M' :=
  ⟨t.head, fun i hi => by rw [← show rowL p (M i) = rowL p (M' i) from List.map_congr_left fun y hy => hM i y hi (by simpa using hy)]; exact t.rows i hi, t.ge, t.hge, t.inj, t.mp⟩
theorem Tab.top_le {top' : Nat} (t : Tab w base top p m h rb M) (ht : top ≤ top') : Tab w base top' p m h rb M := ⟨t.head, t.rows, fun x hx => ⟨(t.ge x hx).1, by have := (t.ge x hx).2; omega⟩, ⟨t.hge.1, by have := t.hge.2; omega⟩, t.inj, t.mp⟩
theorem Tab.base_le {base' : Nat} (t : Tab w base top p m h rb M) (ht : base' ≤ base) : Tab w base' top p m h rb M := ⟨t.head, t.rows, fun x hx => ⟨by have := (t.ge x hx).1; omega, (t.ge x hx).2⟩, ⟨by have := t.hge.1; omega, t.hge.2⟩, t.inj, t.mp⟩
/-- A table without rows. -/
theorem Tab.zero (hb : Blk w h 74 (List.replicate p (.slice none 0 0))) (h1 : base ≤ h) (h2 : h < top) : Tab w base top p 0 h rb M :=
  ⟨hb.as (by apply List.ext_getElem <;> simp), fun x hx => by omega, fun x hx => by omega, ⟨h1, h2⟩, fun x y hx => by omega, Nat.zero_le _⟩
/-- A row of zeros made. -/
theorem Tab.add {z top' : Nat} (t : Tab w base top p m h rb M) (hz : Blk w z 4 (List.replicate p (.bool false))) (hnz : top ≤ z) (hb : base ≤ z) (hzt : z < w'.heap.size → top' = w'.heap.size → z < top') (ht : top' = w'.heap.size → top ≤ top')
    (hB : Blk w' h 74 (((List.range p).map fun x => if x < m then Value.slice (some ⟨rb x, 0, none⟩) p p else .slice none 0 0).set m (.slice (some ⟨z, 0, none⟩) p p))) (hg : w.grownBy w' (some h)) (hmp : m < p) (hM : ∀ y, y < p → M m y = false) (ht' : top' = w'.heap.size := by rfl) :
    Tab w' base top' p (m + 1) h (fun x => if x = m then z else rb x) M := by
  have hzl : z < w'.heap.size := Nat.lt_of_lt_of_le hz.lt hg.size;have hzt := hzt hzl ht';have ht := ht ht';have hne : ∀ x, x < m → rb x ≠ z := fun i hi => (by have := t.ge i hi; omega);have hh : z ≠ h := (by have := t.hge; omega);refine ⟨hB.as ?_, fun i hi => ?_, fun i hi => ?_, ⟨t.hge.1, by have := t.hge.2; omega⟩, fun i j hi hj hij => ?_, hmp⟩
  · apply List.ext_getElem
    · simp
    · intro i h1 h2;simp only [List.getElem_set, List.getElem_map, List.getElem_range];by_cases h3 : m = i
      · subst h3; simp
      · simp only [if_neg h3, if_neg (Ne.symm h3)];by_cases h4 : i < m
        · rw [if_pos h4, if_pos (by omega)]
        · rw [if_neg h4, if_neg (by omega)]
  · by_cases h3 : i = m
    · subst h3;simp only [if_true];refine (hz.kept hg (by intro hq; injection hq with hq; exact hh hq.symm)).as ?_;rw [bv_rep, rowL_rep]; congr 1;exact List.map_congr_left fun y hy => (hM y (by simpa using hy)).symm
    · simp only [if_neg h3];exact (t.rows i (by omega)).kept hg (by intro hq; injection hq with hq; exact t.hne (by omega) hq.symm)
  · by_cases h3 : i = m
    · simp only [if_pos h3]; omega
    · simp only [if_neg h3]; have := t.ge i (by omega); omega
  · by_cases h3 : i = m <;> by_cases h4 : j = m
    · omega
    · simp only [if_pos h3, if_neg h4] at hij; exact absurd hij.symm (hne j (by omega))
    · simp only [if_neg h3, if_pos h4] at hij; exact absurd hij (hne i (by omega))
    · simp only [if_neg h3, if_neg h4] at hij; exact t.inj _ _ (by omega) (by omega) hij
end
/-- A value that is a table of new blocks. -/
def isTab (base p : Nat) (M : Nat → Nat → Bool) (v : Value) (w : World) : Prop := ∃ h rb, v = .slice (some ⟨h, 0, none⟩) p p ∧ Tab w base w.heap.size p p h rb M
theorem isTab.ext {base p : Nat} {M : Nat → Nat → Bool} {v : Value} {w w' : World} (t : isTab base p M v w) (x : Ext w w') : isTab base p M v w' := by
  obtain ⟨h, rb, h1, h2⟩ := t; exact ⟨h, rb, h1, (h2.ext x).top_le x.size⟩
theorem isTab.base {base base' p : Nat} {M : Nat → Nat → Bool} {v : Value} {w : World} (t : isTab base p M v w) (hb : base' ≤ base) : isTab base' p M v w := by
  obtain ⟨h, rb, h1, h2⟩ := t; exact ⟨h, rb, h1, h2.base_le hb⟩
theorem isTab.congr {base p : Nat} {M M' : Nat → Nat → Bool} {v : Value} {w : World} (t : isTab base p M v w) (hM : ∀ x y, x < p → y < p → M x y = M' x y) : isTab base p M' v w := by
  obtain ⟨h, rb, h1, h2⟩ := t; exact ⟨h, rb, h1, h2.congr hM⟩

/-! ## Relations as tables, and back -/
theorem pow_6 {n : Nat} (h : n ≤ 6) : (1 : Int) ≤ 2 ^ n ∧ (2 : Int) ^ n ≤ 64 := by
  have h1 : (2 : Nat) ^ n ≤ 2 ^ 6 := Nat.pow_le_pow_right (by omega) h;have h2 : 0 < (2 : Nat) ^ n := Nat.pow_pos (by omega);have e : ((2 ^ n : Nat) : Int) = (2 : Int) ^ n := (by simp);omega
noncomputable def shE (cs : List CellD) (l : List Int) : Int := if wdB cs l = true then (if 6 < sumL (wdL cs l) then 2 else 0) else 1
theorem wd_wsOk {cs : List CellD} {l : List Int} (h : wdB cs l = true) : wsOk (wdL cs l) := by
  simp only [wdB, Bool.and_eq_true] at h; exact sh_wsOk h.2

def prOk (l : List (Int × Int)) (p : Int) (i : Nat) : Prop :=
  0 ≤ (gp l i).1 ∧ (gp l i).1 < p ∧ 0 ≤ (gp l i).2 ∧ (gp l i).2 < p ∧ (0 < i → (gp l (i - 1)).1 < (gp l i).1 ∨ ((gp l (i - 1)).1 = (gp l i).1 ∧ (gp l (i - 1)).2 < (gp l i).2))
instance (l : List (Int × Int)) (p : Int) (i : Nat) : Decidable (prOk l p i) := by unfold prOk; infer_instance
def prTo (l : List (Int × Int)) (p : Int) (m : Nat) : Prop := ∀ i, i < m → prOk l p i
def prB (l : List (Int × Int)) (p : Int) : Bool := (List.range l.length).all fun i => decide (prOk l p i)
theorem prB_iff {l : List (Int × Int)} {p : Int} : prB l p = true ↔ prTo l p l.length := by simp [prB, prTo]
theorem prTo_succ {l : List (Int × Int)} {p : Int} {k : Nat} (h : prTo l p k) (h1 : prOk l p k) : prTo l p (k + 1) := fun i hi => by
  by_cases hik : i = k
  · subst hik; exact h1
  · exact h i (by omega)
theorem prB_false {l : List (Int × Int)} {p : Int} {k : Nat} (hk : k < l.length) (h : ¬ prOk l p k) : prB l p = false := by
  cases hq : prB l p with
  | false => rfl
  | true => exact absurd (prB_iff.1 hq k hk) h
def relB (s : RelD) : Bool := decide (0 ≤ bitsL s.cells s.us 6) && prB s.ins ((2 : Int) ^ (bitsL s.cells s.us 6).toNat)
theorem relB_iff {s : RelD} : relB s = true ↔ shB s.cells s.us = true ∧ (0 ≤ sumL s.us ∧ sumL s.us ≤ 6) ∧ prTo s.ins (2 ^ (sumL s.us).toNat) s.ins.length := by
  simp only [relB, Bool.and_eq_true, decide_eq_true_eq, prB_iff];constructor
  · rintro ⟨h1, h2⟩
    obtain ⟨q1, q2, q3⟩ := bitsL_bd.2.2 h1;rw [q2] at h1 h2 q3;exact ⟨q1, ⟨h1, q3⟩, h2⟩
  · rintro ⟨h1, h2, h3⟩
    have : bitsL s.cells s.us 6 = sumL s.us := (by unfold bitsL; rw [if_pos ⟨h1, h2.2⟩]);rw [this]; exact ⟨h2.1, h3⟩
theorem relB_false1 {s : RelD} (h : bitsL s.cells s.us 6 < 0) : relB s = false := by simp only [relB, Bool.and_eq_false_iff, decide_eq_false_iff_not]; exact .inl (by omega)
theorem relB_false2 {s : RelD} {k : Nat} (hk : k < s.ins.length) (h : ¬ prOk s.ins (2 ^ (bitsL s.cells s.us 6).toNat) k) : relB s = false := by simp only [relB, Bool.and_eq_false_iff]; exact .inr (prB_false hk h)
theorem relB_true {s : RelD} (h : ¬ bitsL s.cells s.us 6 < 0) (h1 : prTo s.ins (2 ^ (bitsL s.cells s.us 6).toNat) s.ins.length) : relB s = true := by
  simp only [relB, Bool.and_eq_true, decide_eq_true_eq]; exact ⟨by omega, prB_iff.2 h1⟩
def peqTo (a b : List (Int × Int)) (m : Nat) : Prop := ∀ i, i < m → gp a i = gp b i
theorem peqTo_succ {a b : List (Int × Int)} {k : Nat} (h : peqTo a b k) (h1 : (gp a k).1 = (gp b k).1) (h2 : (gp a k).2 = (gp b k).2) : peqTo a b (k + 1) := fun i hi => by
  by_cases hik : i = k
  · subst hik; exact Prod.ext h1 h2
  · exact h i (by omega)
theorem plist_eq {a b : List (Int × Int)} (h : a.length = b.length) (he : peqTo a b a.length) : a = b := by
  apply List.ext_getElem h;intro i h1 h2;have := he i h1
  simpa [gp, h1, h2] using this
def alikeB (s t : RelD) : Bool := relB s && relB t && decide (s.cells = t.cells) && decide (s.us = t.us)
noncomputable def fitsB (s : RelD) (t : SetD) : Bool := relB s && setB t && decide (s.cells = t.cells) && decide (s.us = t.us)
def thrT (S T : Nat → Nat → Bool) (j x z : Nat) : Bool := (List.range j).any fun y => S x y && T y z
def thr (p : Nat) (S T : Nat → Nat → Bool) (x z : Nat) : Bool := thrT S T p x z
def thrM (p : Nat) (S T : Nat → Nat → Bool) (k j i x z : Nat) : Bool := if x < k then thr p S T x z else (thrT S T j x z || (S x j && T j z && decide (z < i)))
theorem thrM_new {p : Nat} {S T : Nat → Nat → Bool} {k y : Nat} : thrM p S T k 0 0 k y = false := by simp [thrM, thrT]
theorem thrM_start {p : Nat} {S T : Nat → Nat → Bool} {k x z : Nat} (h : x < k) : thr p S T x z = thrM p S T k 0 0 x z := by simp [thrM, h]
theorem thrM_step {p : Nat} {S T : Nat → Nat → Bool} {k j i x z : Nat} {b : Bool} (hS : S k j = true) (hb : b = (thrM p S T k j i k i || T j i)) (hx : x < k + 1) : upd2 (thrM p S T k j i) k i b x z = thrM p S T k j (i + 1) x z := by
  simp only [upd2];by_cases h1 : x = k
  · subst h1;by_cases h2 : z = i
    · subst h2; simp only [true_and, if_true, hb]; simp [thrM, hS]
    · have h3 : decide (z < i + 1) = decide (z < i) := (by rw [Bool.eq_iff_iff]; simp; omega);simp [h2, thrM, h3]
  · simp [h1, thrM, show x < k by omega]
theorem thrM_j {p : Nat} {S T : Nat → Nat → Bool} {k j i x z : Nat} (h : i = p ∨ S k j = false) (hx : x < k + 1) (hz : z < p) : thrM p S T k j i x z = thrM p S T k (j + 1) 0 x z := by
  simp only [thrM];split
  · rfl
  · have hxk : x = k := (by omega);subst hxk;simp only [thrT, List.range_succ, List.any_append, List.any_cons, List.any_nil, Bool.or_false];rcases h with rfl | h
    · simp [hz]
    · simp [h]
theorem thrM_k {p : Nat} {S T : Nat → Nat → Bool} {k x z : Nat} : thrM p S T k p 0 x z = thr p S T x z := by
  simp only [thrM, thr]; split <;> simp
def tabP (ins : List (Int × Int)) (k : Nat) : Nat → Nat → Bool := fun x y => decide (((x : Int), (y : Int)) ∈ ins.take k)
def tabA (ins : List (Int × Int)) : Nat → Nat → Bool := fun x y => decide (((x : Int), (y : Int)) ∈ ins)
theorem tabP_zero (ins : List (Int × Int)) : tabP ins 0 = fun _ _ => false := by funext x y; simp [tabP]
theorem tabP_all (ins : List (Int × Int)) : tabP ins ins.length = tabA ins := by funext x y; simp [tabP, tabA]
theorem tabP_succ {ins : List (Int × Int)} {k : Nat} (hk : k < ins.length) (h1 : 0 ≤ (gp ins k).1) (h2 : 0 ≤ (gp ins k).2) : upd2 (tabP ins k) (gp ins k).1.toNat (gp ins k).2.toNat true = tabP ins (k + 1) := by
  funext x y
  have hg : gp ins k = ins[k] := (by simp [gp, hk]);simp only [upd2, tabP, List.take_succ_eq_append_getElem hk, List.mem_append, List.mem_singleton, ← hg];by_cases h : x = (gp ins k).1.toNat ∧ y = (gp ins k).2.toNat
  · rw [if_pos h];have : ((x : Int), (y : Int)) = gp ins k := (by obtain ⟨q1, q2⟩ := h; exact Prod.ext (by simp only; omega) (by simp only; omega));simp [this]
  · rw [if_neg h]
    have : ¬ ((x : Int), (y : Int)) = gp ins k := by
      intro hq; apply h;have a1 := congrArg Prod.fst hq; have a2 := congrArg Prod.snd hq;simp only at a1 a2; omega
    simp [this]
def rlRow (p : Nat) (M : Nat → Nat → Bool) (x : Nat) (y : Nat) : List (Int × Int) := ((List.range y).filter (M x)).map fun (y : Nat) => ((x : Int), (y : Int))
def rlT (p : Nat) (M : Nat → Nat → Bool) (x y : Nat) : List (Int × Int) := ((List.range x).flatMap fun x' => rlRow p M x' p) ++ rlRow p M x y
def relP (p : Nat) (M : Nat → Nat → Bool) : List (Int × Int) := (List.range p).flatMap fun x => rlRow p M x p
theorem rlT_zero (p : Nat) (M : Nat → Nat → Bool) : rlT p M 0 0 = [] := by simp [rlT, rlRow]
theorem rlT_y (p : Nat) (M : Nat → Nat → Bool) (x y : Nat) : rlT p M x (y + 1) = if M x y = true then rlT p M x y ++ [((x : Int), (y : Int))] else rlT p M x y := by
  simp only [rlT, rlRow, List.range_succ, List.filter_append, List.map_append];split <;> simp_all
theorem rlT_x (p : Nat) (M : Nat → Nat → Bool) (x : Nat) : rlT p M (x + 1) 0 = rlT p M x p := by
  simp only [rlT, List.range_succ, List.flatMap_append];simp [rlRow]
theorem rlT_end (p : Nat) (M : Nat → Nat → Bool) : rlT p M p 0 = relP p M := by simp [rlT, relP, rlRow]
theorem rlRow_len (p : Nat) (M : Nat → Nat → Bool) (x y : Nat) : (rlRow p M x y).length ≤ y := by
  simp only [rlRow, List.length_map];exact Nat.le_trans (List.length_filter_le _ _) (by simp)
theorem rlT_len (p : Nat) (M : Nat → Nat → Bool) (x y : Nat) : (rlT p M x y).length ≤ x * p + y := by
  simp only [rlT, List.length_append];have h1 := rlRow_len p M x y
  have h2 : ((List.range x).flatMap fun x' => rlRow p M x' p).length ≤ x * p := by
    induction x with
    | zero => simp
    | succ x ih =>
      simp only [List.range_succ, List.flatMap_append, List.length_append];have := rlRow_len p M x p;have ih := ih (rlRow_len p M x y);simp only [List.flatMap_cons, List.flatMap_nil, List.append_nil];rw [Nat.succ_mul]; omega
  omega
theorem rlT_4096 {p x y : Nat} {M : Nat → Nat → Bool} (hp : p ≤ 64) (hx : x < p) (hy : y ≤ p) : (rlT p M x y).length ≤ 4096 := by
  have h1 := rlT_len p M x y;have h2 : x * p ≤ 63 * 64 := Nat.mul_le_mul (by omega) hp;omega
theorem relP_congr {p : Nat} {M M' : Nat → Nat → Bool} (h : ∀ x y, x < p → y < p → M x y = M' x y) : relP p M = relP p M' := by
  unfold relP rlRow;simp only [List.flatMap_def];congr 1;apply List.map_congr_left;intro x hx;simp only [List.mem_range] at hx;congr 1;apply List.filter_congr;intro y hy;exact h x y hx (by simpa using hy)

/-! ## Relations and sets that are new -/
structure RelN (base : Nat) (w : World) (d : RelD) (a1 a2 a3 : Option Addr) (c1 c2 c3 : Nat) : Prop where
  c : New 3 1 base w (.slice a1 d.cells.length c1) d.cells.length (iv d.cells)
  u : New 3 1 base w (.slice a2 d.us.length c2) d.us.length (iv d.us)
  i : New 52 2 base w (.slice a3 d.ins.length c3) d.ins.length (pv d.ins)
  hl : d.cells.length ≤ 1000000 ∧ d.us.length ≤ 1000000 ∧ d.ins.length ≤ 1000000
structure SetN (base : Nat) (w : World) (d : SetD) (a1 a2 a3 : Option Addr) (c1 c2 c3 : Nat) : Prop where
  c : New 3 1 base w (.slice a1 d.cells.length c1) d.cells.length (iv d.cells)
  u : New 3 1 base w (.slice a2 d.us.length c2) d.us.length (iv d.us)
  i : New 3 1 base w (.slice a3 d.ins.length c3) d.ins.length (iv d.ins)
  hl : d.cells.length ≤ 1000000 ∧ d.us.length ≤ 1000000 ∧ d.ins.length ≤ 1000000
def isRelN (base : Nat) (d : RelD) (v : Value) (w : World) : Prop := ∃ a1 a2 a3 c1 c2 c3, v = vR d a1 a2 a3 c1 c2 c3 ∧ RelN base w d a1 a2 a3 c1 c2 c3
def isSetN (base : Nat) (d : SetD) (v : Value) (w : World) : Prop := ∃ a1 a2 a3 c1 c2 c3, v = vS d a1 a2 a3 c1 c2 c3 ∧ SetN base w d a1 a2 a3 c1 c2 c3
section
variable {base base' T : Nat} {w w' : World} {a1 a2 a3 : Option Addr} {c1 c2 c3 b : Nat} {cs : List Value}
theorem RelN.ext {d : RelD} (h : RelN base w d a1 a2 a3 c1 c2 c3) (x : Ext w w') : RelN base w' d a1 a2 a3 c1 c2 c3 := ⟨h.c.ext x, h.u.ext x, h.i.ext x, h.hl⟩
theorem SetN.ext {d : SetD} (h : SetN base w d a1 a2 a3 c1 c2 c3) (x : Ext w w') : SetN base w' d a1 a2 a3 c1 c2 c3 := ⟨h.c.ext x, h.u.ext x, h.i.ext x, h.hl⟩
theorem RelN.lower {d : RelD} (h : RelN base w d a1 a2 a3 c1 c2 c3) (x : base' ≤ base) : RelN base' w d a1 a2 a3 c1 c2 c3 := ⟨h.c.base x, h.u.base x, h.i.base x, h.hl⟩
theorem SetN.lower {d : SetD} (h : SetN base w d a1 a2 a3 c1 c2 c3) (x : base' ≤ base) : SetN base' w d a1 a2 a3 c1 c2 c3 := ⟨h.c.base x, h.u.base x, h.i.base x, h.hl⟩
theorem New.keptS {size n : Nat} {v : Value} {xs : List Value} {T' : Nat} (h : New T' size base w v n xs) (hg : w.grownBy w' (some b)) (hb : Blk w b T cs) (hT : T ≠ T') : New T' size base w' v n xs := by
  rcases h with h | ⟨h0, h⟩
  · exact .inl h
  · exact .inr ⟨h0, h.kept hg (.inr (own_ne h hb hT))⟩
theorem RelN.kept {d : RelD} (h : RelN base w d a1 a2 a3 c1 c2 c3) (hg : w.grownBy w' (some b)) (hb : Blk w b T cs) (h1 : T ≠ 3) (h2 : T ≠ 52) : RelN base w' d a1 a2 a3 c1 c2 c3 := ⟨h.c.keptS hg hb h1, h.u.keptS hg hb h1, h.i.keptS hg hb h2, h.hl⟩
theorem SetN.kept {d : SetD} (h : SetN base w d a1 a2 a3 c1 c2 c3) (hg : w.grownBy w' (some b)) (hb : Blk w b T cs) (h1 : T ≠ 3) : SetN base w' d a1 a2 a3 c1 c2 c3 := ⟨h.c.keptS hg hb h1, h.u.keptS hg hb h1, h.i.keptS hg hb h1, h.hl⟩
theorem New.slp {v : Value} {l : List (Int × Int)} (hl : l.length ≤ 140737488355328) (h : New T 2 base w v l.length (pv l)) : ∃ a c, v = .slice a l.length c ∧ SlP w a l := by
  rcases h with ⟨h0, h1, a, c, rfl⟩ | ⟨h0, h⟩
  · have : l = [] := List.eq_nil_of_length_eq_zero h0;subst this; exact ⟨a, c, rfl, Sl.nil⟩
  · obtain ⟨a, c, h1, h2, _⟩ := own_slp hl h;exact ⟨a, c, h1, h2⟩
theorem New.slI' {a : Option Addr} {l : List Int} {c : Nat} (hl : l.length ≤ 1000000) (h : New T 1 base w (.slice a l.length c) l.length (iv l)) : SlI w a l := by
  obtain ⟨_, _, hq, hs⟩ := New.sli (by omega) h;injection hq with hq _ _; subst hq; exact hs
theorem RelN.ok {d : RelD} (h : RelN base w d a1 a2 a3 c1 c2 c3) : RelOk w d a1 a2 a3 := by
  refine ⟨New.slI' h.hl.1 h.c, New.slI' h.hl.2.1 h.u, ?_⟩;obtain ⟨_, _, hq, hs⟩ := New.slp (by have := h.hl; omega) h.i;injection hq with hq _ _; subst hq; exact hs
theorem SetN.ok {d : SetD} (h : SetN base w d a1 a2 a3 c1 c2 c3) : SetOk w d a1 a2 a3 := ⟨New.slI' h.hl.1 h.c, New.slI' h.hl.2.1 h.u, New.slI' h.hl.2.2 h.i⟩
end
def rel0 : RelD := ⟨[], [], []⟩
def set0 : SetD := ⟨[], [], []⟩
theorem rel0N {base : Nat} {w : World} : isRelN base rel0 (.agg #[.slice none 0 0, .slice none 0 0, .slice none 0 0]) w := ⟨none, none, none, 0, 0, 0, rfl, ⟨New.nil, New.nil, New.nil, by simp [rel0]⟩⟩
theorem set0N {base : Nat} {w : World} : isSetN base set0 (.agg #[.slice none 0 0, .slice none 0 0, .slice none 0 0]) w := ⟨none, none, none, 0, 0, 0, rfl, ⟨New.nil, New.nil, New.nil, by simp [set0]⟩⟩

/-! ## What the functions on relations answer -/
def pw (us : List Int) : Nat := 2 ^ (sumL us).toNat
theorem pw_int (us : List Int) : ((pw us : Nat) : Int) = 2 ^ (sumL us).toNat := by simp [pw]
theorem pw_64 {us : List Int} (h : sumL us ≤ 6) : pw us ≤ 64 := by
  have h1 : (2 : Nat) ^ (sumL us).toNat ≤ 2 ^ 6 := Nat.pow_le_pow_right (by omega) (by omega);exact h1
noncomputable def idR (cs : List CellD) (l : List Int) : RelD := if shE cs l = 0 then ⟨l, wdL cs l, relP (pw (wdL cs l)) fun x y => decide (x = y)⟩ else rel0
def unR (s t : RelD) : RelD := if alikeB s t then ⟨s.cells, s.us, relP (pw s.us) fun x y => tabA s.ins x y || tabA t.ins x y⟩ else rel0
def coR (s t : RelD) : RelD := if alikeB s t then ⟨s.cells, s.us, relP (pw s.us) (thr (pw s.us) (tabA s.ins) (tabA t.ins))⟩ else rel0
def alE (s t : RelD) : Int := if alikeB s t then 0 else 1
def tabQ (M : Nat → Nat → Bool) (ins : List (Int × Int)) (k : Nat) : Nat → Nat → Bool := fun x y => M x y || tabP ins k x y
theorem tabQ_zero (M : Nat → Nat → Bool) (ins : List (Int × Int)) : tabQ M ins 0 = M := by funext x y; simp [tabQ, tabP]
theorem tabQ_all (M : Nat → Nat → Bool) (ins : List (Int × Int)) : tabQ M ins ins.length = fun x y => M x y || tabA ins x y := by funext x y; simp [tabQ, tabP_all]
theorem tabQ_succ {M : Nat → Nat → Bool} {ins : List (Int × Int)} {k : Nat} (hk : k < ins.length) (h1 : 0 ≤ (gp ins k).1) (h2 : 0 ≤ (gp ins k).2) : upd2 (tabQ M ins k) (gp ins k).1.toNat (gp ins k).2.toNat true = tabQ M ins (k + 1) := by
  have h := tabP_succ hk h1 h2
  funext x y
  have hxy := congrFun (congrFun h x) y;simp only [upd2, tabQ] at *;rw [← hxy];split <;> simp
def idP (k : Nat) : Nat → Nat → Bool := fun x y => decide (x = y ∧ x < k)
theorem idP_zero : idP 0 = fun _ _ => false := by funext x y; simp [idP]
theorem idP_succ (k : Nat) : upd2 (idP k) k k true = idP (k + 1) := by
  funext x y
  simp only [upd2, idP];split
  · rename_i h; obtain ⟨rfl, rfl⟩ := h; simp
  · rename_i h; rw [Bool.eq_iff_iff]; simp only [decide_eq_true_eq]; omega
theorem alike_iff {s t : RelD} : alikeB s t = true ↔ relB s = true ∧ relB t = true ∧ s.cells = t.cells ∧ s.us = t.us := by simp [alikeB, and_assoc]
theorem shE_zero {cs : List CellD} {l : List Int} (h : shE cs l = 0) : wdB cs l = true ∧ shB l (wdL cs l) = true ∧ 0 ≤ sumL (wdL cs l) ∧ sumL (wdL cs l) ≤ 6 := by
  unfold shE at h;split at h
  · rename_i hw
    split at h
    · omega
    · have h2 := hw;simp only [wdB, Bool.and_eq_true] at h2;obtain ⟨q1, q2, q3⟩ := shB_iff.1 h2.2;have q4 := shTo_sum q3;refine ⟨hw, h2.2, ?_, by omega⟩;unfold sumL; rw [← q1]; omega
  · omega
end Go.V
