/- Leaves of expressions, values read from arrays, the greatest numbers of the widths. Holds for every program. -/
import Derived.Test.YtfflocidknkciaaGreatDoorExpr
set_option linter.all false
namespace Go.V
open Go
section
variable {P : Program} {n : Nat} {e : Env} {w : World} {ty : TypeId} {x y : Operand}
theorem X_indexV {t el len : Nat} {k : IntKind} {i : Int} {cs : List Value} {v : Value} (j : Nat) (ht : P.underlying t = some (.array len el)) (ha : ∀ w, (isAgg el).run P w = .ok false w) (hz : ∀ w, (sizeOf el).run P w = .ok 1 w)
    (hx : ev n e x = .agg cs.toArray) (hy : ev n e y = .int k i) (hj : i = (j : Int)) (h1 : j < len) (hv : cs[j]? = some v) : Ex P n (.index t x y) ty e w v w := by
  refine ⟨by simp, ?_⟩;subst hj;have h0 : (j : Int) < (len : Int) := (by omega);simp [execOp, mkOp, hx, hy, Instr.index, asIntOf, Sem.run_bind, run_underlying ht, hz, Result.andThen, h1, part, ha, hv]
variable {r : Option Nat} {ds : List Deferred} {ops : Array Oper} {pos : String} {af : Array Edge} {g : Option (Nat × Bool)}
theorem R_buildS {dst : Option Nat} {B t el len sz : Nat} {z : Value} {l : List (Nat × Operand)} (ht : P.underlying t = some (.slice el)) (hsz : ∀ w, (sizeOf el).run P w = .ok sz w) (hz : ∀ w, (zeroValue el).run P w = .ok z w)
    (hlen : len * sz ≤ 4096) (z0 : List Value) (hz0 : (madeCells z.cells (len * sz)).toList = z0) (cs : List Value) (hf : fillL (fun i => some (i * sz, sz)) z0 (partsOf n e l) = some cs) (hB : B ≤ w.heap.size) :
    OpR P r n ⟨dst, .buildSlice t len l.toArray, ty, pos, af, g⟩ e w (fun v w' => isMade B el len cs v w' ∧ Ext w w') :=
  R_x (X_buildSlice ht hsz hz hlen z0 hz0 cs hf) ⟨⟨_, rfl, hB, Blk.new w el cs⟩, ext_alloc w _⟩
end
theorem bv_at {l : List Bool} {k : Nat} (h : k < l.length) : (bv l)[k]? = some (.bool (gb l k)) := by simp [bv, gb, h]
/-- The four cells of a node. -/
abbrev NC (e : E) (a : Option Addr) (c : Nat) : List Value := [.int .i64 e.op, .int .i64 e.w, .int .i64 e.n, .slice a e.ks.length c]

/-! ## Widths of kids -/
def wideTo (ks : List E) (l : List Int) (m : Nat) : Prop := ∀ i, i < m → (ge ks i).w = gi l i
open Classical in
noncomputable def wideB (ks : List E) (l : List Int) : Bool := decide (ks.length = l.length ∧ wideTo ks l l.length)
theorem wideTo_succ {ks : List E} {l : List Int} {k : Nat} (h : wideTo ks l k) (h1 : (ge ks k).w = gi l k) : wideTo ks l (k + 1) := fun i hi => by
  by_cases hik : i = k
  · subst hik; exact h1
  · exact h i (by omega)
theorem wideB_iff {ks : List E} {l : List Int} : wideB ks l = true ↔ ks.length = l.length ∧ wideTo ks l l.length := by simp only [wideB, decide_eq_true_eq]
theorem wideB_no {ks : List E} {l : List Int} (h : ks.length ≠ l.length ∨ ∃ k, k < l.length ∧ (ge ks k).w ≠ gi l k) : wideB ks l = false := by
  cases hq : wideB ks l with
  | false => rfl
  | true =>
    obtain ⟨q1, q2⟩ := wideB_iff.1 hq;rcases h with h | ⟨k, hk, h⟩
    · exact absurd q1 h
    · exact absurd (q2 k hk) h
theorem wide1 {ks : List E} {a : Int} : wideB ks [a] = true ↔ ks.length = 1 ∧ (ge ks 0).w = a := by
  rw [wideB_iff];constructor
  · rintro ⟨h1, h2⟩; exact ⟨h1, h2 0 (by simp)⟩
  · rintro ⟨h1, h2⟩
    refine ⟨h1, fun i hi => ?_⟩;have : i = 0 := (by simp only [List.length_cons, List.length_nil] at hi; omega);subst this; exact h2
theorem wide2 {ks : List E} {a b : Int} : wideB ks [a, b] = true ↔ ks.length = 2 ∧ (ge ks 0).w = a ∧ (ge ks 1).w = b := by
  rw [wideB_iff];constructor
  · rintro ⟨h1, h2⟩; exact ⟨h1, h2 0 (by simp), h2 1 (by simp)⟩
  · rintro ⟨h1, h2, h3⟩; exact ⟨h1, fun i hi => by
      have : i = 0 ∨ i = 1 := (by simp only [List.length_cons, List.length_nil] at hi; omega);rcases this with rfl | rfl
      · exact h2
      · exact h3⟩
theorem wide3 {ks : List E} {a b c : Int} : wideB ks [a, b, c] = true ↔ ks.length = 3 ∧ (ge ks 0).w = a ∧ (ge ks 1).w = b ∧ (ge ks 2).w = c := by
  rw [wideB_iff];constructor
  · rintro ⟨h1, h2⟩; exact ⟨h1, h2 0 (by simp), h2 1 (by simp), h2 2 (by simp)⟩
  · rintro ⟨h1, h2, h3, h4⟩; exact ⟨h1, fun i hi => by
      have : i = 0 ∨ i = 1 ∨ i = 2 := (by simp only [List.length_cons, List.length_nil] at hi; omega);rcases this with rfl | rfl | rfl
      · exact h2
      · exact h3
      · exact h4⟩

/-! ## The greatest numbers of the widths -/
def mkV : List Value := iv [0, 1, 3, 7, 15, 31, 63, 127, 255]
theorem mask_cell {w : World} {W : Int} (h : Cells w 0 0 mkV) (h0 : 0 ≤ W ∧ W ≤ 8) : Cell w 0 (0 + W.toNat * 1) (.int .i64 (2 ^ W.toNat - 1)) := by
  obtain ⟨j, rfl⟩ : ∃ j : Nat, W = j := ⟨W.toNat, by omega⟩;have hj : j = 0 ∨ j = 1 ∨ j = 2 ∨ j = 3 ∨ j = 4 ∨ j = 5 ∨ j = 6 ∨ j = 7 ∨ j = 8 := (by omega);rcases hj with rfl | rfl | rfl | rfl | rfl | rfl | rfl | rfl | rfl <;> exact h _ _ rfl

/-! ## Leaves -/
mutual
def lvs : E → List E
  | .mk op w n ks => (if ks.length = 0 then [.mk op w n ks] else []) ++ lvss ks
def lvss : List E → List E
  | [] => []
  | k :: ks => lvs k ++ lvss ks
end
theorem lvs_eq (e : E) : lvs e = (if e.ks.length = 0 then [e] else []) ++ lvss e.ks := by cases e; simp [lvs, E.ks]
theorem lvss_append (a b : List E) : lvss (a ++ b) = lvss a ++ lvss b := by
  induction a with
  | nil => simp [lvss]
  | cons k a ih => simp only [List.cons_append, lvss, ih, List.append_assoc]
theorem lvss_take_succ {ks : List E} {k : Nat} (h : k < ks.length) : lvss (ks.take (k + 1)) = lvss (ks.take k) ++ lvs (ge ks k) := by
  rw [List.take_succ_eq_append_getElem h, lvss_append];simp [lvss, ge, h]
theorem dpB_open {op w n lim : Int} {ks : List E} (h : dpB (.mk op w n ks) lim = true) : nodeP (.mk op w n ks) ∧ dpBs ks (lim - 1) = true := by
  simp only [dpB, Bool.and_eq_true] at h;exact ⟨nodeB_iff.1 h.1.2, h.2⟩
theorem dpBs_open {k : E} {ks : List E} {lim : Int} (h : dpBs (k :: ks) lim = true) : dpB k lim = true ∧ dpBs ks lim = true := by
  simpa only [dpBs, Bool.and_eq_true] using h
mutual
theorem mkB_lvs (o : Int) (ho : o = 2 ∨ o = 3) : ∀ (e : E) (lim : Int) (l : List Bool), dpB e lim = true → mkB o e l = (lvs e).foldl (fun l x => mk1 o x l) l
  | .mk op w n ks, lim, l, h => by
    obtain ⟨h1, h2⟩ := dpB_open h;obtain ⟨_, ⟨a1, a2, a3, a4, a5, a6⟩, _⟩ := h1;simp only [mkB, lvs];rw [mkBs_lvss o ho ks (lim - 1) _ h2];by_cases h0 : ks.length = 0
    · rw [if_pos h0]; simp
    · rw [if_neg h0, List.nil_append];simp only [E.op, E.ks] at a1 a2 a3 a4 a5 a6;have : op ≠ o := (by intro hq; exact h0 (a1 (by omega)));rw [mk1, if_neg (by simpa [E.op] using this)]
theorem mkBs_lvss (o : Int) (ho : o = 2 ∨ o = 3) : ∀ (ks : List E) (lim : Int) (l : List Bool), dpBs ks lim = true → mkBs o ks l = (lvss ks).foldl (fun l x => mk1 o x l) l
  | [], lim, l, h => by simp [mkBs, lvss]
  | k :: ks, lim, l, h => by
    obtain ⟨h1, h2⟩ := dpBs_open h;simp only [mkBs, lvss, List.foldl_append];rw [mkB_lvs o ho k lim l h1, mkBs_lvss o ho ks lim _ h2]
end
theorem ovN_iff {x : E} {cs : List CellD} {pair : Bool} : ovN x cs pair = true ↔ ovOk x cs pair := by simp only [ovN, decide_eq_true_eq]
mutual
theorem ovB_lvs (cs : List CellD) (pair : Bool) : ∀ (e : E) (lim : Int), dpB e lim = true → ovB e cs pair = (lvs e).all (fun x => ovN x cs pair)
  | .mk op w n ks, lim, h => by
    obtain ⟨h1, h2⟩ := dpB_open h;obtain ⟨_, ⟨a1, a2, a3, a4, a5, a6⟩, _⟩ := h1;simp only [ovB, lvs];rw [ovBs_lvss cs pair ks (lim - 1) h2, List.all_append];by_cases h0 : ks.length = 0
    · rw [if_pos h0]; simp
    · rw [if_neg h0];simp only [E.op, E.ks] at a1 a2 a3 a4 a5 a6
      have : ovN (.mk op w n ks) cs pair = true := by
        have g : 4 ≤ op := by
          apply Classical.byContradiction; intro hq; exact h0 (a1 (by omega))
        rw [ovN_iff]; simp only [ovOk, E.op];exact ⟨fun q => by omega, fun q => by omega⟩
      rw [this]; simp
theorem ovBs_lvss (cs : List CellD) (pair : Bool) : ∀ (ks : List E) (lim : Int), dpBs ks lim = true → ovBs ks cs pair = (lvss ks).all (fun x => ovN x cs pair)
  | [], lim, h => by simp [ovBs, lvss]
  | k :: ks, lim, h => by
    obtain ⟨h1, h2⟩ := dpBs_open h;simp only [ovBs, lvss, List.all_append];rw [ovB_lvs cs pair k lim h1, ovBs_lvss cs pair ks lim h2]
end
theorem mk_fold_len (o : Int) (q : List E) : ∀ l : List Bool, (q.foldl (fun l x => mk1 o x l) l).length = l.length := by
  induction q with
  | nil => intro l; rfl
  | cons a q ih => intro l; rw [List.foldl_cons, ih, mk1_len]
/-- A leaf: what its node says. -/
theorem leaf_ops {e : E} (h : nodeP e) (h0 : e.ks.length = 0) : 1 ≤ e.op ∧ e.op ≤ 3 ∧ 0 ≤ e.n ∧ (e.op = 2 ∨ e.op = 3 → e.n < 32) := by
  obtain ⟨_, ⟨a1, a2, a3, a4, a5, a6⟩, b1, b2, _⟩ := h
  have : e.op ≤ 3 := by
    apply Classical.byContradiction; intro hq;by_cases h4 : e.op = 4
    · have := a2 h4; omega
    · by_cases h14 : e.op = 14
      · have := a4 h14; omega
      · have := a3 (by omega); omega
  refine ⟨a5, this, ?_, fun q => (b2 q).2⟩;by_cases h1 : e.op = 1
  · exact (b1 h1).1
  · exact (b2 (by omega)).1
/-- What a visit of a leaf asks of it. -/
theorem leaf_ov {x : E} {cs : List CellD} {pair : Bool} (h : nodeP x) (h0 : x.ks.length = 0) : ovN x cs pair = true ↔ (x.op = 1 ∨ (x.n < cs.length ∧ (gc cs x.n.toNat).w = x.w ∧ ¬ (x.op = 3 ∧ pair = false))) := by
  obtain ⟨l1, l2, l3, l4⟩ := leaf_ops h h0;rw [ovN_iff]; unfold ovOk;constructor
  · rintro ⟨q1, q2⟩
    by_cases h1 : x.op = 1
    · exact .inl h1
    · have := q2 (by omega); exact .inr ⟨this.1, this.2, q1⟩
  · rintro (q | ⟨q1, q2, q3⟩)
    · exact ⟨fun r => by omega, fun r => by omega⟩
    · exact ⟨q3, fun _ => ⟨q1, q2⟩⟩
/-! ## A node by its operator -/
theorem node_w {e : E} (h : e.w < 1 ∨ 8 < e.w) : nodeB e = false := by
  cases hq : nodeB e with
  | false => rfl
  | true => have := (nodeB_iff.1 hq).1; omega
theorem node_const {e : E} (hw : 1 ≤ e.w ∧ e.w ≤ 8) (h : e.op = 1) : nodeP e ↔ e.ks.length = 0 ∧ 0 ≤ e.n ∧ e.n < 2 ^ e.w.toNat :=
  have g : 1 ≤ e.op ∧ e.op ≤ 3 := by omega
  ⟨fun ⟨_, ⟨a1, _⟩, b1, _⟩ => ⟨a1 g, (b1 h).1, (b1 h).2⟩, fun ⟨q1, q2, q3⟩ => ⟨hw, ⟨fun _ => q1, fun _ => by omega, fun _ => by omega, fun _ => by omega, by omega, by omega⟩, fun _ => ⟨q2, q3⟩, fun _ => by omega, fun _ => by omega, fun _ => by omega, fun _ => by omega, fun _ => by omega, fun _ => by omega⟩⟩
theorem node_cell {e : E} (hw : 1 ≤ e.w ∧ e.w ≤ 8) (h : e.op = 2 ∨ e.op = 3) : nodeP e ↔ e.ks.length = 0 ∧ 0 ≤ e.n ∧ e.n < 32 :=
  have g : 1 ≤ e.op ∧ e.op ≤ 3 := by omega
  ⟨fun ⟨_, ⟨a1, _⟩, _, b2, _⟩ => ⟨a1 g, (b2 h).1, (b2 h).2⟩, fun ⟨q1, q2, q3⟩ => ⟨hw, ⟨fun _ => q1, fun _ => by omega, fun _ => by omega, fun _ => by omega, by omega, by omega⟩, fun _ => by omega, fun _ => ⟨q2, q3⟩, fun _ => by omega, fun _ => by omega, fun _ => by omega, fun _ => by omega, fun _ => by omega⟩⟩
theorem node_n {e : E} (h1 : e.op ≠ 1) (h2 : e.op ≠ 2) (h3 : e.op ≠ 3) (hn : e.n ≠ 0) : nodeB e = false := by
  cases hq : nodeB e with
  | false => rfl
  | true =>
    have g := (nodeB_iff.1 hq).2.1.2.2.2.2.1;exact absurd ((nodeB_iff.1 hq).2.2.2.2.1 (by omega)) hn
theorem node_not {e : E} (hw : 1 ≤ e.w ∧ e.w ≤ 8) (hn : e.n = 0) (h : e.op = 4) : nodeP e ↔ e.ks.length = 1 ∧ (ge e.ks 0).w = e.w :=
  ⟨fun ⟨_, ⟨_, a2, _⟩, _, _, _, b4, _⟩ => ⟨a2 h, b4 h⟩, fun ⟨q1, q2⟩ => ⟨hw, ⟨fun _ => by omega, fun _ => q1, fun _ => by omega, fun _ => by omega, by omega, by omega⟩, fun _ => by omega, fun _ => by omega, fun _ => hn, fun _ => q2, fun _ => by omega, fun _ => by omega, fun _ => by omega⟩⟩
theorem node_bin {e : E} (hw : 1 ≤ e.w ∧ e.w ≤ 8) (hn : e.n = 0) (h : 5 ≤ e.op ∧ e.op ≤ 10) : nodeP e ↔ e.ks.length = 2 ∧ (ge e.ks 0).w = e.w ∧ (ge e.ks 1).w = e.w :=
  ⟨fun ⟨_, ⟨_, _, a3, _⟩, _, _, _, _, b5, _⟩ => ⟨a3 ⟨h.1, Int.le_trans h.2 (by decide)⟩, b5 h⟩, fun ⟨q1, q2⟩ => ⟨hw, ⟨fun _ => by omega, fun _ => by omega, fun _ => q1, fun _ => by omega, by omega, by omega⟩, fun _ => by omega, fun _ => by omega, fun _ => hn, fun _ => by omega, fun _ => q2, fun _ => by omega, fun _ => by omega⟩⟩
theorem node_cmp {e : E} (hw : 1 ≤ e.w ∧ e.w ≤ 8) (hn : e.n = 0) (h : 11 ≤ e.op ∧ e.op ≤ 13) : nodeP e ↔ e.w = 1 ∧ e.ks.length = 2 ∧ (ge e.ks 0).w = (ge e.ks 1).w :=
  ⟨fun ⟨_, ⟨_, _, a3, _⟩, _, _, _, _, _, b6, _⟩ => ⟨(b6 h).1, a3 ⟨Int.le_trans (by decide) h.1, h.2⟩, (b6 h).2⟩, fun ⟨q0, q1, q2⟩ => ⟨hw, ⟨fun _ => by omega, fun _ => by omega, fun _ => q1, fun _ => by omega, by omega, by omega⟩, fun _ => by omega, fun _ => by omega, fun _ => hn, fun _ => by omega, fun _ => by omega, fun _ => ⟨q0, q2⟩, fun _ => by omega⟩⟩
theorem node_ite {e : E} (hw : 1 ≤ e.w ∧ e.w ≤ 8) (hn : e.n = 0) (h : e.op = 14) : nodeP e ↔ e.ks.length = 3 ∧ (ge e.ks 0).w = 1 ∧ (ge e.ks 1).w = e.w ∧ (ge e.ks 2).w = e.w :=
  ⟨fun ⟨_, ⟨_, _, _, a4, _⟩, _, _, _, _, _, _, b7⟩ => ⟨a4 h, b7 h⟩, fun ⟨q1, q2⟩ => ⟨hw, ⟨fun _ => by omega, fun _ => by omega, fun _ => by omega, fun _ => q1, by omega, by omega⟩, fun _ => by omega, fun _ => by omega, fun _ => hn, fun _ => by omega, fun _ => by omega, fun _ => by omega, fun _ => q2⟩⟩
theorem node_op {e : E} (h : e.op < 1 ∨ 14 < e.op) : nodeB e = false := by
  cases hq : nodeB e with
  | false => rfl
  | true => have := (nodeB_iff.1 hq).2.1.2.2.2.2; omega

/-! ## Well-formedness by counting -/
noncomputable def wfR (e : E) (dep cnt : Int) : Bool := dpB e (41 - dep) && decide (cnt + (esize e : Int) ≤ 600)
theorem wfR_iff {e : E} {dep cnt : Int} : wfR e dep cnt = true ↔ dpB e (41 - dep) = true ∧ cnt + (esize e : Int) ≤ 600 := by simp [wfR]
theorem wfR_no1 {e : E} {dep cnt : Int} (h : 600 < cnt + 1 ∨ 40 < dep ∨ nodeB e = false) : wfR e dep cnt = false := by
  cases hq : wfR e dep cnt with
  | false => rfl
  | true =>
    obtain ⟨q1, q2⟩ := wfR_iff.1 hq;have := esize_pos e;rcases h with h | h | h
    · omega
    · have := (dpB_iff.1 q1).1; omega
    · rw [nodeB_iff.2 (dpB_iff.1 q1).2.1] at h; cases h
theorem wfR_no2 {e : E} {dep cnt : Int} {k : Nat} (hk : k < e.ks.length) (h : wfR (ge e.ks k) (dep + 1) (cnt + 1 + (esizes (e.ks.take k) : Nat)) = false) : wfR e dep cnt = false := by
  cases hq : wfR e dep cnt with
  | false => rfl
  | true =>
    obtain ⟨q1, q2⟩ := wfR_iff.1 hq;have h1 := (dpB_iff.1 q1).2.2 k hk;have h2 := esizes_take_succ hk;have h3 := esizes_take_le e.ks (k + 1);have h4 := esize_eq e;have : wfR (ge e.ks k) (dep + 1) (cnt + 1 + (esizes (e.ks.take k) : Nat)) = true := wfR_iff.2 ⟨by rw [show (41 - (dep + 1) : Int) = 41 - dep - 1 by omega]; exact h1, by omega⟩;rw [this] at h; cases h
theorem wfR_yes {e : E} {dep cnt : Int} (h1 : dep ≤ 40) (h2 : nodeB e = true) (h3 : dpTo e.ks (41 - dep - 1) e.ks.length) (h4 : cnt + 1 + (esizes e.ks : Nat) ≤ 600) : wfR e dep cnt = true := by
  have := esize_eq e;exact wfR_iff.2 ⟨dpB_true (by omega) h2 h3, by omega⟩
theorem wfR_wf (e : E) : wfR e 1 0 = wfB e := by
  rw [Bool.eq_iff_iff, wfR_iff, wfB_iff];constructor
  · rintro ⟨h1, h2⟩; exact ⟨by omega, h1⟩
  · rintro ⟨h1, h2⟩; exact ⟨h2, by omega⟩

/-! ## The values of a node's kids -/
def v3 (vs : List Int) (k : Nat) : List Int := [if 0 < k then gi vs 0 else 0, if 1 < k then gi vs 1 else 0, if 2 < k then gi vs 2 else 0]
theorem v3_zero (vs : List Int) : [Value.int .i64 0, Value.int .i64 0, Value.int .i64 0] = iv (v3 vs 0) := rfl
theorem v3_set {vs : List Int} {k : Nat} {z : Int} (h : k < 3) (hz : z = gi vs k) : (v3 vs k).set k z = v3 vs (k + 1) := by
  subst hz;have : k = 0 ∨ k = 1 ∨ k = 2 := (by omega);rcases this with rfl | rfl | rfl <;> simp [v3]
theorem gi_out {l : List Int} {i : Nat} (h : l.length ≤ i) : gi l i = 0 := by simp [gi, h]
theorem v3_end {vs : List Int} {k : Nat} (h : vs.length = k) : iv (v3 vs k) = [Value.int .i64 (gi vs 0), Value.int .i64 (gi vs 1), Value.int .i64 (gi vs 2)] := by
  have key : ∀ i, (if i < k then gi vs i else 0) = gi vs i := fun i => by
    by_cases hi : i < k
    · rw [if_pos hi]
    · rw [if_neg hi, gi_out (by omega)]
  simp only [v3, iv, List.map_cons, List.map_nil, key]
theorem vs_bd {e : E} {old now : List Int} {lim : Int} (hd : dpB e lim = true) (i : Nat) : 0 ≤ gi (valEs e.ks old now) i ∧ gi (valEs e.ks old now) i ≤ 255 := by
  by_cases hi : i < e.ks.length
  · have := inR_small (vals_inR (old := old) (now := now) hd) hi; omega
  · rw [gi_out (by rw [valEs_len]; omega)]; omega
theorem kids3 {e : E} (h : nodeP e) : e.ks.length ≤ 3 := by
  obtain ⟨_, ⟨a1, a2, a3, a4, a5, a6⟩, _⟩ := h;by_cases h1 : e.op ≤ 3
  · have := a1 ⟨a5, h1⟩; omega
  · by_cases h4 : e.op = 4
    · have := a2 h4; omega
    · by_cases h14 : e.op = 14
      · have := a4 h14; omega
      · have := a3 ⟨by omega, by omega⟩; omega
theorem leaf_n {e : E} (h : nodeP e) (h2 : e.op = 2 ∨ e.op = 3) : 0 ≤ e.n := (h.2.2.2.1 h2).1
end Go.V
