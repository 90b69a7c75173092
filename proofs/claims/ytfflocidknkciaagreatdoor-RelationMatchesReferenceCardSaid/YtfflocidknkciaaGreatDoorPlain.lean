/- Plain facts on sets and relations of states. No program in sight. -/
import Derived.Test.YtfflocidknkciaaGreatDoorSets
set_option linter.all false
namespace Go.V
open Go
noncomputable def setB (s : SetD) : Bool := decide (0 ≤ bitsL s.cells s.us 12) && risB s.ins ((2 : Int) ^ (bitsL s.cells s.us 12).toNat)

/-! ## The cells that occur -/
def mk1 (o : Int) (e : E) (l : List Bool) : List Bool := if e.op = o then l.set e.n.toNat true else l
mutual
def mkB (o : Int) : E → List Bool → List Bool
  | .mk op w n ks, l => mkBs o ks (mk1 o (.mk op w n ks) l)
def mkBs (o : Int) : List E → List Bool → List Bool
  | [], l => l
  | k :: ks, l => mkBs o ks (mkB o k l)
end
theorem mkB_eq (o : Int) (e : E) (l : List Bool) : mkB o e l = mkBs o e.ks (mk1 o e l) := by cases e; simp [mkB, E.ks]
theorem mkBs_nil (o : Int) (l : List Bool) : mkBs o [] l = l := by simp [mkBs]
theorem mkBs_append (o : Int) (a b : List E) (l : List Bool) : mkBs o (a ++ b) l = mkBs o b (mkBs o a l) := by
  induction a generalizing l with
  | nil => simp [mkBs]
  | cons k a ih => simp only [List.cons_append, mkBs, ih]
theorem mkBs_take_succ (o : Int) {ks : List E} {k : Nat} (h : k < ks.length) (l : List Bool) : mkBs o (ks.take (k + 1)) l = mkB o (ge ks k) (mkBs o (ks.take k) l) := by
  rw [List.take_succ_eq_append_getElem h, mkBs_append];simp [mkBs, ge, h]
theorem mk1_len (o : Int) (e : E) (l : List Bool) : (mk1 o e l).length = l.length := by unfold mk1; split <;> simp
mutual
theorem mkB_len (o : Int) : ∀ (e : E) (l : List Bool), (mkB o e l).length = l.length
  | .mk op w n ks, l => by simp only [mkB, mkBs_len o ks, mk1_len]
theorem mkBs_len (o : Int) : ∀ (ks : List E) (l : List Bool), (mkBs o ks l).length = l.length
  | [], l => by simp [mkBs]
  | k :: ks, l => by simp only [mkBs, mkBs_len o ks, mkB_len o k]
end
def supL (o : Int) (e : E) : List Int := markL (mkB o e (List.replicate 32 false))
noncomputable def supI (o : Int) (e : E) : List Int := if wfB e then supL o e else []

/-! ## The widths of listed cells -/
def wdL (cs : List CellD) (l : List Int) : List Int := l.map fun c => (gc cs c.toNat).w
def mn32 (cs : List CellD) : Int := if (32 : Int) < (cs.length : Int) then 32 else (cs.length : Int)
def wdB (cs : List CellD) (l : List Int) : Bool := risB l (mn32 cs) && shB l (wdL cs l)
theorem wdL_len (cs : List CellD) (l : List Int) : (wdL cs l).length = l.length := by simp [wdL]
theorem wdL_get {cs : List CellD} {l : List Int} {k : Nat} (h : k < l.length) : gi (wdL cs l) k = (gc cs (gi l k).toNat).w := by simp [wdL, gi, h]
theorem iv_take_succ {l : List Int} {k : Nat} (h : k < l.length) : iv (l.take (k + 1)) = iv (l.take k) ++ [.int .i64 (gi l k)] := by
  rw [List.take_succ_eq_append_getElem h]; simp only [iv, List.map_append, List.map_cons, List.map_nil]; simp [gi, h]
theorem shTo_256 {c u : List Int} (h : shB c u = true) : sumL u ≤ 256 := by
  obtain ⟨h1, h2, h3⟩ := shB_iff.1 h;have := shTo_sum h3;unfold sumL; rw [← h1]; omega
theorem bits256 {c u : List Int} : 0 ≤ bitsL c u 256 ↔ shB c u = true := by
  constructor
  · intro h; exact (bitsL_bd.2.2 h).1
  · intro h;have h1 := shTo_256 h;have h2 := (shB_iff.1 h);have h3 := shTo_sum h2.2.2;unfold bitsL; rw [if_pos ⟨h, h1⟩]; unfold sumL; rw [← h2.1]; omega

theorem ris_len {l : List Int} {b : Int} (h : risTo l b l.length) (hb : b ≤ 32) : l.length ≤ 32 := by
  have key : ∀ i, i < l.length → (i : Int) ≤ gi l i := by
    intro i
    induction i with
    | zero => intro hi; exact (h 0 hi).1
    | succ i ih => intro hi; have h1 := ih (by omega); have h2 := (h (i + 1) hi).2.2 (by omega); simp at h2; omega
  rcases Nat.eq_zero_or_pos l.length with h0 | h0
  · omega
  · have h1 := key (l.length - 1) (by omega); have h2 := (h (l.length - 1) (by omega)).2.1; omega
theorem pow_12 {n : Nat} (h : n ≤ 12) : (2 : Int) ^ n ≤ 4096 := by
  have h1 : (2 : Nat) ^ n ≤ 2 ^ 12 := Nat.pow_le_pow_right (by omega) h;have e : ((2 ^ n : Nat) : Int) = (2 : Int) ^ n := (by simp);omega
/-! ## The state with a number -/
def stp (c u : List Int) (k : Nat) (p : List Int × Int) : List Int × Int :=
  (if gi c k < p.1.length then p.1.set (gi c k).toNat (p.2 % 2 ^ (gi u k).toNat) else p.1, p.2 / 2 ^ (gi u k).toNat)
def stT (c u base : List Int) (n : Int) : Nat → List Int × Int
  | 0 => (base, n)
  | k + 1 => stp c u k (stT c u base n k)
def stL (s : SetD) (n : Int) (base : List Int) : List Int := (stT s.cells s.us base n s.cells.length).1
theorem stT_len (c u base : List Int) (n : Int) : ∀ k, (stT c u base n k).1.length = base.length
  | 0 => rfl
  | k + 1 => by simp only [stT, stp]; split <;> simp [stT_len c u base n k]
theorem stT_bd (c u base : List Int) (n : Int) (h : 0 ≤ n) : ∀ k, 0 ≤ (stT c u base n k).2 ∧ (stT c u base n k).2 ≤ n
  | 0 => ⟨h, Int.le_refl _⟩
  | k + 1 => by
    obtain ⟨h1, h2⟩ := stT_bd c u base n h k;have hp : (0 : Int) < 2 ^ (gi u k).toNat := Int.pow_pos (by omega);exact ⟨Int.ediv_nonneg h1 (by omega), Int.le_trans (Int.ediv_le_self _ h1) h2⟩
theorem stT_next {c u base : List Int} {n : Int} {k : Nat} {l : List Int} {m : Int} (h1 : l = if gi c k < (stT c u base n k).1.length then (stT c u base n k).1.set (gi c k).toNat ((stT c u base n k).2 % 2 ^ (gi u k).toNat) else (stT c u base n k).1)
    (h2 : m = (stT c u base n k).2 / 2 ^ (gi u k).toNat) : (l, m) = stT c u base n (k + 1) := by simp only [stT, stp, h1, h2]

/-! ## Tables of truth values -/
def tabT (p : Nat) (ins : List Int) (k : Nat) : List Bool := (List.range p).map fun (i : Nat) => decide ((i : Int) ∈ ins.take k)
def tabL (p : Nat) (ins : List Int) : List Bool := (List.range p).map fun (i : Nat) => decide ((i : Int) ∈ ins)
theorem tabT_len (p : Nat) (ins : List Int) (k : Nat) : (tabT p ins k).length = p := by simp [tabT]
theorem tabL_len (p : Nat) (ins : List Int) : (tabL p ins).length = p := by simp [tabL]
theorem tabT_zero (p : Nat) (ins : List Int) : tabT p ins 0 = List.replicate p false := by
  apply List.ext_getElem <;> simp [tabT]
theorem tabT_all (p : Nat) (ins : List Int) : tabT p ins ins.length = tabL p ins := by simp [tabT, tabL]
theorem tabT_succ {p : Nat} {ins : List Int} {k : Nat} (hk : k < ins.length) (h0 : 0 ≤ gi ins k) : (tabT p ins k).set (gi ins k).toNat true = tabT p ins (k + 1) := by
  apply List.ext_getElem
  · simp [tabT]
  · intro i h1 h2;simp only [tabT, List.getElem_set, List.getElem_map, List.getElem_range, List.take_succ_eq_append_getElem hk, List.mem_append, List.mem_singleton];have hg : gi ins k = ins[k] := (by simp [gi, hk]);by_cases h : (gi ins k).toNat = i
    · simp [h]; right; omega
    · simp [h];have : ¬ (i : Int) = ins[k] := (by omega);simp [this]
theorem tabL_get {p : Nat} {ins : List Int} {i : Nat} (h : i < p) : gb (tabL p ins) i = decide ((i : Int) ∈ ins) := by simp [gb, tabL, h]
end Go.V
