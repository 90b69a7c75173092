/- What the program's operations on sets of states compute. Holds for every program. -/
import Derived.Test.YtfflocidknkciaaGreatDoorGrow
import Derived.Test.YtfflocidknkciaaGreatDoorRel
set_option linter.all false
namespace Go.V
open Go
theorem isSetN.ext {base : Nat} {d : SetD} {v : Value} {w w' : World} (h : isSetN base d v w) (x : Ext w w') : isSetN base d v w' := by
  obtain ⟨a1, a2, a3, c1, c2, c3, rfl, h⟩ := h; exact ⟨a1, a2, a3, c1, c2, c3, rfl, h.ext x⟩
theorem isRelN.ext {base : Nat} {d : RelD} {v : Value} {w w' : World} (h : isRelN base d v w) (x : Ext w w') : isRelN base d v w' := by
  obtain ⟨a1, a2, a3, c1, c2, c3, rfl, h⟩ := h; exact ⟨a1, a2, a3, c1, c2, c3, rfl, h.ext x⟩
theorem isSetN.lower {base base' : Nat} {d : SetD} {v : Value} {w : World} (h : isSetN base d v w) (x : base' ≤ base) : isSetN base' d v w := by
  obtain ⟨a1, a2, a3, c1, c2, c3, rfl, h⟩ := h; exact ⟨a1, a2, a3, c1, c2, c3, rfl, h.lower x⟩
theorem isRelN.lower {base base' : Nat} {d : RelD} {v : Value} {w : World} (h : isRelN base d v w) (x : base' ≤ base) : isRelN base' d v w := by
  obtain ⟨a1, a2, a3, c1, c2, c3, rfl, h⟩ := h; exact ⟨a1, a2, a3, c1, c2, c3, rfl, h.lower x⟩
/-! ## Two bitmaps joined word by word -/
def zipT (f : Nat → Nat → Nat) (ms ns : List Nat) (k : Nat) : List Nat := (List.range 64).map fun i => if i < k then f (gn ms i) (gn ns i) else gn ms i
theorem zipT_len (f : Nat → Nat → Nat) (ms ns : List Nat) (k : Nat) : (zipT f ms ns k).length = 64 := by simp [zipT]
theorem gn_zipT {f : Nat → Nat → Nat} {ms ns : List Nat} {k i : Nat} (hi : i < 64) : gn (zipT f ms ns k) i = if i < k then f (gn ms i) (gn ns i) else gn ms i := by
  simp [zipT, gn, hi]
theorem gn_zipT' {f : Nat → Nat → Nat} {ms ns : List Nat} {k i : Nat} (hi : 64 ≤ i) : gn (zipT f ms ns k) i = 0 := by
  simp [zipT, gn, List.getElem?_eq_none (l := List.range 64) (i := i) (by simpa using hi)]
theorem list_gn {a b : List Nat} (h : a.length = b.length) (he : ∀ i, i < a.length → gn a i = gn b i) : a = b := by
  apply List.ext_getElem h;intro i h1 h2;have := he i h1
  simpa [gn, h1, h2] using this
theorem zipT_zero {f : Nat → Nat → Nat} {ms ns : List Nat} (h : ms.length = 64) : zipT f ms ns 0 = ms :=
  list_gn (by rw [zipT_len, h]) fun i hi => by rw [zipT_len] at hi; rw [gn_zipT hi, if_neg (by omega)]
theorem zipT_set {f : Nat → Nat → Nat} {ms ns : List Nat} {k : Nat} (hk : k < 64) : (zipT f ms ns k).set k (f (gn ms k) (gn ns k)) = zipT f ms ns (k + 1) :=
  list_gn (by simp [zipT]) fun i hi => by
    rw [List.length_set, zipT_len] at hi;rw [gn_set (by rw [zipT_len]; exact hk), gn_zipT hi, gn_zipT hi];by_cases hik : k = i
    · subst hik; rw [if_pos rfl, if_pos (by omega)]
    · rw [if_neg hik];by_cases h2 : i < k
      · rw [if_pos h2, if_pos (by omega)]
      · rw [if_neg h2, if_neg (by omega)]
theorem okW_zip {f : Nat → Nat → Nat} {ms ns : List Nat} {k : Nat} (h1 : okW ms) (h2 : okW ns) (hf : ∀ a b, a < 18446744073709551616 → b < 18446744073709551616 → f a b < 18446744073709551616) : okW (zipT f ms ns k) :=
  ⟨zipT_len _ _ _ _, fun i => by
    by_cases hi : i < 64
    · rw [gn_zipT hi]; split
      · exact hf _ _ (h1.2 i) (h2.2 i)
      · exact h1.2 i
    · rw [gn_zipT' (by omega)]; omega⟩
noncomputable def meB (s t : SetD) : Bool := setB s && setB t && decide (s.cells = t.cells) && decide (s.us = t.us)
noncomputable def meE (s t : SetD) : Int := if meB s t = true then 0 else 1
def mapA (s : SetD) : List Nat := mapW s.ins s.ins.length
noncomputable def meR (f : Nat → Nat → Nat) (s t : SetD) : SetD := if meB s t = true then ⟨s.cells, s.us, lsT (zipT f (mapA s) (mapA t) 64) 4096⟩ else set0
theorem set_4096 {s : SetD} (h : setB s = true) : (∀ i, i < s.ins.length → 0 ≤ gi s.ins i ∧ gi s.ins i < 4096) ∧ s.cells.length ≤ 32 ∧ s.us.length ≤ 32 := by
  obtain ⟨hsh, h12, hri⟩ := setB_iff.1 h;obtain ⟨hcu, hc32, _⟩ := shB_iff.1 hsh;have hp := pow_12 (n := (sumL s.us).toNat) (by omega);have hr := risB_iff.1 hri;refine ⟨fun i hi => ⟨(hr i hi).1, by have := (hr i hi).2.1; omega⟩, hc32, by omega⟩
theorem mapA_ok {s : SetD} (h : setB s = true) : okW (mapA s) := mapW_ok (set_4096 h).1 _ (Nat.le_refl _)
theorem meet_self {s : SetD} : meB s s = setB s := by simp [meB]

theorem New.extB {T T' size base b n : Nat} {w w' : World} {v : Value} {xs cs : List Value} (h : New T size base w v n xs) (x : ExtB [b] w w') (hb : Blk w b T' cs) (hT : T' ≠ T) : New T size base w' v n xs :=
  h.kept (T' := T') (b := b) ⟨x.os, x.tape, x.output, x.size, fun k hk hne => x.block k hk (by simp; intro q; exact hne (by rw [q]))⟩ hb hT
/-! ## The states in which an expression is 1 -/
def ofM (G : Nat → Bool) : Nat → List Nat
  | 0 => List.replicate 64 0
  | k + 1 => if G k = true then addW (ofM G k) k else ofM G k
theorem ofM_zero (G : Nat → Bool) : ofM G 0 = List.replicate 64 0 := rfl
theorem ofM_yes {G : Nat → Bool} {k : Nat} (h : G k = true) : ofM G (k + 1) = addW (ofM G k) k := by simp [ofM, h]
theorem ofM_no {G : Nat → Bool} {k : Nat} (h : G k = false) : ofM G (k + 1) = ofM G k := by simp [ofM, h]
theorem okW_ofM (G : Nat → Bool) : ∀ k, k ≤ 4096 → okW (ofM G k)
  | 0, _ => okW_zero
  | k + 1, h => by
    cases hg : G k with
    | true => rw [ofM_yes hg]; exact okW_add (okW_ofM G k (by omega)) (by omega)
    | false => rw [ofM_no hg]; exact okW_ofM G k (by omega)
theorem bitW_ofM (G : Nat → Bool) (j : Nat) : ∀ k, k ≤ 4096 → bitW (ofM G k) j = (decide (j < k) && G j)
  | 0, _ => by
    have h0 : gn (List.replicate 64 0) (j / 64) = 0 := (by simp only [gn, List.getD_eq_getElem?_getD, List.getElem?_replicate]; split <;> simp);rw [ofM_zero, bitW, h0]; simp
  | k + 1, h => by
    have ih := bitW_ofM G j k (by omega)
    cases hg : G k with
    | true =>
      rw [ofM_yes hg, bitW_add (okW_ofM G k (by omega)) (by omega), ih];by_cases hj : j = k
      · subst hj; simp [hg]
      · have : (j < k + 1) ↔ j < k := (by omega);simp [hj, this]
    | false =>
      rw [ofM_no hg, ih];by_cases hj : j = k
      · subst hj; simp [hg]
      · have : (j < k + 1) ↔ j < k := (by omega);simp [this]
noncomputable def sofG (cs : List CellD) (l : List Int) (e : E) (n : Nat) : Bool := decide (valE e (stL ⟨l, wdL cs l, []⟩ (n : Int) z32) (stL ⟨l, wdL cs l, []⟩ (n : Int) z32) = 1)
noncomputable def sofE (cs : List CellD) (l : List Int) (e : E) : Int :=
  if wdB cs l = false then 1 else if 12 < sumL (wdL cs l) then 2 else if (wfB e && ovB e cs false) = false ∨ e.w ≠ 1 then 60 else if subL (supI 2 e) l = false then 1 else 0
noncomputable def sofR (cs : List CellD) (l : List Int) (e : E) : SetD := if sofE cs l e = 0 then ⟨l, wdL cs l, lsT (ofM (sofG cs l e) (pw (wdL cs l))) 4096⟩ else set0
theorem sofR_err {cs : List CellD} {l : List Int} {e : E} (h : sofE cs l e ≠ 0) : sofR cs l e = set0 := by rw [sofR, if_neg h]
theorem wdB_sh {cs : List CellD} {l : List Int} (h : wdB cs l = true) : shB l (wdL cs l) = true := by
  unfold wdB at h; exact (Bool.and_eq_true_iff.1 h).2
theorem pw_4096 {us : List Int} (h : sumL us ≤ 12) : pw us ≤ 4096 := by
  unfold pw;exact Nat.le_trans (Nat.pow_le_pow_right (by omega) (show (sumL us).toNat ≤ 12 by omega)) (by decide)
/-! ## The constant 0 -/
def c0 : E := .mk 1 1 0 []
theorem c0_node : nodeP c0 := (node_const (e := c0) ⟨by decide, by decide⟩ rfl).2 ⟨rfl, by decide, by decide⟩
theorem c0_wf : wfB c0 = true := wfB_iff.2 ⟨by decide, dpB_iff.2 ⟨by decide, c0_node, fun i hi => absurd hi (by simp [c0, E.ks])⟩⟩
theorem c0_ov (cs : List CellD) : ovB c0 cs false = true := ovB_iff.2 ⟨⟨fun q => absurd q.1 (by decide), fun q => absurd q (by decide)⟩, fun i hi => absurd hi (by simp [c0, E.ks])⟩
theorem c0_sup : supI 2 c0 = [] := by
  unfold supI; rw [if_pos c0_wf]; decide
theorem c0_val (old now : List Int) : valE c0 old now = 0 := by
  rw [valE_eq]; simp [c0, E.op, apL, E.n]
theorem lsT_zero (ms : List Nat) (h : ∀ j, bitW ms j = false) (m : Nat) : lsT ms m = [] := by
  unfold lsT;have : (List.range m).filter (bitW ms) = [] := List.filter_eq_nil_iff.2 fun a _ => (by rw [h a]; simp);rw [this]; rfl
theorem sof_c0 (cs : List CellD) (l : List Int) : sofE cs l c0 = (if wdB cs l = false then 1 else if 12 < sumL (wdL cs l) then 2 else 0) := by
  unfold sofE;rw [c0_wf, c0_ov, c0_sup];simp [c0, E.w, subL]
theorem sofR_c0 {cs : List CellD} {l : List Int} (h : sofE cs l c0 = 0) (h12 : sumL (wdL cs l) ≤ 12) : sofR cs l c0 = ⟨l, wdL cs l, []⟩ := by
  rw [sofR, if_pos h, lsT_zero];intro j;rw [bitW_ofM _ _ _ (pw_4096 h12)];simp [sofG, c0_val]
end Go.V
