/- What the functions on relations answer: images, insides, closures; rows kept beside tables. No program in sight. -/
import Derived.Test.YtfflocidknkciaaGreatDoorTab
set_option linter.all false
namespace Go.V
open Go
abbrev isNewI (base : Nat) (l : List Int) (v : Value) (w : World) : Prop := New 3 1 base w v l.length (iv l)
def imT (p : Nat) (rs : List (Int × Int)) (ins : List Int) (k : Nat) : List Bool := (List.range p).map fun (y : Nat) => (rs.take k).any fun q => decide (q.2 = (y : Int)) && decide (q.1 ∈ ins)
def imL (p : Nat) (rs : List (Int × Int)) (ins : List Int) : List Bool := (List.range p).map fun (y : Nat) => rs.any fun q => decide (q.2 = (y : Int)) && decide (q.1 ∈ ins)
def inT (p : Nat) (rs : List (Int × Int)) (ins : List Int) (k : Nat) : List Bool := (List.range p).map fun (x : Nat) => decide ((x : Int) ∈ ins) && (rs.take k).all fun q => !decide (q.1 = (x : Int)) || decide (q.2 ∈ ins)
def inL (p : Nat) (rs : List (Int × Int)) (ins : List Int) : List Bool := (List.range p).map fun (x : Nat) => decide ((x : Int) ∈ ins) && rs.all fun q => !decide (q.1 = (x : Int)) || decide (q.2 ∈ ins)
theorem imT_len (p : Nat) (rs : List (Int × Int)) (ins : List Int) (k : Nat) : (imT p rs ins k).length = p := by simp [imT]
theorem inT_len (p : Nat) (rs : List (Int × Int)) (ins : List Int) (k : Nat) : (inT p rs ins k).length = p := by simp [inT]
theorem imL_len (p : Nat) (rs : List (Int × Int)) (ins : List Int) : (imL p rs ins).length = p := by simp [imL]
theorem inL_len (p : Nat) (rs : List (Int × Int)) (ins : List Int) : (inL p rs ins).length = p := by simp [inL]
theorem imT_zero (p : Nat) (rs : List (Int × Int)) (ins : List Int) : List.replicate p false = imT p rs ins 0 := by apply List.ext_getElem <;> simp [imT]
theorem inT_zero (p : Nat) (rs : List (Int × Int)) (ins : List Int) : tabL p ins = inT p rs ins 0 := by simp [inT, tabL]
theorem imT_all (p : Nat) (rs : List (Int × Int)) (ins : List Int) : imT p rs ins rs.length = imL p rs ins := by simp [imT, imL]
theorem inT_all (p : Nat) (rs : List (Int × Int)) (ins : List Int) : inT p rs ins rs.length = inL p rs ins := by simp [inT, inL]
theorem gp_some {l : List (Int × Int)} {k : Nat} (h : k < l.length) : gp l k = l[k] := by simp [gp, h]
theorem imT_succ {p : Nat} {rs : List (Int × Int)} {ins : List Int} {k : Nat} {b : Bool} (hk : k < rs.length) (h1 : 0 ≤ (gp rs k).1) (h1' : (gp rs k).1 < p) (h2 : 0 ≤ (gp rs k).2)  (h2' : (gp rs k).2 < p)
    (hb : b = (gb (imT p rs ins k) (gp rs k).2.toNat || gb (tabL p ins) (gp rs k).1.toNat)) : (imT p rs ins k).set (gp rs k).2.toNat b = imT p rs ins (k + 1) := by
  rw [tabL_get (by omega), show (((gp rs k).1.toNat : Nat) : Int) = (gp rs k).1 by omega] at hb;apply List.ext_getElem
  · simp [imT]
  · intro i hi1 hi2;simp only [imT, List.getElem_set, List.getElem_map, List.getElem_range, List.take_succ_eq_append_getElem hk, List.any_append, List.any_cons, List.any_nil, Bool.or_false, ← gp_some hk];by_cases h : (gp rs k).2.toNat = i
    · subst h;rw [if_pos rfl, hb]
      have : gb (imT p rs ins k) (gp rs k).2.toNat = (rs.take k).any fun q => decide (q.2 = (((gp rs k).2.toNat : Nat) : Int)) && decide (q.1 ∈ ins) := by
        simp [gb, imT, show (gp rs k).2.toNat < p by omega]
      rw [this];have h3 : decide ((gp rs k).2 = (((gp rs k).2.toNat : Nat) : Int)) = true := (by simp; omega);rw [h3]; simp
    · rw [if_neg h];have : decide ((gp rs k).2 = (i : Int)) = false := (by simp; omega);rw [this]; simp
theorem inT_succ {p : Nat} {rs : List (Int × Int)} {ins : List Int} {k : Nat} {b : Bool} (hk : k < rs.length) (h1 : 0 ≤ (gp rs k).1) (h1' : (gp rs k).1 < p) (h2 : 0 ≤ (gp rs k).2) (h2' : (gp rs k).2 < p)
    (hb : b = (gb (inT p rs ins k) (gp rs k).1.toNat && gb (tabL p ins) (gp rs k).2.toNat)) : (inT p rs ins k).set (gp rs k).1.toNat b = inT p rs ins (k + 1) := by
  rw [tabL_get (by omega), show (((gp rs k).2.toNat : Nat) : Int) = (gp rs k).2 by omega] at hb;apply List.ext_getElem
  · simp [inT]
  · intro i hi1 hi2;simp only [inT, List.getElem_set, List.getElem_map, List.getElem_range, List.take_succ_eq_append_getElem hk, List.all_append, List.all_cons, List.all_nil, Bool.and_true, ← gp_some hk];by_cases h : (gp rs k).1.toNat = i
    · subst h;rw [if_pos rfl, hb]
      have : gb (inT p rs ins k) (gp rs k).1.toNat = (decide ((((gp rs k).1.toNat : Nat) : Int) ∈ ins) && (rs.take k).all fun q => !decide (q.1 = (((gp rs k).1.toNat : Nat) : Int)) || decide (q.2 ∈ ins)) := by
        simp [gb, inT, show (gp rs k).1.toNat < p by omega]
      rw [this];have h3 : decide ((gp rs k).1 = (((gp rs k).1.toNat : Nat) : Int)) = true := (by simp; omega);rw [h3]; simp [Bool.and_assoc]
    · rw [if_neg h];have : decide ((gp rs k).1 = (i : Int)) = false := (by simp; omega);rw [this]; simp
noncomputable def fiE (a : RelD) (s : SetD) : Int := if fitsB a s then 0 else 1
noncomputable def imR (a : RelD) (s : SetD) : SetD := if fitsB a s then ⟨s.cells, s.us, markL (imL (pw s.us) a.ins s.ins)⟩ else set0
noncomputable def inR' (a : RelD) (s : SetD) : SetD := if fitsB a s then ⟨s.cells, s.us, markL (inL (pw s.us) a.ins s.ins)⟩ else set0
theorem setB_iff {s : SetD} : setB s = true ↔ shB s.cells s.us = true ∧ (0 ≤ sumL s.us ∧ sumL s.us ≤ 12) ∧ risB s.ins (2 ^ (sumL s.us).toNat) = true := by
  simp only [setB, Bool.and_eq_true, decide_eq_true_eq];constructor
  · rintro ⟨h1, h2⟩
    obtain ⟨q1, q2, q3⟩ := bitsL_bd.2.2 h1;rw [q2] at h1 h2 q3;exact ⟨q1, ⟨h1, q3⟩, h2⟩
  · rintro ⟨h1, h2, h3⟩
    have : bitsL s.cells s.us 12 = sumL s.us := (by unfold bitsL; rw [if_pos ⟨h1, h2.2⟩]);rw [this]; exact ⟨h2.1, h3⟩
theorem fits_iff {a : RelD} {s : SetD} : fitsB a s = true ↔ relB a = true ∧ setB s = true ∧ a.cells = s.cells ∧ a.us = s.us := by simp [fitsB, and_assoc]

/-! ## The closure, by what is found from a state on -/
inductive Reach (S : Nat → Nat → Bool) (x : Nat) : Nat → Prop where
  | refl : Reach S x x
  | step {y z : Nat} : Reach S x y → S y z = true → Reach S x z
open Classical in
noncomputable def clo (S : Nat → Nat → Bool) (x y : Nat) : Bool := decide (Reach S x y)
theorem clo_iff {S : Nat → Nat → Bool} {x y : Nat} : clo S x y = true ↔ Reach S x y := by simp [clo]
def fi (F : List Nat) : List Int := F.map fun (n : Nat) => (n : Int)
theorem fi_len (F : List Nat) : (fi F).length = F.length := by simp [fi]
theorem fi_get {F : List Nat} {i : Nat} (h : i < F.length) : gi (fi F) i = ((gn F i : Nat) : Int) := by simp [gi, fi, gn, h]
theorem fi_app (F : List Nat) (j : Nat) : iv (fi (F ++ [j])) = iv (fi F) ++ [.int .i64 (j : Int)] := by simp [iv, fi]
structure CloI (p : Nat) (S : Nat → Nat → Bool) (k : Nat) (F : List Nat) (i j : Nat) : Prop where
  start : k ∈ F
  lt : ∀ z, z ∈ F → z < p ∧ Reach S k z
  nd : F.Nodup
  le : i ≤ F.length
  done : ∀ i', i' < i → ∀ z, z < p → S (gn F i') z = true → z ∈ F
  part : ∀ z, z < j → z < p → i < F.length → S (gn F i) z = true → z ∈ F
theorem CloI.new {p : Nat} {S : Nat → Nat → Bool} {k : Nat} (h : k < p) : CloI p S k [k] 0 0 :=
  ⟨by simp, fun z hz => by simp at hz; subst hz; exact ⟨h, .refl⟩, by simp, by simp, fun i' h => by omega, fun z h => by omega⟩
theorem nodup_le {p : Nat} : ∀ {F : List Nat}, F.Nodup → (∀ z, z ∈ F → z < p) → F.length ≤ p := by
  induction p with
  | zero =>
    intro F _ hl
    cases F with
    | nil => simp
    | cons a F => exact absurd (hl a (by simp)) (by omega)
  | succ p ih =>
    intro F hn hl
    have h1 := ih (hn.erase p) (fun z hz => by
      have h2 := (hn.mem_erase_iff).1 hz;have := hl z h2.2;have h3 := h2.1
      omega)
    have h2 : F.length ≤ (F.erase p).length + 1 := (by rw [List.length_erase]; split <;> omega);omega
theorem CloI.len {p : Nat} {S : Nat → Nat → Bool} {k i j : Nat} {F : List Nat} (h : CloI p S k F i j) : F.length ≤ p := nodup_le h.nd fun z hz => (h.lt z hz).1
theorem gn_mem {F : List Nat} {i : Nat} (h : i < F.length) : gn F i ∈ F := by simp [gn, h]
theorem gn_app {F : List Nat} {i j : Nat} (h : i < F.length) : gn (F ++ [j]) i = gn F i := by simp [gn, h, List.getElem?_append_left h]
theorem CloI.skip {p : Nat} {S : Nat → Nat → Bool} {k i j : Nat} {F : List Nat} (h : CloI p S k F i j) (hs : S (gn F i) j = false ∨ j ∈ F) : CloI p S k F i (j + 1) :=
  ⟨h.start, h.lt, h.nd, h.le, h.done, fun z hz hp hi hq => by
    by_cases hzj : z = j
    · subst hzj;rcases hs with hs | hs
      · rw [hs] at hq; cases hq
      · exact hs
    · exact h.part z (by omega) hp hi hq⟩
theorem CloI.add {p : Nat} {S : Nat → Nat → Bool} {k i j : Nat} {F : List Nat} (h : CloI p S k F i j) (hi : i < F.length) (hj : j < p) (hs : S (gn F i) j = true) (hn : j ∉ F) : CloI p S k (F ++ [j]) i (j + 1) := by
  refine ⟨by simp [h.start], fun z hz => ?_, ?_, by have := h.le; simp; omega, fun i' hi' z hz hq => ?_, fun z hz hp _ hq => ?_⟩
  · rcases List.mem_append.1 hz with hz | hz
    · exact h.lt z hz
    · simp at hz; subst hz; exact ⟨hj, .step (h.lt _ (gn_mem hi)).2 hs⟩
  · exact List.nodup_append.2 ⟨h.nd, by simp, fun a ha b hb => by simp at hb; subst hb; intro hab; subst hab; exact hn ha⟩
  · rw [gn_app (by have := h.le; omega)] at hq;exact List.mem_append.2 (.inl (h.done i' hi' z hz hq))
  · rw [gn_app hi] at hq;by_cases hzj : z = j
    · subst hzj; simp
    · exact List.mem_append.2 (.inl (h.part z (by omega) hp hi hq))
theorem CloI.next {p : Nat} {S : Nat → Nat → Bool} {k i : Nat} {F : List Nat} (h : CloI p S k F i p) (hi : i < F.length) : CloI p S k F (i + 1) 0 :=
  ⟨h.start, h.lt, h.nd, by omega, fun i' hi' z hz hq => by
    by_cases hii : i' = i
    · subst hii; exact h.part z hz hz hi hq
    · exact h.done i' (by omega) z hz hq, fun z hz => by omega⟩
theorem CloI.end {p : Nat} {S : Nat → Nat → Bool} {k i j : Nat} {F : List Nat} (h : CloI p S k F i j) (hi : F.length ≤ i) (hS : ∀ x y, S x y = true → y < p) (z : Nat) : z ∈ F ↔ Reach S k z := by
  refine ⟨fun hz => (h.lt z hz).2, fun hr => ?_⟩
  induction hr with
  | refl => exact h.start
  | step _ hs ih =>
    obtain ⟨i', hi', hg⟩ := List.getElem_of_mem ih;exact h.done i' (by omega) _ (hS _ _ hs) (by simp [gn, hi', hg, hs])
open Classical in
noncomputable def cloM (S : Nat → Nat → Bool) (k : Nat) (F : List Nat) : Nat → Nat → Bool := fun x z => if x < k then clo S x z else if x = k then decide (z ∈ F) else false
theorem cloM_zero (S : Nat → Nat → Bool) : (fun _ _ => false) = cloM S 0 [] := by funext x z; simp [cloM]
theorem cloM_add (S : Nat → Nat → Bool) (k j : Nat) (F : List Nat) : upd2 (cloM S k F) k j true = cloM S k (F ++ [j]) := by
  funext x z
  simp only [upd2, cloM];by_cases h : x = k ∧ z = j
  · obtain ⟨rfl, rfl⟩ := h; simp
  · rw [if_neg h];split
    · rfl
    · split
      · rename_i h1 h2; subst h2
        have : z ≠ j := fun hz => h ⟨rfl, hz⟩;simp [this]
      · rfl
theorem cloM_get {S : Nat → Nat → Bool} {k j : Nat} {F : List Nat} {b : Bool} (h : cloM S k F k j = b) : (j ∈ F ↔ b = true) := by
  subst h; simp [cloM]
theorem cloM_next {S : Nat → Nat → Bool} {k : Nat} {F : List Nat} (h : ∀ z, z ∈ F ↔ Reach S k z) : cloM S k F = cloM S (k + 1) [] := by
  funext x z
  simp only [cloM];by_cases h1 : x < k
  · simp [h1, show x < k + 1 by omega]
  · by_cases h2 : x = k
    · subst h2; simp [h, clo]
    · simp [h1, h2, show ¬ x < k + 1 by omega]
theorem cloM_end {S : Nat → Nat → Bool} {p x z : Nat} (h : x < p) : cloM S p [] x z = clo S x z := by simp [cloM, h]
theorem prTo_tab {l : List (Int × Int)} {p : Nat} (h : prTo l (p : Int) l.length) (x y : Nat) (hx : tabA l x y = true) : y < p := by
  simp only [tabA, decide_eq_true_eq] at hx;obtain ⟨i, hi, hg⟩ := List.getElem_of_mem hx;have := (h i hi).2.2.2.1;rw [gp_some hi, hg] at this;simp only at this; omega
noncomputable def clR (s : RelD) : RelD := if relB s then ⟨s.cells, s.us, relP (pw s.us) (clo (tabA s.ins))⟩ else rel0
def clE (s : RelD) : Int := if relB s then 0 else 1
theorem own_one {w : World} {base b T : Nat} {v : Value} (h : Blk w b T [v]) (hb : base ≤ b) : w.ownsRow base T 1 (.slice (some ⟨b, 0, none⟩) 1 1) 1 [v] :=
  ⟨by simp, .inr ⟨b, 1, #[v], rfl, hb, h, Nat.le_refl _, by simp [maxLen], by simp, by simp⟩⟩
theorem own_sl {w : World} {base T n : Nat} {a : Option Addr} {c : Nat} {l : List Int} (h : w.ownsRow base T 1 (.slice a n c) n (iv l)) (hl : l.length ≤ 140737488355328) : SlI w a l := by
  obtain ⟨_, _, hq, hs, _⟩ := own_sli hl h;injection hq with hq _ _; subst hq; exact hs
theorem Tab.keptOwn {w w' : World} {base top p m h : Nat} {rb : Nat → Nat} {M : Nat → Nat → Bool} {base' size n T : Nat} {v : Value} {xs : List Value} (t : Tab w base top p m h rb M) (hg : w.grownBy w' v.ownBlock) (ho : w.ownsRow base' T size v n xs) (h1 : T ≠ 4) (h2 : T ≠ 74) :
    Tab w' base top p m h rb M :=
  ⟨t.head.kept hg (own_ne ho t.head (Ne.symm h2)), fun i hi => (t.rows i hi).kept hg (own_ne ho (t.rows i hi) (Ne.symm h1)), t.ge, t.hge, t.inj, t.mp⟩

/-! ## A table filled row by row -/
def tM (g : Nat → Nat → Bool) (k j : Nat) : Nat → Nat → Bool := fun x y => if x < k ∨ (x = k ∧ y < j) then g x y else false
theorem tM_zero (g : Nat → Nat → Bool) : (fun _ _ => false) = tM g 0 0 := by funext x y; simp [tM]
theorem tM_step (g : Nat → Nat → Bool) (k j : Nat) : upd2 (tM g k j) k j (g k j) = tM g k (j + 1) := by
  funext x y
  simp only [upd2, tM];by_cases h : x = k ∧ y = j
  · obtain ⟨rfl, rfl⟩ := h; simp
  · rw [if_neg h];by_cases h2 : x < k ∨ (x = k ∧ y < j)
    · rw [if_pos h2, if_pos (by omega)]
    · rw [if_neg h2, if_neg (by omega)]
theorem tM_row (g : Nat → Nat → Bool) {k p x y : Nat} (hy : y < p) : tM g k p x y = tM g (k + 1) 0 x y := by
  simp only [tM];by_cases h2 : x < k ∨ (x = k ∧ y < p)
  · rw [if_pos h2, if_pos (by omega)]
  · rw [if_neg h2, if_neg (by omega)]
theorem tM_end (g : Nat → Nat → Bool) {p x y : Nat} (hx : x < p) : tM g p 0 x y = g x y := by simp [tM, hx]
theorem stL_len (s : SetD) (n : Int) (base : List Int) : (stL s n base).length = base.length := stT_len _ _ _ _ _
theorem supI_len (o : Int) (e : E) : (supI o e).length ≤ 32 := by
  unfold supI; split
  · exact Nat.le_trans (markT_len _ _) (by rw [mkB_len]; simp)
  · simp
def z32 : List Int := List.replicate 32 0
noncomputable def ofG (cs : List CellD) (l : List Int) (e : E) : Nat → Nat → Bool := fun x y => decide (valE e (stL ⟨l, wdL cs l, []⟩ x z32) (stL ⟨l, wdL cs l, []⟩ y z32) = 1)
noncomputable def ofE (cs : List CellD) (l : List Int) (e : E) : Int :=
  if shE cs l ≠ 0 then shE cs l else if (wfB e && ovB e cs true) = false ∨ e.w ≠ 1 then 60 else if subL (supI 3 e) l = false ∨ subL (supI 2 e) l = false then 1 else 0
noncomputable def ofR (cs : List CellD) (l : List Int) (e : E) : RelD := if ofE cs l e = 0 then ⟨l, wdL cs l, relP (pw (wdL cs l)) (ofG cs l e)⟩ else rel0
theorem ofR_err {cs : List CellD} {l : List Int} {e : E} (h : ofE cs l e ≠ 0) : ofR cs l e = rel0 := if_neg h
theorem z32_len : z32.length = 32 := by simp [z32]
end Go.V
