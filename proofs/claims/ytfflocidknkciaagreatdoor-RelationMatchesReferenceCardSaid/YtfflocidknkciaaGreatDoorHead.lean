/- The fixed examples of the law: what the functions answer there. No program in sight. -/
import Derived.Test.YtfflocidknkciaaGreatDoorOfM
set_option linter.all false
namespace Go.V
open Go
def eH : E := .mk 11 1 0 [.mk 2 2 0 [], .mk 8 2 0 [.mk 3 2 0 [], .mk 1 2 1 []]]
def csH (nm : ByteArray) : List CellD := [⟨nm, 2, 0, -1, false, 0⟩]
def rH : RelD := ⟨[0], [2], [(0, 1), (1, 2), (2, 3), (3, 0)]⟩
def sH : SetD := ⟨[0], [2], [0, 1, 2]⟩
def kH : RelD := ⟨[0], [2], relP 4 (fun _ _ => true)⟩
theorem wdH (nm : ByteArray) : wdL (csH nm) [0] = [2] := rfl
theorem valH (old now : List Int) : valE eH old now = if lowZ (atZ now 0) 2 = lowZ (lowZ (atZ old 0) 2 + 1) 2 then 1 else 0 := by
  simp [eH, valE, valEs, apL, gi]
theorem atH : ∀ x, x < 4 → atZ (stL ⟨[0], [2], []⟩ ((x : Nat) : Int) z32) 0 = x := by
  intro x hx;have : x = 0 ∨ x = 1 ∨ x = 2 ∨ x = 3 := (by omega);rcases this with rfl | rfl | rfl | rfl <;> rfl
theorem ofGH (nm : ByteArray) {x y : Nat} (hx : x < 4) (hy : y < 4) : ofG (csH nm) [0] eH x y = decide (y = (x + 1) % 4) := by
  unfold ofG;rw [wdH, valH, atH x hx, atH y hy];have e : ∀ z : Nat, lowZ (z : Int) 2 = ((z % 4 : Nat) : Int) := fun z => (by unfold lowZ; rw [show (2 : Int) ^ (2 : Int).toNat = 4 from rfl]; omega);have e2 : lowZ (((x % 4 : Nat) : Int) + 1) 2 = (((x + 1) % 4 : Nat) : Int) := (by unfold lowZ; rw [show (2 : Int) ^ (2 : Int).toNat = 4 from rfl]; omega);rw [e, e, e2];by_cases h : y = (x + 1) % 4
  · rw [if_pos (by omega)]; simp [h]
  · rw [if_neg (by omega)]; simp [h]
theorem nodeH1 : nodeP (.mk 2 2 0 []) := (node_cell (e := .mk 2 2 0 []) ⟨by decide, by decide⟩ (.inl rfl)).2 ⟨rfl, by decide, by decide⟩
theorem nodeH2 : nodeP (.mk 3 2 0 []) := (node_cell (e := .mk 3 2 0 []) ⟨by decide, by decide⟩ (.inr rfl)).2 ⟨rfl, by decide, by decide⟩
theorem nodeH3 : nodeP (.mk 1 2 1 []) := (node_const (e := .mk 1 2 1 []) ⟨by decide, by decide⟩ rfl).2 ⟨rfl, by decide, by decide⟩
theorem nodeH4 : nodeP (.mk 8 2 0 [.mk 3 2 0 [], .mk 1 2 1 []]) := (node_bin (e := .mk 8 2 0 [.mk 3 2 0 [], .mk 1 2 1 []]) ⟨by decide, by decide⟩ rfl ⟨by decide, by decide⟩).2 ⟨rfl, rfl, rfl⟩
theorem nodeH5 : nodeP eH := (node_cmp (e := eH) ⟨by decide, by decide⟩ rfl ⟨by decide, by decide⟩).2 ⟨rfl, rfl, rfl⟩
theorem dp0 {e : E} {lim : Int} (h : nodeP e) (h0 : e.ks = []) (hl : 1 ≤ lim) : dpB e lim = true := dpB_iff.2 ⟨hl, h, fun i hi => by rw [h0] at hi; simp at hi⟩
theorem dp2 {e a b : E} {lim : Int} (h : nodeP e) (h0 : e.ks = [a, b]) (hl : 1 ≤ lim) (ha : dpB a (lim - 1) = true) (hb : dpB b (lim - 1) = true) : dpB e lim = true := dpB_iff.2 ⟨hl, h, fun i hi => by
  rw [h0] at hi ⊢;have : i = 0 ∨ i = 1 := (by simp only [List.length_cons, List.length_nil] at hi; omega);rcases this with rfl | rfl
  · exact ha
  · exact hb⟩
theorem wfH : wfB eH = true := wfB_iff.2 ⟨by decide, dp2 nodeH5 rfl (by decide) (dp0 nodeH1 rfl (by decide)) (dp2 nodeH4 rfl (by decide) (dp0 nodeH2 rfl (by decide)) (dp0 nodeH3 rfl (by decide)))⟩
theorem ov0 {e : E} {cs : List CellD} {p : Bool} (h : ovOk e cs p) (h0 : e.ks = []) : ovB e cs p = true := ovB_iff.2 ⟨h, fun i hi => by rw [h0] at hi; simp at hi⟩
theorem ov2 {e a b : E} {cs : List CellD} {p : Bool} (h : ovOk e cs p) (h0 : e.ks = [a, b]) (ha : ovB a cs p = true) (hb : ovB b cs p = true) : ovB e cs p = true := ovB_iff.2 ⟨h, fun i hi => by
  rw [h0] at hi ⊢;have : i = 0 ∨ i = 1 := (by simp only [List.length_cons, List.length_nil] at hi; omega);rcases this with rfl | rfl
  · exact ha
  · exact hb⟩
theorem ovH (nm : ByteArray) : ovB eH (csH nm) true = true := by
  have k : ∀ e : E, (e.op = 3 ∨ e.op = 2 → e.n < ((csH nm).length : Int) ∧ (gc (csH nm) e.n.toNat).w = e.w) → ovOk e (csH nm) true := fun e h => ⟨fun q => (by cases q.2), h⟩;refine ov2 (k _ fun q => absurd q (by decide)) rfl (ov0 (k _ fun _ => ⟨show (0 : Int) < ((1 : Nat) : Int) by decide, rfl⟩) rfl) (ov2 (k _ fun q => absurd q (by decide)) rfl (ov0 (k _ fun _ => ⟨show (0 : Int) < ((1 : Nat) : Int) by decide, rfl⟩) rfl) (ov0 (k _ fun q => absurd q (by decide)) rfl))
theorem shH (nm : ByteArray) : shE (csH nm) [0] = 0 := by
  unfold shE;rw [wdH, if_pos (show wdB (csH nm) [0] = true from rfl), if_neg (by decide)]
theorem supH (o : Int) (h : o = 2 ∨ o = 3) : supI o eH = [0] := by
  unfold supI; rw [if_pos wfH];rcases h with rfl | rfl <;> rfl
theorem ofEH (nm : ByteArray) : ofE (csH nm) [0] eH = 0 := by
  unfold ofE;rw [if_neg (by rw [shH]; decide), if_neg (fun q => q.elim (fun q => by rw [wfH, ovH] at q; cases q) (fun q => q rfl)), if_neg (fun q => q.elim (fun q => by rw [supH 3 (.inr rfl)] at q; exact absurd q (by decide)) (fun q => by rw [supH 2 (.inl rfl)] at q; exact absurd q (by decide)))]
theorem ofRH (nm : ByteArray) : ofR (csH nm) [0] eH = rH := by
  rw [ofR, if_pos (ofEH nm), wdH];have : relP (pw [2]) (ofG (csH nm) [0] eH) = relP 4 (fun x y => decide (y = (x + 1) % 4)) := relP_congr (p := 4) fun x y hx hy => ofGH nm hx hy;rw [this]; rfl
theorem relH : relB rH = true := by decide
theorem alH : alikeB rH rH = true := by decide
theorem setH : setB sH = true := setB_iff.2 ⟨by decide, ⟨by decide, by decide⟩, by decide⟩
theorem fitH : fitsB rH sH = true := fits_iff.2 ⟨relH, setH, rfl, rfl⟩
theorem coH : coR rH rH = ⟨[0], [2], [(0, 2), (1, 3), (2, 0), (3, 1)]⟩ := by
  rw [coR, if_pos alH]; rfl
theorem reachH : ∀ x y, x < 4 → y < 4 → clo (tabA rH.ins) x y = true := by
  have s0 : tabA rH.ins 0 1 = true := (by decide);have s1 : tabA rH.ins 1 2 = true := (by decide);have s2 : tabA rH.ins 2 3 = true := (by decide);have s3 : tabA rH.ins 3 0 = true := (by decide);intro x y hx hy;rw [clo_iff];have hx' : x = 0 ∨ x = 1 ∨ x = 2 ∨ x = 3 := (by omega);have hy' : y = 0 ∨ y = 1 ∨ y = 2 ∨ y = 3 := by omega
  rcases hx' with rfl | rfl | rfl | rfl <;> rcases hy' with rfl | rfl | rfl | rfl <;> first
    | exact .refl
    | exact .step .refl s0
    | exact .step .refl s1
    | exact .step .refl s2
    | exact .step .refl s3
    | exact .step (.step .refl s0) s1
    | exact .step (.step .refl s1) s2
    | exact .step (.step .refl s2) s3
    | exact .step (.step .refl s3) s0
    | exact .step (.step (.step .refl s0) s1) s2
    | exact .step (.step (.step .refl s1) s2) s3
    | exact .step (.step (.step .refl s2) s3) s0
    | exact .step (.step (.step .refl s3) s0) s1
theorem clH : clR rH = kH := by
  rw [clR, if_pos relH];have : relP (pw rH.us) (clo (tabA rH.ins)) = relP 4 (fun _ _ => true) := relP_congr (p := 4) fun x y hx hy => reachH x y hx hy;rw [this]; rfl
theorem clEH : clE rH = 0 := by rw [clE, if_pos relH]
theorem imH : imR rH sH = ⟨[0], [2], [1, 2, 3]⟩ := by rw [imR, if_pos fitH]; rfl
theorem inH : inR' rH sH = ⟨[0], [2], [0, 1]⟩ := by rw [inR', if_pos fitH]; rfl
theorem relK : relB kH = true := by decide
theorem fitK : fitsB kH sH = true := fits_iff.2 ⟨relK, setH, rfl, rfl⟩
theorem inK : inR' kH sH = ⟨[0], [2], []⟩ := by rw [inR', if_pos fitK]; rfl
theorem idH (nm : ByteArray) : shE [⟨nm, 7, 0, 0, false, 0⟩] [0] = 2 := by
  unfold shE;rw [if_pos (show wdB [⟨nm, 7, 0, 0, false, 0⟩] [0] = true from rfl), if_pos (by show (6 : Int) < sumL [7]; decide)]
def isOne (v : Value) (w : World) : Prop := ∃ nm b, v = .slice (some ⟨b, 0, none⟩) 1 1 ∧ SlC w (some ⟨b, 0, none⟩) (csH nm)
theorem isOne.ext {v : Value} {w w' : World} (h : isOne v w) (x : Ext w w') : isOne v w' := by obtain ⟨nm, b, h1, h2⟩ := h; exact ⟨nm, b, h1, h2.extC x⟩
def isOf (base : Nat) (v : Value) (w : World) : Prop := ∃ v1, v = .tuple #[v1, .int .i64 0] ∧ isRelN base rH v1 w
theorem isOf.ext {base : Nat} {v : Value} {w w' : World} (h : isOf base v w) (x : Ext w w') : isOf base v w' := by obtain ⟨v1, h1, h2⟩ := h; exact ⟨v1, h1, h2.ext x⟩
def tupA (v : Value) (i : Nat) : Value := match v with | .tuple vs => vs.getD i undef | _ => undef
theorem Blk.slC1 {w : World} {b T : Nat} {nm : ByteArray} {a1 a2 a3 a4 : Int} {g : Bool} (h : Blk w b T [.string nm, .int .i64 a1, .int .i64 a2, .int .i64 a3, .bool g, .int .i64 a4]) : SlC w (some ⟨b, 0, none⟩) [⟨nm, a1, a2, a3, g, a4⟩] := by
  refine ⟨fun _ _ => rfl, ?_, by simp⟩;intro i x hx
  match i, hx with
  | 0, hx => cases hx; exact h.cells 0 _ rfl
  | i + 1, hx => simp at hx
end Go.V
