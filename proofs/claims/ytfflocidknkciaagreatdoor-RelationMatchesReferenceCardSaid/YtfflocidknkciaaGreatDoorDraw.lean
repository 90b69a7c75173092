/- A region that draws its order, walked once in the text's order: what each operation yields is said up front for calls and new blocks, and found on the way for all else. Holds for every program. -/
import Derived.Test.YtfflocidknkciaaGreatDoorOps
set_option linter.all false
namespace Go.V
open Go
attribute [local semireducible] W WL OpW CV

/-- What is said of an operation's value: found on the way; this value; a value of which this holds, now and later. -/
inductive Kd where
  | pure
  | val (t : Value)
  | rel (φ : Value → World → Prop)

section
variable {P : Program} {r : Option Nat} {n : Nat} {N R : K3} {X : List (Nat × K3)} {ds : List Deferred} {e : Env} {w : World} {ops : Array Oper} {rest : List Oper} {o : Oper}

/-- The operation, its operands read in the frame 'e', hands on a value, in a world, of which 'φ' holds. -/
def OpR (P : Program) (r : Option Nat) (n : Nat) (o : Oper) (e : Env) (w : World) (φ : Value → World → Prop) : Prop :=
  ∀ (b : Act) (K : Act → World → Prop), (∀ v w', φ v w' → K (b.put o.dst v) w') → o.uponIn (FW r) 0 P b K (fun _ _ _ => False) ((o.semAt (FW r).round (ev n e)).run P w)
theorem OpR.mono {φ ψ : Value → World → Prop} (h : OpR P r n o e w φ) (hi : ∀ v w', φ v w' → ψ v w') : OpR P r n o e w ψ := fun b K hk => h b K fun v w' hv => hk v w' (hi v w' hv)
theorem OpR.opw {φ : Value → World → Prop} {K : Env → World → Prop} (h : OpR P r n o e w φ) (hk : ∀ v w', φ v w' → K (updo e o.dst v) w') : OpW P r n o K ds e w := by
  refine ⟨fun _ _ => trivial, ?_⟩;rw [act_eval'];exact h (act n ds e) _ fun v w' hv => by rw [act_put]; exact ⟨_, rfl, hk _ _ hv⟩
theorem R_v {v : Value} {w' : World} (hx : Ex P n o.op o.type e w v w') : OpR P r n o e w (fun v' w'' => v' = v ∧ w'' = w') := by
  intro b K hk;rw [Oper.semAt_eq _ _ _ hx.1, exec_mk, hx.2];exact hk _ _ ⟨rfl, rfl⟩
theorem R_call' {x : Operand} {xs : List Operand} {ts : Array TypeId} {f : FuncId} {cap : List Value} {vs : List Value} {R : Value → World → Prop}
    (hop : o.op = .call { callee := .value x, args := xs.toArray, argTypes := ts })
    (hcall : ∀ (args : Array Value) (w : World), (callFunc f args).run P w = .ok (.enter f args) w) (hf : ev n e x = .func (.func f) #[] cap.toArray)
    (hargs : argsOf n e xs ++ cap = vs) (hc : CV P f vs w R) : OpR P r n o e w R := by
  intro b K hk;rw [Oper.semAt_eq _ _ _ (by rw [hop]; simp)]
  have hrun : (execOp (ev n e) o).run P w = .ok (.enter f vs.toArray) w := by
    obtain ⟨dst, op, type, pos, after, guard⟩ := o;simp only at hop; subst hop;have : List.map (ev n e) xs ++ cap = vs := hargs;simp [execOp, resolve, hf, Deferred.ofValue, invoke, Sem.run_bind, Result.andThen, this, hcall]
  rw [hrun];simp only [Oper.uponIn];refine ⟨by simp [FW, Fence.wide], CallsIn.mono (callsIn_of_CV hc) fun x w' ⟨v, h1, h2⟩ => ?_⟩;subst h1;exact hk _ _ h2
theorem OpR_congr {e' : Env} {φ : Value → World → Prop} (hs : ∀ cs b, o.op ≠ .select cs b) (hd : ∀ c, o.op ≠ .defer c) (hx : ∀ x ∈ o.op.operands, ev n e x = ev n e' x) (h : OpR P r n o e w φ) : OpR P r n o e' w φ := by
  intro b K hk
  have hsem : o.semAt (FW r).round (ev n e') = o.semAt (FW r).round (ev n e) := by
    rw [Oper.semAt_eq _ _ _ hd, Oper.semAt_eq _ _ _ hd, execOp_congr (ρ := ev n e') (ρ' := ev n e) o hs (fun x hx' => (hx x hx').symm)]
  rw [hsem]; exact h b K hk
theorem Ex_congr {e' : Env} {v : Value} {w' : World} (hs : ∀ cs b, o.op ≠ .select cs b) (hx : ∀ x ∈ o.op.operands, ev n e x = ev n e' x) (h : Ex P n o.op o.type e w v w') : Ex P n o.op o.type e' w v w' :=
  ⟨h.1, by rw [← h.2]; exact congrArg (fun s : Sem Next => s.run P w) (execOp_congr (mkOp o.op o.type) hs fun x hx' => (hx x hx').symm)⟩

/-! ## The walk in the text's order -/
def wantedE (ops : Array Oper) (n : Nat) (e : Env) (o : Oper) : Bool := Region.wanted o (yielded ops (arr n e))
/-- An operation that lays a new block, whatever came before. -/
def isAl (o : Oper) : Bool := match o.op, o.guard with | .alloc _, none => true | _, _ => false
def isAlA (ops : Array Oper) (i : Nat) : Bool := match ops[i]? with | some o => isAl o | none => false
def apartF (ops : Array Oper) (F : List (Nat × Value × (World → Prop))) : Prop := ∀ p ∈ F, ∀ q ∈ F, p.1 ≠ q.1 → isAlA ops p.1 = true → isAlA ops q.1 = true → p.2.1 ≠ q.2.1
def WS (P : Program) (r : Option Nat) (n : Nat) (ops : Array Oper) (w0 : World) (pd : Nat → List Nat) (Φ : Nat → Kd) (K : Env → (World → Prop) → Prop) :
    List Oper → Nat → Env → List (Nat × Value × (World → Prop)) → Prop
  | [], _, e, F => K e (fun w => (∀ p ∈ F, p.2.2 w) ∧ apartF ops F)
  | o :: rest, i, e, F =>
    (wantedE ops n e o = true →
      match Φ i with
      | .pure => ∃ v, (∀ w, Ext w0 w → (∀ p ∈ F, p.1 ∈ pd i → p.2.2 w) → Ex P n o.op o.type e w v w) ∧ WS P r n ops w0 pd Φ K rest (i + 1) (updo e o.dst v) F
      | .val t => (∀ w, Ext w0 w → (∀ p ∈ F, p.1 ∈ pd i → p.2.2 w) → OpR P r n o e w (fun v w' => v = t ∧ Ext w w')) ∧ WS P r n ops w0 pd Φ K rest (i + 1) (updo e o.dst t) F
      | .rel φ => (∀ w, Ext w0 w → (∀ p ∈ F, p.1 ∈ pd i → p.2.2 w) → OpR P r n o e w (fun v w' => φ v w' ∧ Ext w w')) ∧ ∀ v, WS P r n ops w0 pd Φ K rest (i + 1) (updo e o.dst v) ((i, v, φ v) :: F)) ∧
    (wantedE ops n e o = false → WS P r n ops w0 pd Φ K rest (i + 1) (updo e o.dst undef) F)

def Eat (l : List Oper) (val : Nat → Value) (e0 : Env) : Nat → Env
  | 0 => e0
  | k + 1 => updo (Eat l val e0 k) (l.getD k default).dst (val k)
variable {l : List Oper} {val val' : Nat → Value} {e0 : Env} {Φ : Nat → Kd} {pd : Nat → List Nat} {w0 : World}
theorem Eat_congr : ∀ k, (∀ j, j < k → val j = val' j) → Eat l val e0 k = Eat l val' e0 k
  | 0, _ => rfl
  | k + 1, h => by simp only [Eat]; rw [Eat_congr k fun j hj => h j (by omega), h k (by omega)]
def LF (ops : Array Oper) (n : Nat) (l : List Oper) (Φ : Nat → Kd) (e0 : Env) (val : Nat → Value) (j : Nat) (w : World) : Prop :=
  wantedE ops n (Eat l val e0 j) (l.getD j default) = true → ∀ φ, Φ j = .rel φ → φ (val j) w
def TRk (P : Program) (r : Option Nat) (n : Nat) (ops : Array Oper) (l : List Oper) (w0 : World) (pd : Nat → List Nat) (Φ : Nat → Kd) (e0 : Env) (lam val : Nat → Value) (k : Nat) : Prop :=
  (wantedE ops n (Eat l val e0 k) (l.getD k default) = true →
    match Φ k with
    | .pure => ∀ w, Ext w0 w → (∀ j ∈ pd k, LF ops n l Φ e0 val j w) → Ex P n (l.getD k default).op (l.getD k default).type (Eat l val e0 k) w (val k) w
    | .val t => val k = t ∧ ∀ w, Ext w0 w → (∀ j ∈ pd k, LF ops n l Φ e0 val j w) → OpR P r n (l.getD k default) (Eat l val e0 k) w (fun v w' => v = t ∧ Ext w w')
    | .rel φ => val k = lam k ∧ ∀ w, Ext w0 w → (∀ j ∈ pd k, LF ops n l Φ e0 val j w) → OpR P r n (l.getD k default) (Eat l val e0 k) w (fun v w' => φ v w' ∧ Ext w w')) ∧
  (wantedE ops n (Eat l val e0 k) (l.getD k default) = false → val k = undef)
theorem LF_congr {j : Nat} (h : ∀ i, i ≤ j → val i = val' i) (w : World) : LF ops n l Φ e0 val j w ↔ LF ops n l Φ e0 val' j w := by
  unfold LF; rw [Eat_congr j fun i hi => h i (by omega), h j (Nat.le_refl _)]
theorem TRk_congr {lam : Nat → Value} {k : Nat} (hpd : ∀ j ∈ pd k, j < k) (h : ∀ i, i ≤ k → val i = val' i) (ht : TRk P r n ops l w0 pd Φ e0 lam val k) : TRk P r n ops l w0 pd Φ e0 lam val' k := by
  unfold TRk at *;have hL : ∀ w, (∀ j ∈ pd k, LF ops n l Φ e0 val' j w) → (∀ j ∈ pd k, LF ops n l Φ e0 val j w) := fun w hw j hj => (LF_congr (fun i hi => h i (by have := hpd j hj; omega)) w).2 (hw j hj);rw [← Eat_congr k fun i hi => h i (by omega), ← h k (Nat.le_refl _)];refine ⟨fun hw => ?_, ht.2⟩;have h1 := ht.1 hw
  cases hk : Φ k with
  | pure => simp only [hk] at h1 ⊢; exact fun w h2 h3 => h1 w h2 (hL w h3)
  | val t => simp only [hk] at h1 ⊢; exact ⟨h1.1, fun w h2 h3 => h1.2 w h2 (hL w h3)⟩
  | rel φ => simp only [hk] at h1 ⊢; exact ⟨h1.1, fun w h2 h3 => h1.2 w h2 (hL w h3)⟩

/-- For every choice of what the loud operations hand back there is a run in the text's order. -/
theorem WS_run {K : Env → (World → Prop) → Prop} (hpd : ∀ k, ∀ j ∈ pd k, j < k) (lam : Nat → Value) : ∀ (suf : List Oper) (i : Nat) (val0 : Nat → Value) (F : List (Nat × Value × (World → Prop))), suf = l.drop i → i + suf.length = l.length →
    WS P r n ops w0 pd Φ K suf i (Eat l val0 e0 i) F → (∀ k, k < i → TRk P r n ops l w0 pd Φ e0 lam val0 k) → (∀ p ∈ F, p.1 < i ∧ val0 p.1 = p.2.1 ∧ ∀ w, LF ops n l Φ e0 val0 p.1 w → p.2.2 w) →
    ∃ val, (∀ k, k < l.length → TRk P r n ops l w0 pd Φ e0 lam val k) ∧ ∃ F' : List (Nat × Value × (World → Prop)), K (Eat l val e0 l.length) (fun w => (∀ p ∈ F', p.2.2 w) ∧ apartF ops F') ∧ (∀ p ∈ F', p.1 < l.length ∧ val p.1 = p.2.1 ∧ ∀ w, LF ops n l Φ e0 val p.1 w → p.2.2 w) := by
  intro suf
  induction suf with
  | nil =>
    intro i val0 F hs hlen hW hT hF;have hi : i = l.length := (by simpa using hlen);subst hi;exact ⟨val0, hT, F, hW, hF⟩
  | cons o suf ih =>
    intro i val0 F hs hlen hW hT hF;have hil : i < l.length := by simp at hlen; omega
    have ho : l.getD i default = o := by
      have h0 : (l.drop i)[0]? = some o := (by rw [← hs]; rfl);rw [List.getElem?_drop, Nat.add_zero] at h0;simp [h0]
    have hs' : suf = l.drop (i + 1) := by
      have : l.drop (i + 1) = (l.drop i).drop 1 := (by rw [List.drop_drop]);rw [this, ← hs]; rfl
    have hlen' : i + 1 + suf.length = l.length := by simp at hlen; omega
    -- one step, the value being v
    have step : ∀ (v : Value) (F' : List (Nat × Value × (World → Prop))), WS P r n ops w0 pd Φ K suf (i + 1) (updo (Eat l val0 e0 i) o.dst v) F' →
        TRk P r n ops l w0 pd Φ e0 lam (fun k => if k = i then v else val0 k) i → (∀ p ∈ F', p.1 < i + 1 ∧ (if p.1 = i then v else val0 p.1) = p.2.1 ∧ ∀ w, LF ops n l Φ e0 (fun k => if k = i then v else val0 k) p.1 w → p.2.2 w) →
        ∃ val, (∀ k, k < l.length → TRk P r n ops l w0 pd Φ e0 lam val k) ∧ ∃ F' : List (Nat × Value × (World → Prop)), K (Eat l val e0 l.length) (fun w => (∀ p ∈ F', p.2.2 w) ∧ apartF ops F') ∧ (∀ p ∈ F', p.1 < l.length ∧ val p.1 = p.2.1 ∧ ∀ w, LF ops n l Φ e0 val p.1 w → p.2.2 w) := by
      intro v F' hW' hTi hF';refine ih (i + 1) (fun k => if k = i then v else val0 k) F' hs' hlen' ?_ ?_ hF'
      · simp only [Eat, ho, if_true];rw [Eat_congr (val' := val0) i fun j hj => by simp [show j ≠ i by omega]];exact hW'
      · intro k hk;by_cases hki : k = i
        · subst hki; exact hTi
        · exact TRk_congr (hpd k) (fun j hj => by simp [show j ≠ i by omega]) (hT k (by omega))
    have hE : Eat l (fun k => if k = i then (default : Value) else val0 k) e0 i = Eat l val0 e0 i := Eat_congr i fun j hj => (by simp [show j ≠ i by omega]);have hEv : ∀ v, Eat l (fun k => if k = i then v else val0 k) e0 i = Eat l val0 e0 i := fun v => Eat_congr i fun j hj => (by simp [show j ≠ i by omega]);have hLF : ∀ v j w, j < i → (LF ops n l Φ e0 (fun k => if k = i then v else val0 k) j w ↔ LF ops n l Φ e0 val0 j w) := fun v j w hj => LF_congr (fun q hq => by simp [show q ≠ i by omega]) w;have hFv : ∀ v, ∀ p ∈ F, p.1 < i + 1 ∧ (if p.1 = i then v else val0 p.1) = p.2.1 ∧ ∀ w, LF ops n l Φ e0 (fun k => if k = i then v else val0 k) p.1 w → p.2.2 w := fun v p hp => ⟨by have := (hF p hp).1; omega, by rw [if_neg (by have := (hF p hp).1; omega)]; exact (hF p hp).2.1, fun w hw => (hF p hp).2.2 w ((hLF v p.1 w (hF p hp).1).1 hw)⟩;have hC : ∀ v w, (∀ j ∈ pd i, LF ops n l Φ e0 (fun k => if k = i then v else val0 k) j w) → ∀ p ∈ F, p.1 ∈ pd i → p.2.2 w := fun v w hw p hp hpi => (hF p hp).2.2 w ((hLF v p.1 w (hF p hp).1).1 (hw p.1 hpi))
    cases hwant : wantedE ops n (Eat l val0 e0 i) o with
    | false =>
      refine step undef F (hW.2 hwant) ?_ (hFv _);refine ⟨fun hw => ?_, fun _ => by simp⟩;rw [hEv, ho, hwant] at hw; cases hw
    | true =>
      have hW1 := hW.1 hwant
      cases hk : Φ i with
      | pure =>
        simp only [hk] at hW1;obtain ⟨v, h1, h2⟩ := hW1;refine step v F h2 ⟨fun _ => ?_, fun hw => ?_⟩ (hFv v)
        · simp only [hk]; rw [hEv, ho]; intro w h3 h4; simpa using h1 w h3 (hC v w h4)
        · rw [hEv, ho, hwant] at hw; cases hw
      | val t =>
        simp only [hk] at hW1;obtain ⟨h1, h2⟩ := hW1;refine step t F h2 ⟨fun _ => ?_, fun hw => ?_⟩ (hFv t)
        · simp only [hk]; rw [hEv, ho]; exact ⟨by simp, fun w h3 h4 => h1 w h3 (hC t w h4)⟩
        · rw [hEv, ho, hwant] at hw; cases hw
      | rel φ =>
        simp only [hk] at hW1;obtain ⟨h1, h2⟩ := hW1;refine step (lam i) ((i, lam i, φ (lam i)) :: F) (h2 _) ⟨fun _ => ?_, fun hw => ?_⟩ ?_
        · simp only [hk]; rw [hEv, ho]; exact ⟨by simp, fun w h3 h4 => h1 w h3 (hC _ w h4)⟩
        · rw [hEv, ho, hwant] at hw; cases hw
        · intro p hp;rcases List.mem_cons.1 hp with rfl | hp
          · refine ⟨by simp, by simp, fun w hw => ?_⟩;have := hw (by rw [hEv, ho]; exact hwant) φ hk
            simpa using this
          · exact hFv _ p hp

/-! ## What is asked of the region's own text -/
def notSel : Op → Bool
  | .select .. | .defer _ => false
  | _ => true
/-- An operation that only looks at slots, whatever the world. -/
def isFlo (o : Oper) : Bool := match o.op, o.guard with | .extract _ _, none => true | .move _, none => true | _, _ => false
/-- The operation i of the forced end may run ahead of j. -/
def floOk (l : List Oper) (m : Nat) (pd : Nat → List Nat) (i j : Nat) : Bool :=
  match (l.getD j default).dst with
  | none => false
  | some dj => !((l.getD i default).looksAt l.toArray).contains dj &&
    (match (l.getD i default).dst with | none => true | some di => !(Nat.beq di dj) && !((l.getD j default).looksAt l.toArray).contains di) &&
    (List.range m).all fun q => (match (l.getD q default).dst with | none => true | some dq => !((l.getD j default).looksAt l.toArray).contains dq || (pd j).contains q)
def FloP (l : List Oper) (m : Nat) (pd : Nat → List Nat) (i j : Nat) : Prop :=
  ∃ dj, (l.getD j default).dst = some dj ∧ dj ∉ (l.getD i default).looksAt l.toArray ∧ (∀ di, (l.getD i default).dst = some di → di ≠ dj ∧ di ∉ (l.getD j default).looksAt l.toArray) ∧
    ∀ q, q < m → ∀ dq, (l.getD q default).dst = some dq → dq ∈ (l.getD j default).looksAt l.toArray → q ∈ pd j
theorem nc_of {L : List Nat} {x : Nat} (h : (!L.contains x) = true) : x ∉ L := fun hm => by simp [hm] at h
theorem floOk_spec {l : List Oper} {m : Nat} {pd : Nat → List Nat} {i j : Nat} (h : floOk l m pd i j = true) : FloP l m pd i j := by
  unfold floOk at h
  cases hd : (l.getD j default).dst with
  | none => simp only [hd] at h; cases h
  | some dj =>
    simp only [hd, Bool.and_eq_true] at h;obtain ⟨⟨h1, h2⟩, h3⟩ := h;refine ⟨dj, hd, nc_of h1, fun di hdi => ?_, fun q hq dq hdq hin => ?_⟩
    · simp only [hdi, Bool.and_eq_true] at h2;exact ⟨fun heq => by subst heq; have := h2.1; simp at this, nc_of h2.2⟩
    · have := List.all_eq_true.1 h3 q (List.mem_range.2 hq);simp only [hdq, Bool.or_eq_true] at this;rcases this with h4 | h4
      · exact absurd hin (nc_of h4)
      · simpa using h4
def drawB (l : List Oper) (m : Nat) (pd : Nat → List Nat) : Bool :=
  Nat.ble m l.length && (List.range l.length).all fun i =>
    ((pd i).all fun j => Nat.blt j i && (l.getD i default).after.toList.any fun ed => Region.binds .any ed && (Nat.beq ed.on j || (Nat.blt ed.on i && (pd ed.on).contains j))) &&
    notSel (l.getD i default).op &&
    ((l.getD i default).after.toList.all fun ed => !Region.binds .any ed || Nat.blt ed.on i) &&
    bif Nat.blt i m then
      (match (l.getD i default).dst with
       | none => false
       | some d => (List.range m).all fun j => Nat.beq j i ||
          (match (l.getD j default).dst with
           | none => false
           | some dj => !(Nat.beq dj d) && (!((l.getD i default).looksAt l.toArray).contains dj || (pd i).contains j || (pd j).contains i)))
    else (List.range i).all fun j => (pd i).contains j || (Nat.blt j m && isFlo (l.getD j default) && floOk l m pd i j)

theorem drawB_spec {l : List Oper} {m : Nat} {pd : Nat → List Nat} (h : drawB l m pd = true) : m ≤ l.length ∧ ∀ i, i < l.length →
    (∀ j ∈ pd i, j < i ∧ ∃ ed ∈ (l.getD i default).after, Region.binds .any ed = true ∧ (ed.on = j ∨ (ed.on < i ∧ j ∈ pd ed.on))) ∧ notSel (l.getD i default).op = true ∧
    (i < m → ∃ d, (l.getD i default).dst = some d ∧ ∀ j, j < m → j ≠ i → ∃ dj, (l.getD j default).dst = some dj ∧ dj ≠ d ∧ (dj ∈ (l.getD i default).looksAt l.toArray → j ∈ pd i ∨ i ∈ pd j)) ∧
    (m ≤ i → ∀ j, j < i → j ∈ pd i ∨ (j < m ∧ isFlo (l.getD j default) = true ∧ FloP l m pd i j)) ∧ (∀ ed ∈ (l.getD i default).after, Region.binds .any ed = true → ed.on < i) := by
  simp only [drawB, Bool.and_eq_true, List.all_eq_true, List.mem_range] at h;refine ⟨Nat.le_of_ble_eq_true h.1, fun i hi => ?_⟩;obtain ⟨⟨⟨h1, h2⟩, h0⟩, h3⟩ := h.2 i hi;refine ⟨fun j hj => ?_, h2, fun him => ?_, fun him j hj => ?_, fun ed hed hb => ?_⟩
  · obtain ⟨h4, h5⟩ := h1 j hj;refine ⟨Nat.le_of_ble_eq_true h4, ?_⟩;obtain ⟨ed, hed, h6⟩ := List.any_eq_true.1 h5;simp only [Bool.and_eq_true, Bool.or_eq_true] at h6;refine ⟨ed, by simpa using hed, h6.1, ?_⟩;rcases h6.2 with h7 | ⟨h7, h8⟩
    · exact .inl (Nat.eq_of_beq_eq_true h7)
    · exact .inr ⟨Nat.le_of_ble_eq_true h7, by simpa using h8⟩
  · rw [bltT him] at h3;simp only [cond_true] at h3
    cases hd : (l.getD i default).dst with
    | none => simp only [hd] at h3; cases h3
    | some d =>
      simp only [hd, List.all_eq_true, List.mem_range, Bool.or_eq_true] at h3;refine ⟨d, rfl, fun j hj hne => ?_⟩;rcases h3 j hj with h4 | h4
      · exact absurd (Nat.eq_of_beq_eq_true h4) hne
      · cases hdj : (l.getD j default).dst with
        | none => simp only [hdj] at h4; cases h4
        | some dj =>
          simp only [hdj, Bool.and_eq_true, Bool.not_eq_true', Bool.or_eq_true] at h4;refine ⟨dj, rfl, fun heq => ?_, fun hin => ?_⟩
          · have h5 := h4.1; subst heq; simp at h5
          · rcases h4.2 with (h5 | h5) | h5
            · have hc := List.elem_eq_true_of_mem hin; simp only [List.contains] at h5; rw [hc] at h5; cases h5
            · exact .inl (by simpa using h5)
            · exact .inr (by simpa using h5)
  · rw [bltF (by omega)] at h3;simp only [cond_false, List.all_eq_true, List.mem_range] at h3;have h4 := h3 j hj;rw [Bool.or_eq_true] at h4;rcases h4 with h4 | h4
    · exact .inl (by simpa using h4)
    · simp only [Bool.and_eq_true] at h4;exact .inr ⟨Nat.le_of_ble_eq_true h4.1.1, h4.1.2, floOk_spec h4.2⟩
  · have := h0 ed (by simpa using hed);simp only [Bool.or_eq_true, Bool.not_eq_true'] at this;rcases this with h4 | h4
    · rw [hb] at h4; cases h4
    · exact Nat.le_of_ble_eq_true h4

theorem isAlA_at {l : List Oper} {i : Nat} (h : i < l.length) : isAlA l.toArray i = isAl (l.getD i default) := by
  unfold isAlA; simp [h]
theorem al_wanted {e : Env} (h : isAl o = true) : wantedE ops n e o = true := by
  obtain ⟨dst, op, type, pos, after, guard⟩ := o;unfold isAl at h
  cases op <;> cases guard <;> simp at h
  simp [wantedE, Region.wanted]
theorem OpR.al {e : Env} {w : World} {φ : Value → World → Prop} {d : Nat} (h : OpR P r n o e w φ) (ha : isAl o = true) (hd : o.dst = some d) :
    OpR P r n o e w (fun v w' => φ v w' ∧ v = .pointer (some ⟨w.heap.size, 0, none⟩) ∧ w.heap.size < w'.heap.size) := by
  obtain ⟨dst, op, type, pos, after, guard⟩ := o;simp only at hd; subst hd;unfold isAl at ha
  cases op <;> cases guard <;> simp at ha
  rename_i el
  have key := h { tmps := Array.replicate (d + 1) undef, defers := [] } (fun a w' => ∃ v, a = ({ tmps := Array.replicate (d + 1) undef, defers := [] } : Act).put (some d) v ∧ φ v w') (fun v w' hv => ⟨v, rfl, hv⟩);intro b K hk;rw [Oper.semAt_eq _ _ _ (by simp)] at key ⊢
  generalize hr : (execOp (ev n e) ⟨some d, .alloc el, type, pos, after, none⟩).run P w = q at key ⊢
  rw [exec_mk] at hr
  cases q with
  | halt x w2 => cases x <;> simp only [Oper.uponIn] at key ⊢ <;> exact key
  | ok x w2 =>
    have hx : x = .value (.pointer (some ⟨w.heap.size, 0, none⟩)) ∧ w.heap.size < w2.heap.size := by
      cases hi : P.info? el with
      | none => exfalso; simp [execOp, mkOp, Instr.alloc, zeroValue, typeInfo, Sem.run_bind, Result.andThen, hi] at hr
      | some i =>
        cases hz : i.zero with
        | none => exfalso; simp [execOp, mkOp, Instr.alloc, zeroValue, typeInfo, Sem.run_bind, Result.andThen, hi, hz] at hr
        | some z =>
          have hxx := X_alloc (P := P) (n := n) (ty := type) (e := e) (w := w) (el := el) (z := z) (fun w => by simp [zeroValue, typeInfo, Sem.run_bind, Result.andThen, hi, hz]) z.cells.toList rfl;have := hr.symm.trans hxx.2;injection this with h1 h2;subst h1; subst h2;exact ⟨rfl, by simp⟩
    obtain ⟨rfl, hlt⟩ := hx;simp only [Oper.uponIn] at key ⊢;obtain ⟨v2, h1, h2⟩ := key
    have hv : Value.pointer (some ⟨w.heap.size, 0, none⟩) = v2 := by
      simp only [Act.put, Act.mk.injEq, and_true] at h1;have := congrArg (fun a : Array Value => a[d]?) h1
      simpa using this
    exact hk _ _ ⟨by rw [hv]; exact h2, rfl, hlt⟩
/-! ## Soundness -/
/-- The state of a schedule under way: 'done' says which operations have come; 'mu' what they handed back. -/
structure Mid (P : Program) (r : Option Nat) (n : Nat) (l : List Oper) (m : Nat) (w0 : World) (pd : Nat → List Nat) (Φ : Nat → Kd) (e0 : Env) (done : Nat → Bool) (mu : Nat → Value) (e : Env) (w : World) : Prop where
  ext : Ext w0 w
  closed : ∀ i, done i = true → i < m ∧ ∀ j ∈ pd i, done j = true
  slot : ∀ j d, done j = true → (l.getD j default).dst = some d → e d = mu j
  other : ∀ t, (∀ j, done j = true → (l.getD j default).dst ≠ some t) → e t = e0 t
  agree : ∀ lam val, (∀ k, k < m → TRk P r n l.toArray (l.take m) w0 pd Φ e0 lam val k) → (∀ j, done j = true → lam j = mu j) → ∀ j, done j = true → val j = mu j
  facts : ∀ lam val, (∀ k, k < m → TRk P r n l.toArray (l.take m) w0 pd Φ e0 lam val k) → (∀ j, done j = true → lam j = mu j) → ∀ j, done j = true → LF l.toArray n (l.take m) Φ e0 val j w
  al : ∀ j, done j = true → isAl (l.getD j default) = true → ∃ b, mu j = .pointer (some ⟨b, 0, none⟩) ∧ b < w.heap.size
  di : ∀ i j, done i = true → done j = true → i ≠ j → isAl (l.getD i default) = true → isAl (l.getD j default) = true → mu i ≠ mu j

theorem take_getD {l : List Oper} {m k : Nat} (h : k < m) : (l.take m).getD k default = l.getD k default := by
  simp [List.getElem?_take, h]
theorem Eat_other {l : List Oper} {val : Nat → Value} {e0 : Env} {t : Nat} : ∀ k, (∀ j, j < k → (l.getD j default).dst ≠ some t) → Eat l val e0 k t = e0 t
  | 0, _ => rfl
  | k + 1, h => by
    simp only [Eat]
    cases hd : (l.getD k default).dst with
    | none => simp only [updo]; exact Eat_other k fun j hj => h j (by omega)
    | some d =>
      simp only [updo];rw [upd_ne _ _ (fun heq => h k (by omega) (by rw [hd, heq]))];exact Eat_other k fun j hj => h j (by omega)
theorem Eat_slot {l : List Oper} {val : Nat → Value} {e0 : Env} {t j : Nat} : ∀ k, j < k → (l.getD j default).dst = some t → (∀ i, i < k → i ≠ j → (l.getD i default).dst ≠ some t) → Eat l val e0 k t = val j
  | 0, h, _, _ => by omega
  | k + 1, h, hd, hu => by
    simp only [Eat];by_cases hjk : j = k
    · subst hjk; rw [hd]; simp [updo, upd_same]
    · cases hdk : (l.getD k default).dst with
      | none => simp only [updo]; exact Eat_slot k (by omega) hd fun i hi hne => hu i (by omega) hne
      | some d =>
        simp only [updo];rw [upd_ne _ _ (fun heq => hu k (by omega) (by omega) (by rw [hdk, heq]))];exact Eat_slot k (by omega) hd fun i hi hne => hu i (by omega) hne
theorem ev_congr {e e' : Env} {x : Operand} (h : ∀ t, x = .tmp t → e t = e' t) : ev n e x = ev n e' x := by
  cases x with
  | tmp t => simp only [ev, h t rfl]
  | _ => rfl
theorem wantedE_congr {e e' : Env} (h : ∀ t, t ∈ o.looksAt ops → e t = e' t) : wantedE ops n e o = wantedE ops n e' o := by
  unfold wantedE Region.wanted
  cases hg : o.guard with
  | none => rfl
  | some p =>
    obtain ⟨j, want⟩ := p;simp only;unfold yielded
    cases hj : (ops[j]?).bind (·.dst) with
    | none => rfl
    | some d =>
      have hd : e d = e' d := h d (by unfold Oper.looksAt; rw [hg]; simp [hj]);simp only [Option.bind_some];by_cases hlt : d < n
      · simp [arr, hlt, hd]
      · simp [arr, hlt]
/-- In the middle of a schedule: whoever comes up reads what it reads in the text's order. -/
theorem Mid.reads {l : List Oper} {m : Nat} {done : Nat → Bool} {mu : Nat → Value} {i : Nat} (hM : Mid P r n l m w0 pd Φ e0 done mu e w) (hB : drawB l m pd = true) (him : i < m) (hni : done i = false) (hpre : ∀ j ∈ pd i, done j = true)
    {lam val : Nat → Value} (hT : ∀ k, k < m → TRk P r n l.toArray (l.take m) w0 pd Φ e0 lam val k) (hl : ∀ j, done j = true → lam j = mu j) :
    ∀ t, t ∈ (l.getD i default).looksAt l.toArray → e t = Eat (l.take m) val e0 i t := by
  intro t ht;obtain ⟨hml, hspec⟩ := drawB_spec hB;obtain ⟨hp1, _, hp2, _⟩ := hspec i (by omega);obtain ⟨d, hd, hdist⟩ := hp2 him
  -- nobody else writes what j writes
  have huniq : ∀ j j' q, j < m → j' < m → j ≠ j' → (l.getD j default).dst = some q → (l.getD j' default).dst ≠ some q := by
    intro j j' q hj hj' hne hq hq';obtain ⟨dj, h1, h2⟩ := (hspec j (by omega)).2.2.1 hj;obtain ⟨dj', h3, h4, _⟩ := h2 j' hj' (Ne.symm hne);rw [hq] at h1; rw [hq'] at h3;injection h1 with h1; injection h3 with h3;exact h4 (by rw [← h1, ← h3])
  by_cases hw : ∃ j, j < m ∧ (l.getD j default).dst = some t
  · obtain ⟨j, hjm, hjt⟩ := hw;by_cases hdone : done j = true
    · rw [hM.slot j t hdone hjt, ← hM.agree lam val hT hl j hdone];have hji : j ≠ i := fun h => by rw [h, hni] at hdone; cases hdone
      -- j has come and i reads it: j stands ahead of i
      obtain ⟨dj, h1, _, h3⟩ := hdist j hjm hji;rw [hjt] at h1; injection h1 with h1; subst h1
      have hlt : j < i := by
        rcases h3 ht with h4 | h4
        · exact (hp1 j h4).1
        · have := (hM.closed j hdone).2 i h4; rw [hni] at this; cases this
      exact (Eat_slot i hlt (by rw [take_getD hjm]; exact hjt) (fun q hq hne => by rw [take_getD (by omega)]; exact huniq j q t hjm (by omega) (Ne.symm hne) hjt)).symm
    · have hnd : done j = false := by simpa using hdone
      rw [hM.other t (fun q hq heq => by
        by_cases hqj : q = j
        · subst hqj; rw [hnd] at hq; cases hq
        · exact huniq j q t hjm (hM.closed q hq).1 (Ne.symm hqj) hjt heq)]
      refine (Eat_other i fun q hq heq => ?_).symm;rw [take_getD (by omega)] at heq;by_cases hqj : q = j
      · subst hqj;obtain ⟨dj, h1, _, h3⟩ := hdist q hjm (by omega);rw [hjt] at h1; injection h1 with h1; subst h1;rcases h3 ht with h4 | h4
        · rw [hpre q h4] at hnd; cases hnd
        · have := ((hspec q (by omega)).1 i h4).1; omega
      · exact huniq j q t hjm (by omega) (Ne.symm hqj) hjt heq
  · have hnone : ∀ j, j < m → (l.getD j default).dst ≠ some t := fun j hj h => hw ⟨j, hj, h⟩;rw [hM.other t (fun j hj => hnone j (hM.closed j hj).1)];exact (Eat_other i fun q hq => by rw [take_getD (by omega)]; exact hnone q (by omega)).symm

theorem notSel_spec {op : Op} (h : notSel op = true) : (∀ cs b, op ≠ .select cs b) ∧ ∀ c, op ≠ .defer c := by
  constructor
  · intro cs b heq; subst heq; simp [notSel] at h
  · intro c heq; subst heq; simp [notSel] at h
theorem mem_looks {t : Nat} (h : Operand.tmp t ∈ o.op.operands) : t ∈ o.looksAt ops :=
  List.mem_append_left _ (List.mem_filterMap.2 ⟨.tmp t, by simpa using h, rfl⟩)

/-- One operation more has come, and handed back v. -/
theorem Mid.next {l : List Oper} {m : Nat} {done : Nat → Bool} {mu : Nat → Value} {i : Nat} {v : Value} {w' : World} (hM : Mid P r n l m w0 pd Φ e0 done mu e w) (hB : drawB l m pd = true) (him : i < m) (hni : done i = false) (hpre : ∀ j ∈ pd i, done j = true)
    (hst : ∀ j φ, Φ j = .rel φ → ∀ v w w', φ v w → Ext w w' → φ v w') (hext : Ext w w')
    (hag : ∀ lam val, (∀ k, k < m → TRk P r n l.toArray (l.take m) w0 pd Φ e0 lam val k) → (∀ j, done j = true → lam j = mu j) → lam i = v → val i = v)
    (hfa : ∀ lam val, (∀ k, k < m → TRk P r n l.toArray (l.take m) w0 pd Φ e0 lam val k) → (∀ j, done j = true → lam j = mu j) → lam i = v → LF l.toArray n (l.take m) Φ e0 val i w')
    (hal : isAl (l.getD i default) = true → v = .pointer (some ⟨w.heap.size, 0, none⟩) ∧ w.heap.size < w'.heap.size) :
    Mid P r n l m w0 pd Φ e0 (fun j => done j || Nat.beq j i) (fun j => if j = i then v else mu j) (updo e (l.getD i default).dst v) w' := by
  obtain ⟨hml, hspec⟩ := drawB_spec hB;obtain ⟨d, hd, hdist⟩ := (hspec i (by omega)).2.2.1 him
  have hor : ∀ j, (done j || Nat.beq j i) = true → done j = true ∨ j = i := fun j h => by
    rw [Bool.or_eq_true] at h;rcases h with h | h
    · exact .inl h
    · exact .inr (Nat.eq_of_beq_eq_true h)
  have hdn : ∀ j, done j = true → j ≠ i := fun j hj h => by rw [h, hni] at hj; cases hj
  have hold : ∀ lam : Nat → Value, (∀ j, (done j || Nat.beq j i) = true → lam j = if j = i then v else mu j) → (∀ j, done j = true → lam j = mu j) ∧ lam i = v := fun lam h =>
    ⟨fun j hj => by have := h j (by simp [hj]); rwa [if_neg (hdn j hj)] at this, by have := h i (by simp); simpa using this⟩
  constructor
  · exact hM.ext.trans hext
  · intro j hj;rcases hor j hj with h | rfl
    · exact ⟨(hM.closed j h).1, fun q hq => by simp [(hM.closed j h).2 q hq]⟩
    · exact ⟨him, fun q hq => by simp [hpre q hq]⟩
  · intro j q hj hq;rw [hd]; simp only [updo];rcases hor j hj with h | rfl
    · have hji := hdn j h;obtain ⟨dj, h1, h2, _⟩ := hdist j (hM.closed j h).1 hji;rw [hq] at h1; injection h1 with h1; subst h1;rw [upd_ne _ _ h2, if_neg hji]; exact hM.slot j q h hq
    · rw [hq] at hd; injection hd with hd; subst hd;simp [upd_same]
  · intro t ht;rw [hd]; simp only [updo];rw [upd_ne _ _ (fun heq => ht i (by simp) (by rw [hd, heq]))];exact hM.other t fun j hj => ht j (by simp [hj])
  · intro lam val hT hl j hj;obtain ⟨h1, h2⟩ := hold lam hl;rcases hor j hj with h | rfl
    · rw [if_neg (hdn j h)]; exact hM.agree lam val hT h1 j h
    · rw [if_pos rfl]; exact hag lam val hT h1 h2
  · intro lam val hT hl j hj;obtain ⟨h1, h2⟩ := hold lam hl;rcases hor j hj with h | rfl
    · have := hM.facts lam val hT h1 j h;intro hw φ hφ;exact hst j φ hφ _ _ _ (this hw φ hφ) hext
    · exact hfa lam val hT h1 h2
  · intro j hj ha;rcases hor j hj with h | rfl
    · rw [if_neg (hdn j h)];obtain ⟨b, h1, h2⟩ := hM.al j h ha;exact ⟨b, h1, Nat.lt_of_lt_of_le h2 hext.size⟩
    · rw [if_pos rfl]; exact ⟨_, (hal ha).1, (hal ha).2⟩
  · intro a b ha hb hne haa hab;rcases hor a ha with h | rfl
    · rcases hor b hb with h' | rfl
      · rw [if_neg (hdn a h), if_neg (hdn b h')]; exact hM.di a b h h' hne haa hab
      · rw [if_neg (hdn a h), if_pos rfl];obtain ⟨q, h1, h2⟩ := hM.al a h haa;rw [h1, (hal hab).1]; intro hq; injection hq with hq; injection hq with hq; injection hq with hq; omega
    · rcases hor b hb with h' | rfl
      · rw [if_pos rfl, if_neg (hdn b h')];obtain ⟨q, h1, h2⟩ := hM.al b h' hab;rw [h1, (hal haa).1]; intro hq; injection hq with hq; injection hq with hq; injection hq with hq; omega
      · exact absurd rfl hne
theorem erase_len {U : List Nat} {i f : Nat} (h : i ∈ U) (hl : U.length ≤ f + 1) : (U.erase i).length ≤ f := by
  rw [List.length_erase_of_mem h]; omega
theorem getD_at {l : List Oper} {i : Nat} (h : i < l.length) : l.toArray[i]? = some (l.getD i default) := by simp [h]
theorem flo_guard {o : Oper} (h : isFlo o = true) : o.guard = none := by
  obtain ⟨dst, op, type, pos, after, guard⟩ := o;unfold isFlo at h
  cases op <;> cases guard <;> simp at h <;> rfl
theorem flo_wanted {o : Oper} {e : Env} (h : isFlo o = true) : wantedE ops n e o = true := by simp [wantedE, Region.wanted, flo_guard h]
theorem flo_al {o : Oper} (h : isFlo o = true) : isAl o = false := by
  obtain ⟨dst, op, type, pos, after, guard⟩ := o;unfold isFlo at h; unfold isAl
  cases op <;> cases guard <;> simp at h <;> rfl
theorem flo_any {o : Oper} {e : Env} {w : World} {v : Value} (h : isFlo o = true) (hx : Ex P n o.op o.type e w v w) (w' : World) : Ex P n o.op o.type e w' v w' := by
  obtain ⟨dst, op, type, pos, after, guard⟩ := o;unfold isFlo at h;obtain ⟨h1, h2⟩ := hx;refine ⟨h1, ?_⟩
  cases op <;> cases guard <;> simp at h
  case extract x i =>
    simp only [execOp, mkOp] at h2 ⊢;unfold Instr.extract at h2 ⊢
    cases hv : ev n e x <;> simp only [hv] at h2 ⊢ <;> (try (simp [stuck, Sem.run] at h2; done))
    rename_i vs
    cases hi : vs[i]? <;> simp only [hi] at h2 ⊢ <;> simp [Sem.run_bind, Result.andThen] at h2 ⊢
    exact h2
  case move x => simpa [execOp, mkOp] using h2
/-- The forced end of a region; operations that only look at slots may still be to come. -/
theorem any_fl {l : List Oper} {m : Nat} (hB : drawB l m pd = true) : ∀ (fuel k : Nat) (listed : Array Bool) (pend : Nat → Bool) (ds : List Deferred) (e eF : Env) (w : World) (U : List Nat), m ≤ k → listed.size = l.length →
    (∀ i, i < l.length → (listed.getD i true = true ↔ i < k ∧ pend i = false)) →
    (∀ j, pend j = true → j < m ∧ isFlo (l.getD j default) = true ∧ ∃ d, (l.getD j default).dst = some d ∧ (∀ w, Ex P n (l.getD j default).op (l.getD j default).type eF w (eF d) w) ∧
      ∀ q, q < m → ∀ dq, (l.getD q default).dst = some dq → dq ∈ (l.getD j default).looksAt l.toArray → q ∈ pd j) →
    (∀ t, (∀ j, pend j = true → (l.getD j default).dst ≠ some t) → e t = eF t) → (∀ i, i < k → pend i = false → ∀ j ∈ pd i, pend j = false) →
    (∀ i, i < l.length → (k ≤ i ∨ pend i = true) → i ∈ U) → U.length ≤ fuel → WL P r n l.toArray N (l.drop k) ds eF w →
    wpAnyIn (FW r) 0 P .any l.toArray (Qof n N R X) fuel listed (act n ds e) w := by
  obtain ⟨hml, hspec⟩ := drawB_spec hB
  have over : ∀ (k : Nat) (listed : Array Bool) (pend : Nat → Bool) (ds : List Deferred) (e eF : Env) (w : World), l.length ≤ k → (∀ j, pend j = false) → (∀ t, (∀ j, pend j = true → (l.getD j default).dst ≠ some t) → e t = eF t) →
      (∀ i, i < l.length → (listed.getD i true = true ↔ i < k ∧ pend i = false)) → WL P r n l.toArray N (l.drop k) ds eF w → Qof n N R X .normal (act n ds e) w ∧ ∀ i, i ∉ Region.ready .any l.toArray listed := by
    intro k listed pend ds e eF w hk hp hag hl hW;have : e = eF := funext fun t => hag t fun j hj => (by rw [hp j] at hj; cases hj);subst this;rw [List.drop_eq_nil_of_le hk] at hW;refine ⟨⟨ds, e, rfl, hW⟩, fun i hi => ?_⟩;obtain ⟨h0, o, ho, _⟩ := mem_ready.1 hi;have hil : i < l.length := (by simpa using (Array.getElem?_eq_some_iff.1 ho).1);rw [(hl i hil).2 ⟨by omega, hp i⟩] at h0; cases h0
  intro fuel
  induction fuel with
  | zero =>
    intro k listed pend ds e eF w U hmk hsz hl hP hag hcl hU hlen hW;have hU0 : U = [] := List.length_eq_zero_iff.1 (by omega)
    have hk : l.length ≤ k := by
      rcases Nat.lt_or_ge k l.length with h | h
      · have h1 := hU k h (.inl (Nat.le_refl _)); rw [hU0] at h1; cases h1
      · exact h
    have hp : ∀ j, pend j = false := fun j => by
      cases hq : pend j with
      | false => rfl
      | true => have h1 := hU j (by have := (hP j hq).1; omega) (.inr hq); rw [hU0] at h1; cases h1
    obtain ⟨h1, h2⟩ := over k listed pend ds e eF w hk hp hag hl hW;exact ⟨List.eq_nil_iff_forall_not_mem.2 h2, h1⟩
  | succ fuel ih =>
    intro k listed pend ds e eF w U hmk hsz hl hP hag hcl hU hlen hW;have hgf : ∀ i, i < l.length → listed.getD i false = listed.getD i true := fun i hi => (by simp [hsz, hi]);by_cases hover : l.length ≤ k ∧ ∀ j, pend j = false
    · obtain ⟨h1, h2⟩ := over k listed pend ds e eF w hover.1 hover.2 hag hl hW;exact ⟨fun _ => h1, fun i hi => absurd hi (h2 i)⟩
    · refine ⟨fun hnil => ?_, fun i hi => ?_⟩
      · -- somebody is ready
        exfalso
        have hex : ∃ i, i < l.length ∧ listed.getD i true = false ∧ ∀ j, j < i → listed.getD j true = true := by
          have h0 : ∃ i, i < l.length ∧ listed.getD i true = false := by
            by_cases hk : l.length ≤ k
            · obtain ⟨j, hj⟩ : ∃ j, pend j = true := by
                refine Classical.byContradiction fun hno => hover ⟨hk, fun j => ?_⟩
                cases hq : pend j with
                | false => rfl
                | true => exact absurd ⟨j, hq⟩ hno
              refine ⟨j, by have := (hP j hj).1; omega, ?_⟩
              cases hq : listed.getD j true with
              | false => rfl
              | true => have := ((hl j (by have := (hP j hj).1; omega)).1 hq).2; rw [hj] at this; cases this
            · refine ⟨k, by omega, ?_⟩
              cases hq : listed.getD k true with
              | false => rfl
              | true => have := ((hl k (by omega)).1 hq).1; omega
          obtain ⟨i, hi, hq⟩ := h0
          induction i using Nat.strongRecOn with
          | _ i ih' =>
            by_cases h : ∃ j, j < i ∧ listed.getD j true = false
            · obtain ⟨j, hj, hjq⟩ := h; exact ih' j hj (by omega) hjq
            · refine ⟨i, hi, hq, fun j hj => ?_⟩
              cases hq' : listed.getD j true with
              | true => rfl
              | false => exact absurd ⟨j, hj, hq'⟩ h
        obtain ⟨i, hil, hq, hb⟩ := hex
        have : i ∈ Region.ready .any l.toArray listed := mem_ready.2 ⟨hq, _, getD_at hil, fun ed hed hbd => by
          have h1 := (hspec i hil).2.2.2.2 ed hed hbd
          rw [hgf _ (by omega)]; exact hb _ h1⟩
        rw [hnil] at this; cases this
      · obtain ⟨h0, o, ho, hedges⟩ := mem_ready.1 hi;have hil : i < l.length := (by simpa using (Array.getElem?_eq_some_iff.1 ho).1);rw [getD_at hil] at ho; injection ho with ho;have hlist : ∀ j, j < l.length → listed.getD j false = true → j < k ∧ pend j = false := fun j hj h => by rw [hgf j hj] at h; exact (hl j hj).1 h
        have hpre : ∀ j ∈ pd i, j < k ∧ pend j = false := by
          intro j hj;obtain ⟨hji, ed, hed, hb, h2⟩ := (hspec i hil).1 j hj;rw [ho] at hed;have h3 := hedges ed hed hb;rcases h2 with h2 | ⟨h2, h4⟩
          · subst h2; exact hlist _ (by omega) h3
          · have h5 := hlist ed.on (by omega) h3;have h6 := ((hspec ed.on (by omega)).1 j h4).1;exact ⟨by omega, hcl ed.on h5.1 h5.2 j h4⟩
        have hnl : ¬ (i < k ∧ pend i = false) := fun h => (by rw [(hl i hil).2 h] at h0; cases h0);unfold wpOpIn;rw [getD_at hil];simp only
        cases hpi : pend i with
        | true =>
          obtain ⟨him, hflo, d, hd, hEx, hq⟩ := hP i hpi
          have hops : ∀ t, t ∈ (l.getD i default).looksAt l.toArray → e t = eF t := fun t ht => hag t fun j hj hjt => by
            have h1 := hP j hj;have := (hpre j (hq j h1.1 t hjt ht)).2;rw [hj] at this; cases this
          have hsel := notSel_spec ((hspec i hil).2.1);have hx := Ex_congr (e' := e) hsel.1 (fun x hx => ev_congr fun t ht => (hops t (mem_looks (by rw [← ht]; exact hx))).symm) (hEx w);have hw' : Region.wanted (l.getD i default) (yielded l.toArray (act n ds e).tmps) = true := flo_wanted (e := e) hflo;rw [if_pos hw'];have hop := OpW_v (K := fun e' w' => wpAnyIn (FW r) 0 P .any l.toArray (Qof n N R X) fuel (listed.setIfInBounds i true) (act n ds e') w') (ds := ds) (r := r) hx ?_
          · refine Oper.wpIn_monoQ (fun a w' hh => ?_) (fun x a w q => q.elim) hop;obtain ⟨v, rfl, hh⟩ := hh;exact hh
          · rw [hd];refine ih k (listed.setIfInBounds i true) (fun j => pend j && !Nat.beq j i) ds (upd e d (eF d)) eF w (U.erase i) hmk (by simp [hsz]) ?_ ?_ ?_ ?_ ?_ (erase_len (hU i hil (.inr hpi)) hlen) hW
            · intro j hj;by_cases hji : i = j
              · subst hji; simp [hsz, hil]; omega
              · rw [getD_set_ne true hji, hl j hj, beqF (Ne.symm hji)]; simp
            · intro j hj;simp only [Bool.and_eq_true] at hj;exact hP j hj.1
            · intro t ht;by_cases htd : t = d
              · subst htd; rw [upd_same]
              · rw [upd_ne _ _ htd];refine hag t fun j hj hjt => ?_;by_cases hji : j = i
                · subst hji; rw [hd] at hjt; injection hjt with hjt; exact htd hjt.symm
                · exact ht j (by rw [hj, beqF hji]; rfl) hjt
            · intro a ha hpa j hj;by_cases hai : a = i
              · subst hai; rw [(hpre j hj).2]; rfl
              · rw [beqF hai] at hpa;rw [hcl a ha (by simpa using hpa) j hj]; rfl
            · intro j hj hkj;by_cases hji : j = i
              · subst hji; exfalso;rcases hkj with h | h
                · omega
                · simp at h
              · refine (List.mem_erase_of_ne hji).2 (hU j hj ?_);rcases hkj with h | h
                · exact .inl h
                · rw [beqF hji] at h; exact .inr (by simpa using h)
        | false =>
          have hki : k ≤ i := by
            rcases Nat.lt_or_ge i k with h | h
            · exact absurd ⟨h, hpi⟩ hnl
            · exact h
          have hik : i = k := by
            rcases Nat.lt_or_ge k i with h | h
            · exfalso;rcases (hspec i hil).2.2.2.1 (by omega) k h with h1 | h1
              · have := (hpre k h1).1; omega
              · omega
            · omega
          subst hik
          have hfl : ∀ j, pend j = true → FloP l m pd i j := fun j hj => by
            have hjm := (hP j hj).1;rcases (hspec i hil).2.2.2.1 (by omega) j (by omega) with h1 | h1
            · have := (hpre j h1).2; rw [hj] at this; cases this
            · exact h1.2.2
          have hops : ∀ t, t ∈ (l.getD i default).looksAt l.toArray → e t = eF t := fun t ht => hag t fun j hj hjt => by
            obtain ⟨dj, h1, h2, _⟩ := hfl j hj;rw [hjt] at h1; injection h1 with h1; subst h1;exact h2 ht
          have hsel := notSel_spec ((hspec i hil).2.1)
          have hdrop : l.drop i = l.getD i default :: l.drop (i + 1) := by
            rw [List.drop_eq_getElem_cons hil]; simp [hil]
          rw [hdrop] at hW;simp only [WL] at hW
          have hnext : ∀ v w, WL P r n l.toArray N (l.drop (i + 1)) ds (updo eF (l.getD i default).dst v) w → wpAnyIn (FW r) 0 P .any l.toArray (Qof n N R X) fuel (listed.setIfInBounds i true) (act n ds (updo e (l.getD i default).dst v)) w := by
            intro v w hW';refine ih (i + 1) (listed.setIfInBounds i true) pend ds (updo e (l.getD i default).dst v) (updo eF (l.getD i default).dst v) w (U.erase i) (by omega) (by simp [hsz]) ?_ ?_ ?_ ?_ ?_ (erase_len (hU i hil (.inl (Nat.le_refl _))) hlen) hW'
            · intro j hj;by_cases hji : i = j
              · subst hji; simp [hsz, hil, hpi]
              · rw [getD_set_ne true hji, hl j hj];constructor
                · rintro ⟨h1, h2⟩; exact ⟨by omega, h2⟩
                · rintro ⟨h1, h2⟩; exact ⟨by omega, h2⟩
            · intro j hj;obtain ⟨h1, h2, d, hd, hEx, hq⟩ := hP j hj;obtain ⟨dj, f1, _, f3, _⟩ := hfl j hj;rw [hd] at f1; injection f1 with f1; subst f1;refine ⟨h1, h2, d, hd, fun w => ?_, hq⟩
              cases hdi : (l.getD i default).dst with
              | none => exact hEx w
              | some di =>
                obtain ⟨g1, g2⟩ := f3 di hdi;simp only [updo];rw [upd_ne _ _ (Ne.symm g1)];have hsj := notSel_spec ((hspec j (by omega)).2.1);exact Ex_congr hsj.1 (fun x hx => ev_congr fun t ht => (upd_ne _ _ (fun heq => g2 (by rw [← heq]; exact mem_looks (by rw [← ht]; exact hx)))).symm) (hEx w)
            · intro t ht
              cases hdi : (l.getD i default).dst with
              | none => exact hag t ht
              | some di =>
                simp only [updo];by_cases htd : t = di
                · subst htd; rw [upd_same, upd_same]
                · rw [upd_ne _ _ htd, upd_ne _ _ htd]; exact hag t ht
            · intro a ha hpa j hj;by_cases hai : a = i
              · subst hai; exact (hpre j hj).2
              · exact hcl a (by omega) hpa j hj
            · intro j hj hkj;by_cases hji : j = i
              · subst hji; exfalso;rcases hkj with h | h
                · omega
                · rw [hpi] at h; cases h
              · refine (List.mem_erase_of_ne hji).2 (hU j hj ?_);rcases hkj with h | h
                · exact .inl (by omega)
                · exact .inr h
          have hwe : wantedE l.toArray n e (l.getD i default) = wantedE l.toArray n eF (l.getD i default) := wantedE_congr fun t ht => hops t ht;by_cases hwant : wantedE l.toArray n e (l.getD i default) = true
          · have hw' : Region.wanted (l.getD i default) (yielded l.toArray (act n ds e).tmps) = true := hwant;have hw2 : Region.wanted (l.getD i default) (yielded l.toArray (arr n eF)) = true := (by rw [hwe] at hwant; exact hwant);rw [if_pos hw'];rw [if_pos hw2] at hW;have hmv := OpW_move (e := e) hW hsel.1 hsel.2 (fun x hx => ev_congr fun t ht => (hops t (mem_looks (by rw [← ht]; exact hx))).symm);refine Oper.wpIn_monoQ (fun a w' hh => ?_) (fun x a w q => q.elim) hmv;obtain ⟨v, rfl, v', h1, h2⟩ := hh;rw [h1]; exact hnext v' w' h2
          · have hwf : wantedE l.toArray n e (l.getD i default) = false := (by simpa using hwant);have hw' : ¬ Region.wanted (l.getD i default) (yielded l.toArray (act n ds e).tmps) = true := hwant;have hw2 : ¬ Region.wanted (l.getD i default) (yielded l.toArray (arr n eF)) = true := (by rw [hwe] at hwant; exact hwant);rw [if_neg hw'];rw [if_neg hw2] at hW;refine ⟨fun _ _ => trivial, ?_⟩;rw [act_put];exact hnext undef w hW

theorem any_pre {l : List Oper} {m : Nat} (hB : drawB l m pd = true) (hst : ∀ j φ, Φ j = .rel φ → ∀ v w w', φ v w → Ext w w' → φ v w') (hfr : ∀ j, isFlo (l.getD j default) = true → Φ j = .pure)
    (hWS : WS P r n l.toArray w0 pd Φ (fun e1 Fw => ∀ w, Ext w0 w → Fw w → WL P r n l.toArray N (l.drop m) ds e1 w) (l.take m) 0 e0 []) :
    ∀ (fuel : Nat) (listed : Array Bool) (mu : Nat → Value) (e : Env) (w : World) (U : List Nat), listed.size = l.length → (∀ i, i < l.length → m ≤ i → listed.getD i true = false) →
    (∀ i, i < l.length → listed.getD i true = false → i ∈ U) → U.length ≤ fuel → Mid P r n l m w0 pd Φ e0 (fun j => listed.getD j false) mu e w →
    wpAnyIn (FW r) 0 P .any l.toArray (Qof n N R X) fuel listed (act n ds e) w := by
  obtain ⟨hml, hspec⟩ := drawB_spec hB;have hpd : ∀ k, k < l.length → ∀ j ∈ pd k, j < k := fun k hk j hj => ((hspec k hk).1 j hj).1
  -- outside the region nobody waits for anybody
  have hlen : (l.take m).length = m := by simp [hml]
  have run : ∀ lam : Nat → Value, ∃ val, (∀ k, k < m → TRk P r n l.toArray (l.take m) w0 pd Φ e0 lam val k) ∧ ∃ F' : List (Nat × Value × (World → Prop)),
      (∀ w, Ext w0 w → ((∀ p ∈ F', p.2.2 w) ∧ apartF l.toArray F') → WL P r n l.toArray N (l.drop m) ds (Eat (l.take m) val e0 m) w) ∧ (∀ p ∈ F', p.1 < m ∧ val p.1 = p.2.1 ∧ ∀ w, LF l.toArray n (l.take m) Φ e0 val p.1 w → p.2.2 w) := by
    intro lam
    have := WS_run (pd := fun k => if k < l.length then pd k else []) (l := l.take m) (fun k j hj => by
      by_cases hk : k < l.length
      · simp only [hk, if_true] at hj; exact hpd k hk j hj
      · simp [hk] at hj) lam (l.take m) 0 (fun _ => undef) [] (by simp) (by simp) (e0 := e0) (P := P) (r := r) (n := n) (ops := l.toArray) (w0 := w0) (Φ := Φ) (K := fun e1 Fw => ∀ w, Ext w0 w → Fw w → WL P r n l.toArray N (l.drop m) ds e1 w) ?_ (by simp) (by simp)
    · rw [hlen] at this;obtain ⟨val, h1, h2⟩ := this;refine ⟨val, fun k hk => ?_, h2⟩;have := h1 k hk;unfold TRk at this ⊢
      simpa only [show k < l.length by omega, if_true] using this
    · -- the walk only asks for the predecessors of what is in the region
      have gen : ∀ (suf : List Oper) (i : Nat) (e : Env) (F : List (Nat × Value × (World → Prop))) (K : Env → (World → Prop) → Prop), i + suf.length ≤ l.length → WS P r n l.toArray w0 pd Φ K suf i e F →
          WS P r n l.toArray w0 (fun k => if k < l.length then pd k else []) Φ K suf i e F := by
        intro suf
        induction suf with
        | nil => intro i e F K _ h; exact h
        | cons o suf ih =>
          intro i e F K hi h;have hil : i < l.length := (by simp at hi; omega);have hi' : i + 1 + suf.length ≤ l.length := (by simp at hi; omega);simp only [WS] at h ⊢;refine ⟨fun hw => ?_, fun hw => ih _ _ _ _ hi' (h.2 hw)⟩;have h1 := h.1 hw
          cases hk : Φ i with
          | pure => simp only [hk, hil, if_true] at h1 ⊢; obtain ⟨v, a, b⟩ := h1; exact ⟨v, a, ih _ _ _ _ hi' b⟩
          | val t => simp only [hk, hil, if_true] at h1 ⊢; exact ⟨h1.1, ih _ _ _ _ hi' h1.2⟩
          | rel φ => simp only [hk, hil, if_true] at h1 ⊢; exact ⟨h1.1, fun v => ih _ _ _ _ hi' (h1.2 v)⟩
      exact gen _ _ _ _ _ (by simp; omega) hWS
  -- when the whole prefix has come, the forced end stands
  have fin : ∀ (fuel : Nat) (listed : Array Bool) (mu : Nat → Value) (e : Env) (w : World) (U : List Nat), listed.size = l.length → (∀ i, i < l.length → m ≤ i → listed.getD i true = false) →
      (∀ i, i < l.length → listed.getD i true = false → i ∈ U) → U.length ≤ fuel → Mid P r n l m w0 pd Φ e0 (fun j => listed.getD j false) mu e w → (∀ i, i < m → listed.getD i true = true) →
      wpAnyIn (FW r) 0 P .any l.toArray (Qof n N R X) fuel listed (act n ds e) w := by
    intro fuel listed mu e w U hsz htail hU hUl hM hall;have hgf : ∀ i, i < l.length → listed.getD i false = listed.getD i true := fun i hi => (by simp [hsz, hi]);have hdone : ∀ i, i < m → listed.getD i false = true := fun i hi => (by rw [hgf i (by omega)]; exact hall i hi);obtain ⟨val, hT, F', hK, hF⟩ := run mu
    have hE : Eat (l.take m) val e0 m = e := by
      funext t
      have huniq : ∀ j j' q, j < m → j' < m → j ≠ j' → (l.getD j default).dst = some q → (l.getD j' default).dst ≠ some q := by
        intro j j' q hj hj' hne hq hq';obtain ⟨dj, h1, h2⟩ := (hspec j (by omega)).2.2.1 hj;obtain ⟨dj', h3, h4, _⟩ := h2 j' hj' (Ne.symm hne);rw [hq] at h1; rw [hq'] at h3;injection h1 with h1; injection h3 with h3;exact h4 (by rw [← h1, ← h3])
      by_cases hw : ∃ j, j < m ∧ (l.getD j default).dst = some t
      · obtain ⟨j, hjm, hjt⟩ := hw;rw [hM.slot j t (hdone j hjm) hjt, ← hM.agree mu val hT (fun _ _ => rfl) j (hdone j hjm)];exact Eat_slot m hjm (by rw [take_getD hjm]; exact hjt) fun q hq hne => by rw [take_getD hq]; exact huniq j q t hjm hq (Ne.symm hne) hjt
      · rw [hM.other t fun j hj h => hw ⟨j, (hM.closed j hj).1, h⟩];exact Eat_other m fun q hq => by rw [take_getD hq]; exact fun h => hw ⟨q, hq, h⟩
    have hW := hK w hM.ext ⟨fun p hp => (hF p hp).2.2 w (hM.facts mu val hT (fun _ _ => rfl) p.1 (hdone p.1 (hF p hp).1)), fun p hp q hq hne ha hb => by
      have hp1 := (hF p hp).1; have hq1 := (hF q hq).1;rw [isAlA_at (by omega)] at ha hb;rw [← (hF p hp).2.1, ← (hF q hq).2.1, hM.agree mu val hT (fun _ _ => rfl) p.1 (hdone p.1 hp1), hM.agree mu val hT (fun _ _ => rfl) q.1 (hdone q.1 hq1)]
      exact hM.di p.1 q.1 (hdone p.1 hp1) (hdone q.1 hq1) hne ha hb⟩
    rw [hE] at hW
    refine any_fl hB fuel m listed (fun _ => false) ds e e w U (Nat.le_refl _) hsz (fun i hi => ⟨fun h => ⟨?_, rfl⟩, fun h => hall i h.1⟩) (fun j hj => by cases hj) (fun _ _ => rfl) (fun _ _ _ _ _ => rfl)
      (fun i hi hmi => hU i hi (htail i hi (hmi.resolve_right (by simp)))) hUl hW
    rcases Nat.lt_or_ge i m with h1 | h1
    · exact h1
    · rw [htail i hi h1] at h; cases h
  intro fuel
  induction fuel with
  | zero =>
    intro listed mu e w U hsz htail hU hUl hM;have hU0 : U = [] := List.length_eq_zero_iff.1 (by omega);refine fin 0 listed mu e w U hsz htail hU hUl hM fun i hi => ?_
    cases hq : listed.getD i true with
    | true => rfl
    | false => have := hU i (by omega) hq; rw [hU0] at this; cases this
  | succ fuel ih =>
    intro listed mu e w U hsz htail hU hUl hM;have hgf : ∀ i, i < l.length → listed.getD i false = listed.getD i true := fun i hi => (by simp [hsz, hi]);by_cases hall : ∀ i, i < m → listed.getD i true = true
    · exact fin (fuel + 1) listed mu e w U hsz htail hU hUl hM hall
    · -- somebody of the prefix is still to come; the first of them may
      have hex : ∃ i, i < m ∧ listed.getD i true = false := by
        refine Classical.byContradiction fun hno => hall fun i hi => ?_
        cases hq : listed.getD i true with
        | true => rfl
        | false => exact absurd ⟨i, hi, hq⟩ hno
      have hmin : ∃ i, i < m ∧ listed.getD i true = false ∧ ∀ j, j < i → listed.getD j true = true := by
        obtain ⟨i, hi, hq⟩ := hex
        induction i using Nat.strongRecOn with
        | _ i ih' =>
          by_cases h : ∃ j, j < i ∧ listed.getD j true = false
          · obtain ⟨j, hj, hjq⟩ := h; exact ih' j hj (by omega) hjq
          · refine ⟨i, hi, hq, fun j hj => ?_⟩
            cases hq' : listed.getD j true with
            | true => rfl
            | false => exact absurd ⟨j, hj, hq'⟩ h
      by_cases htr : ∃ i, i ∈ Region.ready .any l.toArray listed ∧ m ≤ i
      · -- the forced end may begin: who is still to come only looks at slots
        obtain ⟨i, hi, hmi⟩ := htr;obtain ⟨h0, o, ho, hedges⟩ := mem_ready.1 hi;have hil : i < l.length := (by simpa using (Array.getElem?_eq_some_iff.1 ho).1);rw [getD_at hil] at ho; injection ho with ho
        have hpre : ∀ j ∈ pd i, listed.getD j false = true := by
          intro j hj;obtain ⟨_, ed, hed, hb, h2⟩ := (hspec i hil).1 j hj;rw [ho] at hed;have h3 := hedges ed hed hb;rcases h2 with h2 | ⟨h2, h4⟩
          · rw [← h2]; exact h3
          · exact (hM.closed ed.on h3).2 j h4
        have hfl : ∀ j, j < m → listed.getD j true = false → isFlo (l.getD j default) = true ∧ FloP l m pd i j := fun j hj hq => by
          rcases (hspec i hil).2.2.2.1 hmi j (by omega) with h1 | h1
          · have := hpre j h1; rw [hgf j (by omega), hq] at this; cases this
          · exact ⟨h1.2.1, h1.2.2⟩
        obtain ⟨val, hT, F', hK, hF⟩ := run mu;have hdn : ∀ j, j < m → listed.getD j true = true → listed.getD j false = true := fun j hj hq => by rw [hgf j (by omega)]; exact hq
        have hLF : ∀ j, j < m → LF l.toArray n (l.take m) Φ e0 val j w := fun j hj => by
          cases hq : listed.getD j true with
          | true => exact hM.facts mu val hT (fun _ _ => rfl) j (hdn j hj hq)
          | false => intro _ φ hφ; rw [hfr j (hfl j hj hq).1] at hφ; cases hφ
        have huniq : ∀ j j' q, j < m → j' < m → j ≠ j' → (l.getD j default).dst = some q → (l.getD j' default).dst ≠ some q := by
          intro j j' q hj hj' hne hq hq';obtain ⟨dj, h1, h2⟩ := (hspec j (by omega)).2.2.1 hj;obtain ⟨dj', h3, h4, _⟩ := h2 j' hj' (Ne.symm hne);rw [hq] at h1; rw [hq'] at h3;injection h1 with h1; injection h3 with h3;exact h4 (by rw [← h1, ← h3])
        have hslot : ∀ j q, j < m → (l.getD j default).dst = some q → Eat (l.take m) val e0 m q = val j := fun j q hj hq =>
          Eat_slot m hj (by rw [take_getD hj]; exact hq) fun q' hq' hne => by rw [take_getD hq']; exact huniq j q' q hj hq' (Ne.symm hne) hq
        have hal : ∀ j, j < m → isAl (l.getD j default) = true → listed.getD j false = true := fun j hj ha => by
          cases hq : listed.getD j true with
          | true => exact hdn j hj hq
          | false => rw [flo_al (hfl j hj hq).1] at ha; cases ha
        have hW := hK w hM.ext ⟨fun p hp => (hF p hp).2.2 w (hLF p.1 (hF p hp).1), fun p hp q hq hne ha hb => by
          have hp1 := (hF p hp).1; have hq1 := (hF q hq).1;rw [isAlA_at (by omega)] at ha hb;rw [← (hF p hp).2.1, ← (hF q hq).2.1, hM.agree mu val hT (fun _ _ => rfl) p.1 (hal _ hp1 ha), hM.agree mu val hT (fun _ _ => rfl) q.1 (hal _ hq1 hb)]
          exact hM.di p.1 q.1 (hal _ hp1 ha) (hal _ hq1 hb) hne ha hb⟩
        refine any_fl hB (fuel + 1) m listed (fun j => Nat.blt j m && !(listed.getD j true)) ds e (Eat (l.take m) val e0 m) w U (Nat.le_refl _) hsz ?_ ?_ ?_ ?_ ?_ hUl hW
        · intro j hj;constructor
          · intro h;rcases Nat.lt_or_ge j m with h1 | h1
            · exact ⟨h1, by rw [h]; simp⟩
            · rw [htail j hj h1] at h; cases h
          · rintro ⟨h1, h2⟩
            rw [bltT h1] at h2; simpa using h2
        · intro j hj;simp only [Bool.and_eq_true, Bool.not_eq_true'] at hj;have hjm : j < m := Nat.le_of_ble_eq_true hj.1;obtain ⟨hflo, dj, f1, f2, f3, f4⟩ := hfl j hjm hj.2;refine ⟨hjm, hflo, dj, f1, fun w' => ?_, f4⟩;have htk : (l.take m).getD j default = l.getD j default := take_getD hjm;have hTj := (hT j hjm).1 (by rw [htk]; exact flo_wanted hflo);simp only [hfr j hflo, htk] at hTj;have hx := hTj w hM.ext (fun q hq => hLF q (by have := ((hspec j (by omega)).1 q hq).1; omega));rw [hslot j dj hjm f1];have hsj := notSel_spec ((hspec j (by omega)).2.1);refine flo_any hflo (Ex_congr hsj.1 (fun x hx => ev_congr fun t ht => ?_) hx) w';have hin : t ∈ (l.getD j default).looksAt l.toArray := mem_looks (by rw [← ht]; exact hx);by_cases hwr : ∃ q, q < m ∧ (l.getD q default).dst = some t
          · obtain ⟨q, hqm, hqt⟩ := hwr;have hqj := ((hspec j (by omega)).1 q (f4 q hqm t hqt hin)).1;rw [hslot q t hqm hqt];exact Eat_slot j hqj (by rw [take_getD hqm]; exact hqt) fun q' hq' hne => by rw [take_getD (by omega)]; exact huniq q q' t hqm (by omega) (Ne.symm hne) hqt
          · rw [Eat_other j fun q hq => by rw [take_getD (by omega)]; exact fun h => hwr ⟨q, by omega, h⟩];exact (Eat_other m fun q hq => by rw [take_getD hq]; exact fun h => hwr ⟨q, hq, h⟩).symm
        · intro t ht;by_cases hwr : ∃ q, q < m ∧ (l.getD q default).dst = some t
          · obtain ⟨q, hqm, hqt⟩ := hwr
            cases hq : listed.getD q true with
            | true => rw [hM.slot q t (hdn q hqm hq) hqt, ← hM.agree mu val hT (fun _ _ => rfl) q (hdn q hqm hq), hslot q t hqm hqt]
            | false => exact absurd hqt (ht q (by rw [bltT hqm, hq]; rfl))
          · rw [hM.other t fun j hj h => hwr ⟨j, (hM.closed j hj).1, h⟩];exact (Eat_other m fun q hq => by rw [take_getD hq]; exact fun h => hwr ⟨q, hq, h⟩).symm
        · intro a ha hpa j hj;rw [bltT ha] at hpa;have h1 : listed.getD a true = true := (by simpa using hpa);have h2 := (hM.closed a (hdn a ha h1)).2 j hj;have h3 := (hM.closed j h2).1;rw [hgf j (by omega)] at h2;rw [h2]; simp
        · intro j hj hkj;rcases hkj with h | h
          · exact hU j hj (htail j hj h)
          · simp only [Bool.and_eq_true, Bool.not_eq_true'] at h; exact hU j hj h.2
      refine ⟨fun hnil => ?_, fun i hi => ?_⟩
      · obtain ⟨i, him, hq, hbefore⟩ := hmin
        have : i ∈ Region.ready .any l.toArray listed := mem_ready.2 ⟨hq, _, getD_at (by omega), fun ed hed hb => by
          have h1 := (hspec i (by omega)).2.2.2.2 ed hed hb
          rw [hgf _ (by omega)]; exact hbefore _ h1⟩
        rw [hnil] at this; cases this
      · obtain ⟨h0, o, ho, hedges⟩ := mem_ready.1 hi;have hil : i < l.length := (by simpa using (Array.getElem?_eq_some_iff.1 ho).1);rw [getD_at hil] at ho; injection ho with ho
        have hpre : ∀ j ∈ pd i, listed.getD j false = true := by
          intro j hj;obtain ⟨_, ed, hed, hb, h2⟩ := (hspec i hil).1 j hj;rw [ho] at hed;have h3 := hedges ed hed hb;rcases h2 with h2 | ⟨h2, h4⟩
          · rw [← h2]; exact h3
          · exact (hM.closed ed.on h3).2 j h4
        have him : i < m := by
          rcases Nat.lt_or_ge i m with h | h
          · exact h
          · exact absurd ⟨i, hi, h⟩ htr
        have hni : listed.getD i false = false := (by rw [hgf i hil]; exact h0);have hi' : i ∈ U := hU i hil h0
        -- on with the schedule
        have goes : ∀ v w', Ext w w' →
            (∀ lam val, (∀ k, k < m → TRk P r n l.toArray (l.take m) w0 pd Φ e0 lam val k) → (∀ j, listed.getD j false = true → lam j = mu j) → lam i = v → val i = v) →
            (∀ lam val, (∀ k, k < m → TRk P r n l.toArray (l.take m) w0 pd Φ e0 lam val k) → (∀ j, listed.getD j false = true → lam j = mu j) → lam i = v → LF l.toArray n (l.take m) Φ e0 val i w') →
            (isAl o = true → v = .pointer (some ⟨w.heap.size, 0, none⟩) ∧ w.heap.size < w'.heap.size) →
            wpAnyIn (FW r) 0 P .any l.toArray (Qof n N R X) fuel (listed.setIfInBounds i true) (act n ds (updo e o.dst v)) w' := by
          intro v w' hext hag hfa hal;have hM' := hM.next (i := i) (v := v) (w' := w') hB him hni hpre hst hext hag hfa (by rw [ho]; exact hal);rw [ho] at hM';refine ih (listed.setIfInBounds i true) (fun j => if j = i then v else mu j) (updo e o.dst v) w' (U.erase i) (by simp [hsz]) ?_ ?_ (erase_len hi' hUl) ?_
          · intro j hj hmj;rw [getD_set_ne true (by omega)]; exact htail j hj hmj
          · intro j hj hq;by_cases hji : i = j
            · subst hji; simp [hsz, hil] at hq
            · rw [getD_set_ne true hji] at hq;exact (List.mem_erase_of_ne (Ne.symm hji)).2 (hU j hj hq)
          · have hdn : (fun j => (listed.setIfInBounds i true).getD j false) = (fun j => listed.getD j false || Nat.beq j i) := by
              funext j
              by_cases hji : i = j
              · subst hji; simp [hsz, hil]
              · rw [getD_set_ne false hji, beqF (Ne.symm hji)]; simp
            rw [hdn]; exact hM'
        obtain ⟨val, hT, _⟩ := run mu;have hsel := notSel_spec ((hspec i hil).2.1);rw [ho] at hsel
        have reads : ∀ lam val, (∀ k, k < m → TRk P r n l.toArray (l.take m) w0 pd Φ e0 lam val k) → (∀ j, listed.getD j false = true → lam j = mu j) →
            (∀ x ∈ o.op.operands, ev n (Eat (l.take m) val e0 i) x = ev n e x) ∧ wantedE l.toArray n (Eat (l.take m) val e0 i) o = wantedE l.toArray n e o := by
          intro lam val hT hl;have h1 := hM.reads hB him hni hpre hT hl;rw [ho] at h1;exact ⟨fun x hx => ev_congr fun t ht => (h1 t (mem_looks (by rw [← ht]; exact hx))).symm, wantedE_congr fun t ht => (h1 t ht).symm⟩
        have htk : (l.take m).getD i default = o := by rw [take_getD him]; exact ho
        have hfacts : ∀ lam val, (∀ k, k < m → TRk P r n l.toArray (l.take m) w0 pd Φ e0 lam val k) → (∀ j, listed.getD j false = true → lam j = mu j) → ∀ j ∈ pd i, LF l.toArray n (l.take m) Φ e0 val j w :=
          fun lam val hT hl j hj => hM.facts lam val hT hl j (hpre j hj)
        unfold wpOpIn;rw [getD_at hil, ho];simp only;by_cases hwant : wantedE l.toArray n e o = true
        · have hw' : Region.wanted o (yielded l.toArray (act n ds e).tmps) = true := hwant;rw [if_pos hw'];have hTi := (hT i him).1 (by rw [htk, (reads mu val hT fun _ _ => rfl).2]; exact hwant)
          have hR : ∃ φ : Value → World → Prop, OpR P r n o e w φ ∧ ∀ v w', φ v w' → (isAl o = true → v = .pointer (some ⟨w.heap.size, 0, none⟩) ∧ w.heap.size < w'.heap.size) → wpAnyIn (FW r) 0 P .any l.toArray (Qof n N R X) fuel (listed.setIfInBounds i true) (act n ds (updo e o.dst v)) w' := by
            cases hk : Φ i with
            | pure =>
              simp only [hk, htk] at hTi;have hx := Ex_congr hsel.1 (reads mu val hT fun _ _ => rfl).1 (hTi w hM.ext (hfacts mu val hT fun _ _ => rfl));refine ⟨_, R_v hx, fun v w' ⟨h1, h2⟩ hal => ?_⟩;subst h1; subst h2;refine goes _ _ Ext.rfl (fun lam val' hT' hl _ => ?_) (fun lam val' hT' hl _ _ φ hφ => by rw [hk] at hφ; cases hφ) hal;have hTi' := (hT' i him).1 (by rw [htk, (reads lam val' hT' hl).2]; exact hwant);simp only [hk, htk] at hTi';have hx' := Ex_congr hsel.1 (reads lam val' hT' hl).1 (hTi' w' hM.ext (hfacts lam val' hT' hl));have := hx'.2.symm.trans hx.2
              simpa using this
            | val t =>
              simp only [hk, htk] at hTi;refine ⟨_, OpR_congr hsel.1 hsel.2 (reads mu val hT fun _ _ => rfl).1 (hTi.2 w hM.ext (hfacts mu val hT fun _ _ => rfl)), fun v w' ⟨h1, h2⟩ hal => ?_⟩;subst h1;refine goes _ _ h2 (fun lam val' hT' hl _ => ?_) (fun lam val' hT' hl _ _ φ hφ => by rw [hk] at hφ; cases hφ) hal;have hTi' := (hT' i him).1 (by rw [htk, (reads lam val' hT' hl).2]; exact hwant);simp only [hk] at hTi';exact hTi'.1
            | rel φ =>
              simp only [hk, htk] at hTi;refine ⟨_, OpR_congr hsel.1 hsel.2 (reads mu val hT fun _ _ => rfl).1 (hTi.2 w hM.ext (hfacts mu val hT fun _ _ => rfl)), fun v w' ⟨h1, h2⟩ hal => ?_⟩
              have hval : ∀ lam val', (∀ k, k < m → TRk P r n l.toArray (l.take m) w0 pd Φ e0 lam val' k) → (∀ j, listed.getD j false = true → lam j = mu j) → lam i = v → val' i = v := fun lam val' hT' hl hv => by
                have hTi' := (hT' i him).1 (by rw [htk, (reads lam val' hT' hl).2]; exact hwant);simp only [hk] at hTi';rw [hTi'.1, hv]
              refine goes _ _ h2 hval (fun lam val' hT' hl hv _ φ' hφ => ?_) hal;rw [hk] at hφ; injection hφ with hφ; subst hφ;rw [hval lam val' hT' hl hv]; exact h1
          obtain ⟨φ, hR, hgo⟩ : ∃ φ : Value → World → Prop, OpR P r n o e w φ ∧ ∀ v w', φ v w' → wpAnyIn (FW r) 0 P .any l.toArray (Qof n N R X) fuel (listed.setIfInBounds i true) (act n ds (updo e o.dst v)) w' := by
            obtain ⟨φ, hR, hgo⟩ := hR
            cases hal : isAl o with
            | false => exact ⟨φ, hR, fun v w' h => hgo v w' h fun q => by rw [hal] at q; cases q⟩
            | true =>
              obtain ⟨d, hd, _⟩ := (hspec i hil).2.2.1 him;rw [ho] at hd;exact ⟨_, hR.al hal hd, fun v w' h => hgo v w' h.1 fun _ => h.2⟩
          have := hR.opw (ds := ds) (K := fun e' w' => wpAnyIn (FW r) 0 P .any l.toArray (Qof n N R X) fuel (listed.setIfInBounds i true) (act n ds e') w') hgo;refine Oper.wpIn_monoQ (fun a w' hh => ?_) (fun x a w q => q.elim) this;obtain ⟨v, rfl, hh⟩ := hh;exact hh
        · have hwf : wantedE l.toArray n e o = false := (by simpa using hwant);have hw' : ¬ Region.wanted o (yielded l.toArray (act n ds e).tmps) = true := hwant;rw [if_neg hw'];refine ⟨fun _ _ => trivial, ?_⟩;rw [act_put];refine goes _ _ Ext.rfl (fun lam val' hT' hl _ => ?_) (fun lam val' hT' hl _ hw _ _ => ?_) (fun q => by rw [al_wanted q] at hwf; cases hwf)
          · exact (hT' i him).2 (by rw [htk, (reads lam val' hT' hl).2]; exact hwf)
          · rw [htk, (reads lam val' hT' hl).2, hwf] at hw; cases hw

/-- **A REGION THAT DRAWS ITS ORDER.** 'm': how many operations stand ahead of its forced end; 'pd': whom each waits for. -/
theorem W_draw {id : Nat} {l : List Oper} (m : Nat) (pd : Nat → List Nat) (Φ : Nat → Kd) (hm : P.follows .mixedOrders = true) (hB : drawB l m pd = true)
    (hst : ∀ j φ, Φ j = .rel φ → ∀ v w w', φ v w → Ext w w' → φ v w') (hfr : ∀ j, isFlo (l.getD j default) = true → Φ j = .pure)
    (h : WS P r n l.toArray w pd Φ (fun e1 Fw => ∀ w', Ext w w' → Fw w' → WL P r n l.toArray N (l.drop m) ds e1 w') (l.take m) 0 e []) :
    W P r n (.region id l.toArray true) N R X ds e w := by
  refine wpIn_region_any hm ?_;have hdr : ({ w with drawn := w.drawn + 1 } : World) = w.drew := rfl;rw [hdr];refine any_pre (w0 := w) (e0 := e) hB hst hfr h _ _ (fun _ => undef) e w.drew (List.range l.length) (by simp) (fun i hi _ => by simp [hi]) (fun i hi _ => by simpa using hi) (by simp) ?_
  have hnone : ∀ j, (Array.replicate l.length false).getD j false = true → False := fun j hj => by
    by_cases h : j < l.length <;> simp [h] at hj
  simp only [List.size_toArray];refine ⟨Ext.rfl.drew, fun i hi => (hnone i hi).elim, fun j d hj => (hnone j hj).elim, fun t _ => rfl, fun _ _ _ _ j hj => (hnone j hj).elim, fun _ _ _ _ j hj => (hnone j hj).elim, fun j hj => (hnone j hj).elim, fun j _ hj => (hnone j hj).elim⟩
end
attribute [irreducible] WS OpR
end Go.V
