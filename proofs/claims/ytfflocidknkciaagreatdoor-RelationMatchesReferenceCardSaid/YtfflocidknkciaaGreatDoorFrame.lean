/- Loops over a frame laid out by its slots; results; the steps of a drawn region by patterns. Holds for every program. -/
import Derived.Test.YtfflocidknkciaaGreatDoorDraw
set_option linter.all false
namespace Go.V
open Go
attribute [local semireducible] W WL OpW CV WS OpR

theorem dT {p : Prop} [Decidable p] (h : decide p = true) : p := of_decide_eq_true h
theorem dF {p : Prop} [Decidable p] (h : decide p = false) : ¬ p := of_decide_eq_false h
theorem nT {b : Bool} (h : (!b) = true) : b = false := by cases b <;> simp_all
theorem nF {b : Bool} (h : (!b) = false) : b = true := by cases b <;> simp_all
theorem vb {b c : Bool} (h : b = true ↔ c = true) : Value.bool b = Value.bool c := by rw [Bool.eq_iff_iff.2 h]
theorem vi {k : IntKind} {a b : Int} (h : a = b) : Value.int k a = Value.int k b := by rw [h]
def look : List (Nat × Value) → Nat → Value → Value
  | [], _, d => d
  | (a, v) :: l, t, d => bif Nat.beq t a then v else look l t d
def memb : List Nat → Nat → Bool
  | [], _ => false
  | a :: l, t => bif Nat.beq t a then true else memb l t
/-- The frame e, but for the slots 'mods', which hold what 'sl' says (or whatever). -/
def lay (e j : Env) (mods : List Nat) (sl : List (Nat × Value)) : Env := fun t => look sl t (bif memb mods t then j t else e t)
def Agr (e : Env) : List (Nat × Value) → Prop
  | [] => True
  | (t, v) :: l => e t = v ∧ Agr e l
def Mod (mods : List Nat) (e0 e : Env) : Prop := ∀ t, memb mods t = false → e t = e0 t
theorem Mod.refl {mods : List Nat} {e : Env} : Mod mods e e := fun _ _ => rfl
theorem Mod.upd {mods : List Nat} {e0 e : Env} {d : Nat} {v : Value} (hd : memb mods d = true) (h : Mod mods e0 e) : Mod mods e0 (upd e d v) := fun t ht => by
  rw [upd_ne _ _ (fun heq => by rw [heq, hd] at ht; cases ht)]; exact h t ht
theorem look_keys {sl : List (Nat × Value)} {t : Nat} {d : Value} (h : ∀ p ∈ sl, p.1 ≠ t) : look sl t d = d := by
  induction sl with
  | nil => rfl
  | cons p sl ih =>
    obtain ⟨a, v⟩ := p;have : a ≠ t := h (a, v) (by simp);simp only [look, beqF (Ne.symm this), cond_false];exact ih fun p hp => h p (by simp [hp])
def keysIn (mods : List Nat) (sl : List (Nat × Value)) : Bool := sl.all fun p => memb mods p.1
theorem keysIn_spec {mods : List Nat} {sl : List (Nat × Value)} (h : keysIn mods sl = true) {t : Nat} (ht : memb mods t = false) : ∀ p ∈ sl, p.1 ≠ t := fun p hp heq => by
  have := List.all_eq_true.1 h p hp; rw [heq, ht] at this; cases this
def subB (a b : List Nat) : Bool := a.all fun t => memb b t
theorem memb_iff {l : List Nat} {t : Nat} : memb l t = true ↔ t ∈ l := by
  induction l with
  | nil => simp [memb]
  | cons a l ih =>
    simp only [memb, List.mem_cons];by_cases h : t = a
    · subst h; simp
    · simp [beqF h, ih, h]
theorem subB_spec {a b : List Nat} (h : subB a b = true) {t : Nat} (ht : memb b t = false) : memb a t = false := by
  cases hq : memb a t with
  | false => rfl
  | true => have := List.all_eq_true.1 h t (memb_iff.1 hq); rw [ht] at this; cases this
theorem Mod.lay {mods mods' : List Nat} {e0 e j : Env} {sl : List (Nat × Value)} (hs : subB mods' mods = true) (hk : keysIn mods' sl = true) (h : Mod mods e0 e) : Mod mods e0 (lay e j mods' sl) := fun t ht => by
  unfold V.lay;have := subB_spec hs ht;rw [look_keys (keysIn_spec hk this), this];exact h t ht
theorem lay_self {mods : List Nat} {e0 e : Env} {sl : List (Nat × Value)} (hm : Mod mods e0 e) (ha : Agr e sl) : lay e0 e mods sl = e := by
  funext t
  unfold lay
  have hd : (bif memb mods t then e t else e0 t) = e t := by
    cases h : memb mods t with
    | true => rfl
    | false => exact (hm t h).symm
  rw [hd];clear hd
  induction sl with
  | nil => rfl
  | cons p sl ih =>
    obtain ⟨a, v⟩ := p;simp only [look];by_cases h : t = a
    · subst h; simp [ha.1]
    · rw [beqF h]; exact ih ha.2

section
variable {P : Program} {r : Option Nat} {n : Nat} {N R : K3} {X : List (Nat × K3)} {ds : List Deferred} {e : Env} {w : World} {ops : Array Oper} {rest : List Oper} {o : Oper}
/-- A loop: the ghost 's' says what the slots 'mods' hold, and what holds of the world. -/
theorem W_loopS {c : Code} {σ : Type} (mods : List Nat) (sl : σ → List (Nat × Value)) (inv : σ → World → Prop) (μ : σ → Nat) (s0 : σ) (h0 : Agr e (sl s0)) (hi : inv s0 w)
    (hr : ∀ s j w', inv s w' → W P r n c (fun ds' e' w' => ds' = ds ∧ Mod mods e e' ∧ ∃ s', μ s' < μ s ∧ Agr e' (sl s') ∧ inv s' w') R X ds (lay e j mods (sl s)) w') :
    W P r n (.loop c) N R X ds e w := by
  refine W_loop (fun k ds' e' w' => ds' = ds ∧ Mod mods e e' ∧ ∃ s, μ s = k ∧ Agr e' (sl s) ∧ inv s w') (μ s0) ⟨rfl, Mod.refl, s0, rfl, h0, hi⟩ ?_
  rintro k ds' e' w' ⟨rfl, hm, s, rfl, ha, hv⟩
  have := hr s e' w' hv;rw [lay_self hm ha] at this;exact W_mono this (fun ds'' e'' w'' ⟨h1, h2, s', h3, h4, h5⟩ => ⟨μ s', h3, h1, h2, s', rfl, h4, h5⟩) (fun _ _ _ h => h) (fun _ _ _ _ h => h)
/-- Two ways meet again: what holds behind both, of some slots and of the world. -/
theorem W_cut {c : Code} (mods : List Nat) {σ : Type} (sl : σ → List (Nat × Value)) (inv : σ → World → Prop)
    (h1 : W P r n c (fun ds' e' w' => ds' = ds ∧ Mod mods e e' ∧ ∃ s, Agr e' (sl s) ∧ inv s w') R X ds e w) (h2 : ∀ s j w', inv s w' → N ds (lay e j mods (sl s)) w') : W P r n c N R X ds e w :=
  W_mono h1 (fun ds' e' w' ⟨a, b, s, d, f⟩ => by subst a; have := h2 s e' w' f; rwa [lay_self b d] at this) (fun _ _ _ h => h) (fun _ _ _ _ h => h)

/-! ## Results -/
def RC (P : Program) (n : Nat) (e : Env) (w : World) : ResultVar → Value → Prop
  | .tmp t, v => ev n e (.tmp t) = v
  | .cell a t, v => ∃ b o, ev n e (.tmp a) = .pointer (some ⟨b, o, none⟩) ∧ (loadVar t ⟨b, o, none⟩).run P w = .ok v w
theorem getD_arr (t : Nat) : (arr n e).getD t undef = ev n e (.tmp t) := by
  have := act_eval n [] e (.tmp t)
  simpa [Act.eval, act] using this
theorem run_RC {rv : ResultVar} {v : Value} (h : RC P n e w rv v) : (match rv with
    | .tmp t => (pure ((arr n e).getD t undef) : Sem Value)
    | .cell a t => do loadVar t (← asAddr ((arr n e).getD a undef))).run P w = .ok v w := by
  cases rv with
  | tmp t => simp only [RC] at h; simp only [getD_arr, h]; simp
  | cell a t =>
    obtain ⟨b, o, h1, h2⟩ := h;simp only [getD_arr, h1, Sem.run_bind, asAddr, Sem.run_pure, Result.andThen, h2]
theorem res_0 {fn : Func} (hr : fn.results = #[]) : (results fn (arr n e)).run P w = .ok (.tuple #[]) w := by simp [results, hr]
theorem res_1 {fn : Func} {rv : ResultVar} {v : Value} (hr : fn.results = #[rv]) (h : RC P n e w rv v) : (results fn (arr n e)).run P w = .ok v w := by
  have a1 := run_RC h
  cases rv with
  | tmp t =>
    simp only [RC] at h;have h' := h; rw [← getD_arr] at h';unfold results; rw [hr]; simp only [List.mapM_toArray, List.mapM_cons, List.mapM_nil, Sem.run_bind, h']; rfl
  | cell a t =>
    obtain ⟨b, o, h1, h2⟩ := h;rw [← getD_arr] at h1;unfold results; rw [hr]; simp only [List.mapM_toArray, List.mapM_cons, List.mapM_nil, h1, asAddr];simp only [Sem.run_bind, Sem.run_pure, Result.andThen, h2, map_eq_pure_bind];rfl
theorem res_2 {fn : Func} {r1 r2 : ResultVar} {v1 v2 : Value} (hr : fn.results = #[r1, r2]) (h1 : RC P n e w r1 v1) (h2 : RC P n e w r2 v2) : (results fn (arr n e)).run P w = .ok (.tuple #[v1, v2]) w := by
  have a1 := run_RC h1;have a2 := run_RC h2;unfold results; rw [hr];simp only [List.mapM_toArray, List.mapM_cons, List.mapM_nil, Sem.run_bind, map_eq_pure_bind]
  cases r1 <;> cases r2 <;> simp only [] at a1 a2 ⊢ <;> simp only [a1, a2, Result.andThen, Sem.run_bind, Sem.run_pure] <;> rfl
theorem R_1 {fn : Func} {t : Nat} {ds : List Deferred} {Q : Value → Prop} (v : Value) (hd : ds = []) (hr : fn.results = #[.tmp t]) (hv : ev n e (.tmp t) = v) (hq : Q v) : ds = [] ∧ ∃ v, (results fn (arr n e)).run P w = .ok v w ∧ Q v :=
  ⟨hd, v, res_1 hr hv, hq⟩
theorem RC_blk {a t : Nat} {b : Nat} {T : TypeId} {cs : List Value} (hx : ev n e (.tmp a) = .pointer (some ⟨b, 0, none⟩)) (hb : Blk w b T cs) (ha : ∀ w, (isAgg t).run P w = .ok true w) (hz : ∀ w, (sizeOf t).run P w = .ok cs.length w) :
    RC P n e w (.cell a t) (.agg cs.toArray) := ⟨b, 0, hx, run_loadVar_agg ha hz (hb.cells 0 cs (by simp))⟩

/-! ## A slice's element by its number -/
variable {ty : TypeId} {x y : Operand}
theorem X_ixS {t el : TypeId} {a : Option Addr} {b o len cap sz : Nat} {k : IntKind} {i : Int} (j : Nat) (ht : P.underlying t = some (.slice el)) (hz : ∀ w, (sizeOf el).run P w = .ok sz w)
    (hx : ev n e x = .slice a len cap) (hy : ev n e y = .int k i) (ha : a = some ⟨b, o, none⟩) (hj : i = (j : Int)) (h1 : j < len) :
    Ex P n (.indexAddr t x y) ty e w (.pointer (some ⟨b, o + j * sz, none⟩)) w := by
  subst ha; subst hj;have := X_indexS (P := P) (n := n) (e := e) (w := w) (ty := ty) ht hz hx hy (by omega) (by omega)
  simpa using this
theorem X_ixA {t el : TypeId} {b o len sz : Nat} {k : IntKind} {i : Int} (j : Nat) (ht : P.underlying t = some (.array len el)) (hz : ∀ w, (sizeOf el).run P w = .ok sz w)
    (hx : ev n e x = .pointer (some ⟨b, o, none⟩)) (hy : ev n e y = .int k i) (hj : i = (j : Int)) (h1 : j < len) :
    Ex P n (.indexAddr t x y) ty e w (.pointer (some ⟨b, o + j * sz, none⟩)) w := by
  subst hj;have := X_indexA (P := P) (n := n) (e := e) (w := w) (ty := ty) ht hz hx hy (by omega) (by omega)
  simpa using this

/-! ## The steps of a drawn region -/
variable {w0 : World} {pd : Nat → List Nat} {Φ : Nat → Kd} {K : Env → (World → Prop) → Prop} {i d : Nat} {F : List (Nat × Value × (World → Prop))} {op : Op} {pos : String} {af : Array Edge} {g : Option (Nat × Bool)}
def WSo (P : Program) (r : Option Nat) (n : Nat) (ops : Array Oper) (w0 : World) (pd : Nat → List Nat) (Φ : Nat → Kd) (K : Env → (World → Prop) → Prop) (o : Oper) (rest : List Oper) (i : Nat) (e : Env) (F : List (Nat × Value × (World → Prop))) : Prop :=
  match Φ i with
  | .pure => ∃ v, (∀ w, Ext w0 w → (∀ p ∈ F, p.1 ∈ pd i → p.2.2 w) → Ex P n o.op o.type e w v w) ∧ WS P r n ops w0 pd Φ K rest (i + 1) (updo e o.dst v) F
  | .val t => (∀ w, Ext w0 w → (∀ p ∈ F, p.1 ∈ pd i → p.2.2 w) → OpR P r n o e w (fun v w' => v = t ∧ Ext w w')) ∧ WS P r n ops w0 pd Φ K rest (i + 1) (updo e o.dst t) F
  | .rel φ => (∀ w, Ext w0 w → (∀ p ∈ F, p.1 ∈ pd i → p.2.2 w) → OpR P r n o e w (fun v w' => φ v w' ∧ Ext w w')) ∧ ∀ v, WS P r n ops w0 pd Φ K rest (i + 1) (updo e o.dst v) ((i, v, φ v) :: F)
theorem WS_o {dst : Option Nat} (h : WSo P r n ops w0 pd Φ K ⟨dst, op, ty, pos, af, none⟩ rest i e F) : WS P r n ops w0 pd Φ K (⟨dst, op, ty, pos, af, none⟩ :: rest) i e F := by
  have hw : wantedE ops n e ⟨dst, op, ty, pos, af, none⟩ = true := (by simp [wantedE, Region.wanted]);simp only [WS];exact ⟨fun _ => h, fun h' => by rw [hw] at h'; cases h'⟩
theorem WS_gY {dst : Option Nat} {dg : Nat} {b want : Bool} (hg : gslot ops ⟨dst, op, ty, pos, af, g⟩ = some (dg, want)) (hb : ev n e (.tmp dg) = .bool b) (hw : b = want)
    (h : WSo P r n ops w0 pd Φ K ⟨dst, op, ty, pos, af, g⟩ rest i e F) : WS P r n ops w0 pd Φ K (⟨dst, op, ty, pos, af, g⟩ :: rest) i e F := by
  have hw' : wantedE ops n e ⟨dst, op, ty, pos, af, g⟩ = true := (by unfold wantedE; rw [wanted_of hg hb, hw]; simp);simp only [WS];exact ⟨fun _ => h, fun h' => by rw [hw'] at h'; cases h'⟩
theorem WS_gN {dg : Nat} {b want : Bool} (hg : gslot ops ⟨some d, op, ty, pos, af, g⟩ = some (dg, want)) (hb : ev n e (.tmp dg) = .bool b) (hw : b = !want)
    (h : WS P r n ops w0 pd Φ K rest (i + 1) (upd e d undef) F) : WS P r n ops w0 pd Φ K (⟨some d, op, ty, pos, af, g⟩ :: rest) i e F := by
  have hw' : wantedE ops n e ⟨some d, op, ty, pos, af, g⟩ = false := (by unfold wantedE; rw [wanted_of hg hb, hw]; simp);simp only [WS];exact ⟨fun h' => (by rw [hw'] at h'; cases h'), fun _ => h⟩
theorem WS_gU {dg : Nat} {want : Bool} (hg : gslot ops ⟨some d, op, ty, pos, af, g⟩ = some (dg, want)) (hb : ev n e (.tmp dg) = undef)
    (h : WS P r n ops w0 pd Φ K rest (i + 1) (upd e d undef) F) : WS P r n ops w0 pd Φ K (⟨some d, op, ty, pos, af, g⟩ :: rest) i e F := by
  have hw' : wantedE ops n e ⟨some d, op, ty, pos, af, g⟩ = false := wanted_undef hg hb;simp only [WS];exact ⟨fun h' => (by rw [hw'] at h'; cases h'), fun _ => h⟩
theorem WS_v (v : Value) (hk : Φ i = .pure) (hx : ∀ w, Ext w0 w → (∀ p ∈ F, p.1 ∈ pd i → p.2.2 w) → Ex P n op ty e w v w) (h : WS P r n ops w0 pd Φ K rest (i + 1) (upd e d v) F) :
    WSo P r n ops w0 pd Φ K ⟨some d, op, ty, pos, af, g⟩ rest i e F := by unfold WSo; rw [hk]; exact ⟨v, hx, h⟩
theorem WS_w {v : Value} (hk : Φ i = .pure) (hx : ∀ w, Ext w0 w → (∀ p ∈ F, p.1 ∈ pd i → p.2.2 w) → Ex P n op ty e w v w) (h : WS P r n ops w0 pd Φ K rest (i + 1) (upd e d v) F) :
    WS P r n ops w0 pd Φ K (⟨some d, op, ty, pos, af, none⟩ :: rest) i e F := WS_o (WS_v v hk hx h)
theorem WS_y {v : Value} {dg : Nat} {b want : Bool} (hg : gslot ops ⟨some d, op, ty, pos, af, g⟩ = some (dg, want)) (hb : ev n e (.tmp dg) = .bool b) (hw : b = want) (hk : Φ i = .pure) (hx : ∀ w, Ext w0 w → (∀ p ∈ F, p.1 ∈ pd i → p.2.2 w) → Ex P n op ty e w v w)
    (h : WS P r n ops w0 pd Φ K rest (i + 1) (upd e d v) F) : WS P r n ops w0 pd Φ K (⟨some d, op, ty, pos, af, g⟩ :: rest) i e F := WS_gY hg hb hw (WS_v v hk hx h)
theorem WS_val (t : Value) (hk : Φ i = .val t) (hx : ∀ w, Ext w0 w → (∀ p ∈ F, p.1 ∈ pd i → p.2.2 w) → OpR P r n ⟨some d, op, ty, pos, af, g⟩ e w (fun v w' => v = t ∧ Ext w w')) (h : WS P r n ops w0 pd Φ K rest (i + 1) (upd e d t) F) :
    WSo P r n ops w0 pd Φ K ⟨some d, op, ty, pos, af, g⟩ rest i e F := by unfold WSo; rw [hk]; exact ⟨hx, h⟩
theorem WS_rel (φ : Value → World → Prop) (hk : Φ i = .rel φ) (hx : ∀ w, Ext w0 w → (∀ p ∈ F, p.1 ∈ pd i → p.2.2 w) → OpR P r n ⟨some d, op, ty, pos, af, g⟩ e w (fun v w' => φ v w' ∧ Ext w w'))
    (h : ∀ v, WS P r n ops w0 pd Φ K rest (i + 1) (upd e d v) ((i, v, φ v) :: F)) : WSo P r n ops w0 pd Φ K ⟨some d, op, ty, pos, af, g⟩ rest i e F := by unfold WSo; rw [hk]; exact ⟨hx, h⟩
theorem WS_split {l : List Oper} {t : Bool} (hb : ev n e (.tmp d) = .bool t) (h1 : t = true → WS P r n ops w0 pd Φ K l i e F) (h2 : t = false → WS P r n ops w0 pd Φ K l i e F) : WS P r n ops w0 pd Φ K l i e F := by
  cases t
  · exact h2 rfl
  · exact h1 rfl
def notRel : Kd → Bool
  | .rel _ => false
  | _ => true
theorem noRel {kds : List Kd} (h : kds.all notRel = true) : ∀ j φ, List.getD kds j .pure = .rel φ → ∀ (v : Value) (w w' : World), φ v w → Ext w w' → φ v w' := by
  intro j φ hj;exfalso;by_cases hl : j < kds.length
  · have h1 : List.getD kds j .pure = kds[j] := (by simp [hl]);rw [h1] at hj;have := List.all_eq_true.1 h kds[j] (List.getElem_mem hl);rw [hj] at this; cases this
  · have h1 : List.getD kds j .pure = .pure := (by simp [hl]);rw [h1] at hj; cases hj
/-- A new block, from number B on, that holds cs. -/
def isNew (B : Nat) (T : TypeId) (cs : List Value) (v : Value) (w : World) : Prop := ∃ b, v = .pointer (some ⟨b, 0, none⟩) ∧ B ≤ b ∧ Blk w b T cs
theorem isNew.ext {B : Nat} {T : TypeId} {cs : List Value} {v : Value} {w w' : World} (h : isNew B T cs v w) (x : Ext w w') : isNew B T cs v w' := by
  obtain ⟨b, h1, h2, h3⟩ := h; exact ⟨b, h1, h2, h3.ext x⟩
theorem WS_nil (h : K e (fun w => (∀ p ∈ F, p.2.2 w) ∧ apartF ops F)) : WS P r n ops w0 pd Φ K [] i e F := h
theorem R_call {dst : Option Nat} {x : Operand} {xs : List Operand} {ts : Array TypeId} {f : FuncId} {cap : List Value} {vs : List Value} {R : Value → World → Prop}
    (hcall : ∀ (args : Array Value) (w : World), (callFunc f args).run P w = .ok (.enter f args) w) (hf : ev n e x = .func (.func f) #[] cap.toArray)
    (hargs : argsOf n e xs ++ cap = vs) (hc : CV P f vs w R) : OpR P r n ⟨dst, .call { callee := .value x, args := xs.toArray, argTypes := ts }, ty, pos, af, g⟩ e w R := R_call' rfl hcall hf hargs hc
theorem R_x {dst : Option Nat} {v : Value} {w' : World} {φ : Value → World → Prop} (hx : Ex P n op ty e w v w') (hφ : φ v w') : OpR P r n ⟨dst, op, ty, pos, af, g⟩ e w φ :=
  (R_v (o := ⟨dst, op, ty, pos, af, g⟩) hx).mono fun _ _ ⟨h1, h2⟩ => by subst h1; subst h2; exact hφ
def addAll (xs ys : List Nat) : List Nat := xs.foldl (fun acc x => bif memb acc x then acc else acc ++ [x]) ys
def pdTab (l : List Oper) : List (List Nat) :=
  l.foldl (fun acc o => acc ++ [o.after.toList.foldl (fun s ed => bif Region.binds .any ed then addAll (ed.on :: acc.getD ed.on []) s else s) []]) []
def pdOf (l : List Oper) (i : Nat) : List Nat := (pdTab l).getD i []
def kdOf : List (Nat × Kd) → Nat → Kd
  | [], _ => .pure
  | (a, k) :: l, i => bif Nat.beq i a then k else kdOf l i
theorem noRels {kds : List (Nat × Kd)} (h : kds.all (fun p => notRel p.2) = true) : ∀ j φ, kdOf kds j = .rel φ → ∀ (v : Value) (w w' : World), φ v w → Ext w w' → φ v w' := by
  intro j φ hj;exfalso
  induction kds with
  | nil => cases hj
  | cons p kds ih =>
    obtain ⟨a, k⟩ := p;simp only [List.all_cons, Bool.and_eq_true] at h;simp only [kdOf] at hj
    cases hb : Nat.beq j a with
    | true => rw [hb] at hj; simp only [cond_true] at hj; rw [hj] at h; simp [notRel] at h
    | false => rw [hb] at hj; exact ih h.2 hj
theorem kd_flo {l : List Oper} {kds : List (Nat × Kd)} (h : kds.all (fun p => !isFlo (l.getD p.1 default)) = true) : ∀ j, isFlo (l.getD j default) = true → kdOf kds j = .pure := by
  intro j hj
  induction kds with
  | nil => rfl
  | cons p kds ih =>
    obtain ⟨a, k⟩ := p;simp only [List.all_cons, Bool.and_eq_true] at h;simp only [kdOf];by_cases ha : j = a
    · subst ha; rw [hj] at h; cases h.1
    · rw [beqF ha]; exact ih h.2
theorem W_drawn {id : Nat} {l : List Oper} (m : Nat) (kds : List (Nat × Kd)) (hm : P.follows .mixedOrders = true) (hB : drawB l m (pdOf l) = true)
    (hst : ∀ j φ, kdOf kds j = .rel φ → ∀ v w w', φ v w → Ext w w' → φ v w')
    (h : WS P r n l.toArray w (pdOf l) (kdOf kds) (fun e1 Fw => ∀ w', Ext w w' → Fw w' → WL P r n l.toArray N (l.drop m) ds e1 w') (l.take m) 0 e [])
    (hfr : kds.all (fun p => !isFlo (l.getD p.1 default)) = true := by rfl) :
    W P r n (.region id l.toArray true) N R X ds e w := W_draw m (pdOf l) (kdOf kds) hm hB hst (kd_flo hfr) h
end
end Go.V
