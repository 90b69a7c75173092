/- A range over a function that runs to its end, in the walk's own terms: the statement, the call of yield, a function's contract where its body holds such a loop. Holds for every program. -/
import Derived.Test.YtfflocidknkciaaGreatDoorMeet
import Derived.RangeFuncRecord
set_option linter.all false
namespace Go.V
open Go
attribute [local semireducible] W WL OpW CV

/-! ## Blocks that hold no cells -/
def NCell (w : World) (k : Nat) : Prop := ∃ o : Obj, w.heap[k]? = some o ∧ ∀ a b c, o ≠ Obj.cells a b c
theorem put_grown (w : World) (l : Nat) (o : Obj) : w.grownBy (w.putObj l o) (some l) :=
  ⟨rfl, rfl, rfl, by simp, fun k _ hne => World.putObj_heap_other (fun q => hne (by rw [q]))⟩
theorem NCell.ne {w : World} {b k : Nat} {T : TypeId} {cs : List Value} (h : NCell w k) (hb : Blk w b T cs) : b ≠ k := by
  rintro rfl
  obtain ⟨o, h1, h2⟩ := h;rw [show w.heap[b]? = _ from hb] at h1;injection h1 with h1;exact h2 _ _ _ h1.symm
theorem Blk.keptN {w w' : World} {b k : Nat} {T : TypeId} {cs : List Value} (h : Blk w b T cs) (hn : NCell w k) (hg : w.grownBy w' (some k)) : Blk w' b T cs :=
  h.kept hg (fun q => hn.ne h (by injection q with q; exact q.symm ▸ rfl))
theorem own_keptN {w w' : World} {base k : Nat} {e : TypeId} {size : Nat} {v : Value} {n : Nat} {xs : List Value} (h : w.ownsRow base e size v n xs) (hn : NCell w k) (hg : w.grownBy w' (some k)) : w'.ownsRow base e size v n xs := by
  refine h.kept hg ?_;rcases h.2 with ⟨rfl, _⟩ | ⟨g, cap, cur, rfl, _, hgg, _⟩
  · left; rfl
  · right;intro q;simp only [Value.ownBlock, Option.some.injEq] at q;subst q;obtain ⟨o, h1, h2⟩ := hn;rw [hgg] at h1; injection h1 with h1;exact h2 _ _ _ h1.symm
theorem New.keptN {T size base k n : Nat} {w w' : World} {v : Value} {xs : List Value} (h : New T size base w v n xs) (hn : NCell w k) (hg : w.grownBy w' (some k)) : New T size base w' v n xs := by
  rcases h with h | ⟨h0, h⟩
  · exact .inl h
  · exact .inr ⟨h0, own_keptN h hn hg⟩
theorem RelN.keptN {base k : Nat} {w w' : World} {d : RelD} {a1 a2 a3 : Option Addr} {c1 c2 c3 : Nat} (h : RelN base w d a1 a2 a3 c1 c2 c3) (hn : NCell w k) (hg : w.grownBy w' (some k)) : RelN base w' d a1 a2 a3 c1 c2 c3 :=
  ⟨h.c.keptN hn hg, h.u.keptN hn hg, h.i.keptN hn hg, h.hl⟩
/-- What holds no cells lies as it lay. -/
def KeepN (w w' : World) : Prop := ∀ (k : Nat) (o : Obj), w.heap[k]? = some o → (∀ a b c, o ≠ Obj.cells a b c) → w'.heap[k]? = some o
theorem KeepN.refl {w : World} : KeepN w w := fun _ _ h _ => h
theorem KeepN.ext {a w w' : World} (h : KeepN a w) (x : Ext w w') : KeepN a w' := fun k o hk hn => x.heap (h k o hk hn)
theorem KeepN.cells {a w w' : World} {b : Nat} {T : TypeId} {cs : List Value} (h : KeepN a w) (hg : w.grownBy w' (some b)) (hb : Blk w b T cs) : KeepN a w' := fun k o hk hn => by
  have h1 := h k o hk hn;rw [hg.block k (Array.getElem?_eq_some_iff.1 h1).1 (fun q => ?_)]; exact h1;injection q with q; rw [q, show w.heap[b]? = _ from hb] at h1; injection h1 with h1;exact hn _ _ _ h1.symm
theorem KeepN.own {a w w' : World} {base : Nat} {e : TypeId} {size : Nat} {v : Value} {n : Nat} {xs : List Value} (h : KeepN a w) (hg : w.grownBy w' v.ownBlock) (hown : w.ownsRow base e size v n xs) : KeepN a w' := fun k o hk hn => by
  have h1 := h k o hk hn;rw [hg.block k (Array.getElem?_eq_some_iff.1 h1).1 (fun q => ?_)]; exact h1;rcases hown.2 with ⟨rfl, _⟩ | ⟨g, cap, cur, rfl, _, hgg, _⟩
  · simp [Value.ownBlock] at q
  · simp only [Value.ownBlock, Option.some.injEq] at q;subst q;rw [hgg] at h1; injection h1 with h1;exact hn _ _ _ h1.symm

/-! ## The call of yield -/
def YV (P : Program) (l : Nat) (args : List Value) (w : World) (R : Value → World → Prop) : Prop :=
  ∃ fn tmps assign body, (Instr.yield l args.toArray).run P w = .ok (.round l fn tmps assign body) w ∧ RoundIn (FW none) 0 P l fn tmps assign body w (fun e w' => ∃ v, e = .returned v ∧ R v w')
theorem YV.mono {P : Program} {l : Nat} {args : List Value} {w : World} {R R' : Value → World → Prop} (h : YV P l args w R) (hr : ∀ v w', R v w' → R' v w') : YV P l args w R' := by
  obtain ⟨fn, tmps, a, b, h1, h2⟩ := h;exact ⟨fn, tmps, a, b, h1, RoundIn.mono h2 fun e w' ⟨v, q1, q2⟩ => ⟨v, q1, hr _ _ q2⟩⟩
section
variable {P : Program} {n : Nat} {N R : K3} {X : List (Nat × K3)} {ds : List Deferred} {e : Env} {w : World} {ty : TypeId} {pos : String} {af : Array Edge} {g : Option (Nat × Bool)} {d : Nat}
theorem OpW_yield {o : Oper} {K : Env → World → Prop} {x : Operand} {xs : List Operand} {ts : Array TypeId} {l : Nat} {vs : List Value} {R : Value → World → Prop}
    (hop : o.op = .call { callee := .value x, args := xs.toArray, argTypes := ts }) (hf : ev n e x = .func (.yield l) #[] #[]) (hargs : argsOf n e xs = vs) (hc : YV P l vs w R) (hk : ∀ v w', R v w' → K (updo e o.dst v) w') :
    OpW P none n o K ds e w := by
  refine ⟨fun _ _ => trivial, ?_⟩;rw [Oper.semAt_eq _ _ _ (by rw [hop]; simp), act_eval'];obtain ⟨fn, tmps, assign, body, hy, hround⟩ := hc
  have hrun : (execOp (ev n e) o).run P w = .ok (.round l fn tmps assign body) w := by
    obtain ⟨dst, op, type, pos, after, guard⟩ := o;simp only at hop; subst hop;have : List.map (ev n e) xs = vs := hargs;simp [execOp, resolve, hf, Deferred.ofValue, invoke, Sem.run_bind, Result.andThen, this, hy]
  rw [hrun, Oper.uponIn_round];refine ⟨by simp [FW, Fence.wide], RoundIn.mono hround fun x w' ⟨v, h1, h2⟩ => ?_⟩;subst h1;simp only [act_put];exact ⟨_, rfl, hk _ _ h2⟩
theorem O_yield {K : Env → World → Prop} {x : Operand} {xs : List Operand} {ts : Array TypeId} {l : Nat} {vs : List Value} {R : Value → World → Prop}
    (hf : ev n e x = .func (.yield l) #[] #[]) (hargs : argsOf n e xs = vs) (hc : YV P l vs w R) (hk : ∀ v w', R v w' → K (upd e d v) w') :
    OpW P none n ⟨some d, .call { callee := .value x, args := xs.toArray, argTypes := ts }, ty, pos, af, g⟩ K ds e w := OpW_yield rfl hf hargs hc hk

/-! ## The statement -/
def layP (e : Env) : List (Nat × Value) → Env
  | [] => e
  | (t, v) :: l => layP (upd e t v) l
theorem arr_lay (n : Nat) : ∀ (l : List (Nat × Value)) (e : Env), l.foldl (fun tmps (p : Nat × Value) => tmps.setIfInBounds p.1 p.2) (arr n e) = arr n (layP e l)
  | [], _ => rfl
  | (t, v) :: l, e => by simp only [List.foldl_cons, layP, arr_set]; exact arr_lay n l (upd e t v)
theorem W_range {α : Type} {g : Operand} {ps : List Nat} {assign body : Code} {gf : Nat} {lb : List Value} (xs : List α) (enc : α → List Value) (I : List α → World → Prop)
    (hg : ev n e g = .func (.func gf) #[] lb.toArray) (eg : ∀ (args : Array Value) (w : World), (callFunc gf args).run P w = .ok (.enter gf args) w)
    (hIx : ∀ q w w', I q w → Ext w w' → I q w') (hIk : ∀ q w1 w2 k, I q w1 → NCell w1 k → w.heap.size ≤ k → w1.grownBy w2 (some k) → I q w2) (h0 : I [] w) (hps : ∀ x, (enc x).length = ps.length)
    (hseq : ∀ (l : Nat) (J : List α → World → Prop) (w1 : World), (∀ q w, J q w → I q w) → (∀ q w w', J q w → Ext w w' → J q w') → J [] w1 →
      (∀ pre x suf w', xs = pre ++ x :: suf → J pre w' → YV P l (enc x) w' (fun v w'' => v = .bool true ∧ J (pre ++ [x]) w'')) →
      CV P gf (.func (.yield l) #[] #[] :: lb) w1 (fun _ w' => J xs w'))
    (hbody : ∀ l pre x suf w1, xs = pre ++ x :: suf → I pre w1 → W P (some l) n assign (fun ds e2 w2 => ds = [] ∧ w2 = w1 ∧ ∀ w3, I pre w3 → W P (some l) n body (fun _ _ w4 => I (pre ++ [x]) w4 ∧ KeepN w3 w4) (fun _ _ _ => False) [] [] e2 w3)
      (fun _ _ _ => False) [] [] (layP e (ps.zip (enc x))) w1)
    (hN : ∀ D w', I xs w' → w'.heap[D]? = some (.deferred (some [])) → w.heap.size ≤ D → N ({ target := .collected D, args := #[] } :: ds) e w') :
    W P none n (.rangeFunc g ps.toArray assign body) N R X ds e w := by
  refine wpIn_rangeFunc ?_;intro fn hfn;obtain ⟨rec, hrec⟩ : ∃ rec : LoopState → Option Code → Loop, rec = fun st pe => { state := st, pending := pe, fn, tmps := arr n e, params := ps.toArray, assign, body, defers := w.heap.size } := ⟨_, rfl⟩;obtain ⟨W1, hW1⟩ : ∃ W1, (w.alloc (.deferred (some []))).alloc (.loop (rec .ready none)) = W1 := ⟨_, rfl⟩
  have hL1 : W1.heap[w.heap.size + 1]? = some (.loop (rec .ready none)) := by
    rw [← hW1]; have := World.alloc_heap_new (w.alloc (.deferred (some []))) (.loop (rec .ready none)); rwa [World.size_alloc] at this
  have hE1 : Ext w W1 := by rw [← hW1]; exact (ext_alloc w _).alloc _
  have hK1 : W1.heap[w.heap.size]? = some (.deferred (some [])) := by
    rw [← hW1]; exact (ext_alloc (w.alloc (.deferred (some []))) (.loop (rec .ready none))).heap (World.alloc_heap_new w _)
  refine ⟨w.heap.size + 1, [{ target := .collected w.heap.size, args := #[] }], W1, { target := .fn (.func gf) lb.toArray, args := #[.func (.yield (w.heap.size + 1)) #[] #[]] }, W1, gf,
    #[.func (.yield (w.heap.size + 1)) #[] #[]] ++ lb.toArray, W1, ?_, ?_, fun _ _ => trivial, ?_, by simp [FW, Fence.wide], ?_⟩
  · rw [← hW1, hrec]; exact run_enterLoop_outer _ _ _ _ _
  · rw [act_eval']; simp only [resolve, hg];simp [Deferred.ofValue, Sem.run_bind, Result.andThen, ev]
  · simp [invoke, eg]
  · have hJ0 : (fun (pre : List α) W => I pre W ∧ W.heap[w.heap.size + 1]? = some (.loop (rec .ready none)) ∧ W.heap[w.heap.size]? = some (.deferred (some []))) [] W1 := ⟨hIx _ _ _ h0 hE1, hL1, hK1⟩
    have hcall := hseq (w.heap.size + 1) (fun pre W => I pre W ∧ W.heap[w.heap.size + 1]? = some (.loop (rec .ready none)) ∧ W.heap[w.heap.size]? = some (.deferred (some []))) W1 (fun q w h => h.1)
      (fun q w w' h x => ⟨hIx _ _ _ h.1 x, x.heap h.2.1, x.heap h.2.2⟩) hJ0 ?_
    · have hin := callsIn_of_CV (r := none) hcall;rw [show (Value.func (.yield (w.heap.size + 1)) #[] #[] :: lb).toArray = #[.func (.yield (w.heap.size + 1)) #[] #[]] ++ lb.toArray by simp] at hin;refine CallsIn.mono hin ?_
      rintro en w' ⟨v, rfl, hi, hl, hk⟩
      have hend := run_endLoop (P := P) hl (by rw [hrec]; simp);rw [show (rec .ready none).pending = none by rw [hrec]] at hend;refine ⟨none, _, hend, ?_⟩;refine ⟨{ target := .collected w.heap.size, args := #[] } :: ds, e, rfl, hN w.heap.size _ ?_ ?_ (Nat.le_refl _)⟩
      · exact hIk _ _ _ _ hi ⟨_, hl, by intros; simp⟩ (by omega) (put_grown _ _ _)
      · exact (World.putObj_heap_other (by omega)).trans hk
    · rintro pre x suf w' hxs ⟨hi, hl, hk⟩
      have hlt : w.heap.size + 1 < w'.heap.size := (Array.getElem?_eq_some_iff.1 hl).1;have hy := run_yield (P := P) (args := (enc x).toArray) hl (by rw [hrec]; simpa using hps x);rw [hrec] at hy;have hb := hbody (w.heap.size + 1) pre x suf w' hxs hi
      have htm : ((ps.toArray.zip (enc x).toArray).foldl (fun tmps (p : Nat × Value) => tmps.setIfInBounds p.1 p.2) (arr n e)) = arr n (layP e (ps.zip (enc x))) := by
        rw [← arr_lay]; simp
      have hy' : (Instr.yield (w.heap.size + 1) (enc x).toArray).run P w' = .ok (.round (w.heap.size + 1) fn (arr n (layP e (ps.zip (enc x)))) assign body) w' := (by rw [← htm]; exact hy);refine ⟨fn, _, assign, body, hy', roundIn_of_wpIn trivial (wpIn_mono hb ?_)⟩;intro x1 a1 w1 q
      cases x1 with
      | normal =>
        obtain ⟨ds1, e1, rfl, rfl, rfl, hq⟩ := q;have hn1 : NCell w1 (w.heap.size + 1) := ⟨_, hl, by intros; simp⟩;refine ⟨_, run_beginRound hl (by rw [hrec]), ?_⟩;have hl2 : (w1.putObj (w.heap.size + 1) (.loop { rec .ready none with state := .busy })).heap[w.heap.size + 1]? = some (.loop { rec .ready none with state := .busy }) := World.putObj_heap_same hlt;have hk2 : (w1.putObj (w.heap.size + 1) (.loop { rec .ready none with state := .busy })).heap[w.heap.size]? = some (.deferred (some [])) := (World.putObj_heap_other (by omega)).trans hk;have hi2 := hIk _ _ _ _ hi hn1 (by omega) (put_grown w1 (w.heap.size + 1) (.loop { rec .ready none with state := .busy }));refine wpIn_mono (hq _ hi2) ?_;intro x2 a2 w4 q2
        cases x2 with
        | normal =>
          obtain ⟨ds2, e2, rfl, hi4, hkp⟩ := q2;have hl4 := hkp _ _ hl2 (by intros; simp);have hk4 := hkp _ _ hk2 (by intros; simp);have hend := run_endRound (P := P) none hl4;refine ⟨_, _, hend, _, rfl, rfl, hIk _ _ _ _ hi4 ⟨_, hl4, by intros; simp⟩ (by omega) (put_grown _ _ _), ?_, (World.putObj_heap_other (by omega)).trans hk4⟩;rw [World.putObj_heap_same (Array.getElem?_eq_some_iff.1 hl4).1, hrec]; rfl
        | ret => obtain ⟨_, _, _, q2⟩ := q2; exact q2.elim
        | exit id => obtain ⟨_, _, _, q2⟩ := q2; exact q2.elim
        | goto t => exact q2.elim
        | panic c => exact q2.elim
        | outgrown => exact q2.elim
      | ret => obtain ⟨_, _, _, q⟩ := q; exact q.elim
      | exit id => obtain ⟨_, _, _, q⟩ := q; exact q.elim
      | goto t => exact q.elim
      | panic c => exact q.elim
      | outgrown => exact q.elim
/-- A function's contract, where its body has run one such loop. -/
def EndM (P : Program) (fn : Func) (n : Nat) (R : Value → World → Prop) : K3 := fun ds e w => ∃ D, ds = [{ target := .collected D, args := #[] }] ∧ w.heap[D]? = some (.deferred (some [])) ∧
  ∀ w', w' = w.putObj D (.deferred none) → NCell w D → w.grownBy w' (some D) → ∃ v, (results fn (arr n e)).run P w' = .ok v w' ∧ R v w'
theorem CV_bodyM {f : FuncId} {fn : Func} {c : Code} {args : List Value} {R : Value → World → Prop}
    (hf : P.funcs[f]? = some fn) (hb : fn.body = some c) (hn : fn.ntmps = n) (hle : args.length ≤ n) (h : W P none n c (EndM P fn n R) (EndM P fn n R) [] [] (env0 args) w) : CV P f args w R := by
  refine (callsIn_wide (n := 0)).1 (callsIn_of_wp_marks (F := Fence.wide) (n := 0) hf hb trivial ?_)
  have ha : ({ tmps := args.toArray ++ Array.replicate (fn.ntmps - args.toArray.size) undef, defers := [] } : Act) = act n [] (env0 args) := by
    rw [hn]; simpa using act0 args n hle
  rw [ha];refine wpIn_mono h fun x a w q => ?_
  have key : ∀ ds e w, EndM P fn n R ds e w → LeavesInM Fence.wide 0 P fn (arr n e) (fun en w' => ∃ v, en = .returned v ∧ R v w') ds .returning w := by
    rintro ds e w ⟨D, rfl, hD, hR⟩
    obtain ⟨v, h1, h2⟩ := hR _ rfl ⟨_, hD, by intros; simp⟩ (put_grown _ _ _);refine ⟨by simp, .inl ⟨D, _, rfl, run_takeDeferred hD, ?_⟩⟩;exact ⟨v, h1, v, rfl, h2⟩
  cases x with
  | normal => obtain ⟨ds, e, rfl, q⟩ := q; exact key _ _ _ q
  | ret => obtain ⟨ds, e, rfl, q⟩ := q; exact key _ _ _ q
  | exit id => obtain ⟨ds, e, _, q⟩ := q; exact q.elim
  | goto l => exact q.elim
  | panic c => exact q.elim
  | outgrown => exact q.elim
end
end Go.V
