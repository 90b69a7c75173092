/- For every cells, list, expression, relations and set that a call can be given, the law RelationMatchesReference returns true and leaves its arguments as they were; the two package variables that it reads hold what the program's text lays in them. -/
import Derived.Test.YtfflocidknkciaaGreatDoorCards
import Derived.Test.YtfflocidknkciaaGreatDoorTie
import Derived.Test.YtfflocidknkciaaGreatDoorOpen
import Derived.Test.YtfflocidknkciaaGreatDoorWalkZb
import Derived.Handy
import Derived.Lay
import Derived.SevenTiedAt
set_option linter.all false
namespace Go.V
open Go Go.ChangeShapes
/-- A laid array of integers: its cells. -/
theorem laid_ints {H : Type} {enc : TypeId × Value → H} {P : Program} {w : World} {held : Bool} {t e : TypeId} {n fuel : Nat} {k : IntKind} {cs : List Value} {x : DataW H × List MemPlace} {l : List Int}
    (ht : P.underlying t = some (.array n e)) (he : P.underlying e = some (.int k)) (hc : P.cellsOf e = 1) (h : DataW.trod enc P w 0 (fun _ => true) held fuel t cs = some x) (hx : x.1 = .agg (l.map fun z => .lit (.int k z))) (hn : l.length = n) :
    ∀ (j : Nat) (v : Value), (l.map (Value.int k))[j]? = some v → cs[j]? = some v := by
  obtain ⟨xs, m, _, rfl, hl, hlen, hf⟩ := DataW.trod_array ht h;intro j v hj
  have hjn : j < n := by
    rcases Nat.lt_or_ge j l.length with h | h
    · omega
    · rw [List.getElem?_eq_none (by simpa using h)] at hj; cases hj
  have h1 := hf j hjn;rw [hc, Nat.mul_one, List.getElem?_eq_getElem (by omega)] at h1;obtain ⟨z, e1, e2, _⟩ := DataW.trod_int he h1;simp only [DataW.agg.injEq] at hx;have h2 : (xs.map (·.1))[j]? = some (.lit (.int k z)) := (by rw [List.getElem?_map, List.getElem?_eq_getElem (by omega), Option.map_some, e2]);rw [hx, List.getElem?_map] at h2;rw [List.getElem?_map] at hj;obtain ⟨q, hq, hv⟩ := Option.map_eq_some_iff.1 hj;rw [hq] at h2;simp at h2;subst h2; subst hv
  cases hd : cs[j]? with
  | none =>
    rw [List.getElem?_eq_none_iff] at hd;rw [List.drop_eq_nil_of_le hd] at e1;simp at e1
  | some u =>
    have h3 : (cs.drop j)[0]? = some u := by simpa using hd
    cases hd' : cs.drop j with
    | nil => rw [hd'] at h3; simp at h3
    | cons a r =>
      rw [hd'] at h3 e1;simp at h3 e1;rw [← h3, e1]
end Go.V
namespace Go.Proofs.YtfflocidknkciaaGreatDoor
open Go Go.V Go.ChangeShapes Go.WideShapes Go.RowKit
set_option maxRecDepth 100000

theorem own15 : ownKnob Tryz.prog.godebug = none := by kernel_rfl
theorem params15 : ∀ t ∈ Tryz.f3.params.toList, Tryz.prog.readableRec t = true ∧ t < Tryz.prog.types.size := by
  have h : (Tryz.f3.params.toList.all fun t => Tryz.prog.readableRec t && decide (t < Tryz.prog.types.size)) = true := (by kernel_rfl);intro t ht;have := List.all_eq_true.1 h t ht
  simpa using this
theorem laidOut15 : laidOutB Tryz.prog = true := by kernel_rfl
def laid15 : List (String × DataW Unit) := [("math/bits.deBruijn64tab", Rows.laid_math_bits_deBruijn64tab), ("relyguard/expr.masks", Rows.laid_relyguard_expr_masks)]
theorem gMasks15 : Tryz.prog.globalNamed "relyguard/expr.masks" = some 0 := by kernel_rfl
theorem gBruijn15 : Tryz.prog.globalNamed "math/bits.deBruijn64tab" = some 1 := by kernel_rfl
theorem tMasks15 : (Tryz.prog.globals[0]?).map (·.type) = some 117 := by kernel_rfl
theorem tBruijn15 : (Tryz.prog.globals[1]?).map (·.type) = some 128 := by kernel_rfl

/-- The two variables' cells. -/
theorem of_laid15 {W : World} (h : laidMetH Tryz.prog laid15 W) : Cells W 0 0 mkV ∧ Cells W 1 0 dbV := by
  rw [MakeChecks.laidMetH_plain _ _ _ (by kernel_rfl)] at h;obtain ⟨ps, ⟨g1, t1, cs1, f1, p1, q1, hg1, ht1, hv1, hd1, ⟨g0, t0, cs0, f0, p0, q0, hg0, ht0, hv0, hd0, _, _⟩, _⟩, _, _⟩ := h;obtain rfl := Option.some.inj (gMasks15.symm.trans hg0);obtain rfl := Option.some.inj (gBruijn15.symm.trans hg1);obtain rfl := Option.some.inj (tMasks15.symm.trans ht0);obtain rfl := Option.some.inj (tBruijn15.symm.trans ht1);have h0 := laid_ints (l := [0, 1, 3, 7, 15, 31, 63, 127, 255]) Tryz.underlying117 Tryz.underlying3 (by kernel_rfl) hd0 rfl rfl;have h1 := laid_ints (l := dbT.map fun (n : Nat) => (n : Int)) Tryz.underlying128 Tryz.underlying5 (by kernel_rfl) hd1 rfl rfl;refine ⟨fun j v hj => ?_, fun j v hj => ?_⟩
  · rw [Nat.zero_add, World.var?_cell hg0 hv0 j, ← Array.getElem?_toList];exact h0 j v hj
  · rw [Nat.zero_add, World.var?_cell hg1 hv1 j, ← Array.getElem?_toList];exact h1 j v (by rw [← hj]; simp [dbV, Function.comp_def])
set_option maxHeartbeats 4000000 in
theorem lifted15 (os : Os) (started : os.Started) (H : Type) (enc : TypeId × Value → H) :
    ReturnsInHanded {} Tryz.checked os 3 .any (fun w args => (Rows.relationMatchesReferenceSpec.pre enc Tryz.prog Tryz.f3 [] false w args ∧ laidMetH Tryz.prog laid15 w) ∧ sizedMet enc Tryz.prog Tryz.f3 (OpenSpec.ofChange Rows.relationMatchesReferenceSpec) false w args)
      (Rows.relationMatchesReferenceSpec.post enc Tryz.prog Tryz.f3 false true false false) := by
  refine returnsInHanded_of_change_and (C := Tryz.checked) (X := fun w _ => laidMetH Tryz.prog laid15 w) (fun _ _ _ hh h => h.of_heap hh) own15 started (by kernel_rfl) Tryz.func3
    (ChangeSpec.witness_shaped (enc := enc) (C := Tryz.checked) (os := os) (X := fun w _ => laidMetH Tryz.prog laid15 w) false (World.laidAll Tryz.prog os laid15)
      #[.slice none 0 0, .slice none 0 0, .agg #[.int .i64 0, .int .i64 0, .int .i64 0, .slice none 0 0], .agg #[.slice none 0 0, .slice none 0 0, .slice none 0 0], .agg #[.slice none 0 0, .slice none 0 0, .slice none 0 0], .agg #[.slice none 0 0, .slice none 0 0, .slice none 0 0]] 8 (World.laidAll_os _ _ _)
      (World.shaped_of_ZipB (by kernel_rfl) (by kernel_rfl)) (by kernel_rfl) (by kernel_rfl) (by kernel_rfl)
      (by rw [MakeChecks.laidMetH_plain _ _ _ (by kernel_rfl)]; exact laidMet_laidAll _ (by kernel_rfl) (by kernel_rfl))) ?_
  intro W base args ds gs before hval0 hW _ hsz hL _;have hval : ∀ (j : Nat) t v, Tryz.f3.params[j]? = some t → args[j]? = some v → Value.okWide Tryz.prog W .any base t v := hval0;have hW' := hW;obtain ⟨p, q, hA0, hV, rfl, _, _⟩ := hW;have hA : DataW.TrodAll enc Tryz.prog W 0 (fun _ => true) true Tryz.f3.params.toList args.toList ds p := hA0;obtain ⟨rfl, rfl⟩ := trodVars_none hV
  have hwt : ∀ (j : Nat) t d, Tryz.f3.params.toList[j]? = some t → ds[j]? = some d → Lt Tryz.prog t d := fun j t d ht hd m hm => by
    have := List.all_eq_true.1 hsz m (DataW.weights_mem_each (j := j) (by rw [List.getElem?_append_left (by rcases Nat.lt_or_ge j Tryz.f3.params.toList.length with h | h; exact h; rw [List.getElem?_eq_none h] at ht; cases ht)]; exact ht)
      (by rw [List.append_nil]; exact hd) m hm)
    simpa using this
  rw [Tryz.params3] at hA hval hwt;obtain ⟨v0, vs0, e0, es0, _, _, hargs, rfl, rfl, ⟨n0, h0⟩, r0⟩ := trodAll_cons hA;obtain ⟨v1, vs1, e1, es1, _, _, rfl, rfl, rfl, ⟨n1, h1⟩, r1⟩ := trodAll_cons r0;obtain ⟨v2, vs2, e2, es2, _, _, rfl, rfl, rfl, ⟨n2, h2⟩, r2⟩ := trodAll_cons r1;obtain ⟨v3, vs3, e3, es3, _, _, rfl, rfl, rfl, ⟨n3, h3⟩, r3⟩ := trodAll_cons r2;obtain ⟨v4, vs4, e4, es4, _, _, rfl, rfl, rfl, ⟨n4, h4⟩, r4⟩ := trodAll_cons r3;obtain ⟨v5, vs5, e5, es5, _, _, rfl, rfl, rfl, ⟨n5, h5⟩, r5⟩ := trodAll_cons r4;obtain ⟨rfl, rfl, rfl⟩ := trodAll_nil r5;obtain rfl : args = #[v0, v1, v2, v3, v4, v5] := by cases args; simp_all
  obtain ⟨a0, l0, c0, k0, s0⟩ := open_cells Tryz.underlying22 Tryz.underlying51 Tryz.underlying9 Tryz.underlying3 Tryz.underlying3 Tryz.underlying3 Tryz.underlying4 Tryz.underlying3 rfl rfl rfl rfl rfl rfl
    (by kernel_rfl) (by kernel_rfl) (by kernel_rfl) (by kernel_rfl) (by kernel_rfl) (by kernel_rfl) (by kernel_rfl) (of_decide_eq_true (by kernel_rfl)) h0 (hwt 0 22 e0 rfl rfl)
  obtain rfl := val_one Tryz.underlying22 (hval 0 22 v0 rfl rfl) k0;obtain ⟨a1, l1, c1, k1, s1⟩ := open_ints Tryz.underlying23 Tryz.underlying3 (by kernel_rfl) (of_decide_eq_true (by kernel_rfl)) h1 (hwt 1 23 e1 rfl rfl);obtain rfl := val_one Tryz.underlying23 (hval 1 23 v1 rfl rfl) k1
  obtain ⟨z, a2, c2, k2, s2⟩ := open_expr Tryz.underlying26 Tryz.underlying3 Tryz.underlying3 Tryz.underlying3 Tryz.underlying24 rfl rfl rfl rfl (by kernel_rfl) (by kernel_rfl) (by kernel_rfl) (by kernel_rfl) (by kernel_rfl) (of_decide_eq_true (by kernel_rfl))
    (n2 + 1) n2 _ _ (by omega) h2 (hwt 2 26 e2 rfl rfl)
  obtain rfl := val_struct Tryz.underlying26 (hval 2 26 v2 rfl rfl) k2
  have rel : ∀ (n : Nat) (v : Value) (e : DataW H) (ps : List MemPlace), DataW.trod enc Tryz.prog W 0 (fun _ => true) true n 29 v.cells.toList = some (e, ps) → Lt Tryz.prog 29 e → Value.okWide Tryz.prog W .any base 29 v →
      ∃ s b1 b2 b3 d1 d2 d3, v = vR s b1 b2 b3 d1 d2 d3 ∧ RelOk W s b1 b2 b3 := by
    intro n v e ps h hw hv;obtain ⟨m, u0, u1, u2, y0, y1, y2, hu, ⟨g0, w0⟩, ⟨g1, w1⟩, ⟨g2, w2⟩⟩ := open_three Tryz.underlying29 rfl rfl rfl (by kernel_rfl) (by kernel_rfl) (by kernel_rfl) (by kernel_rfl) h hw;obtain ⟨b1, m1, d1, q1, t1⟩ := open_ints Tryz.underlying23 Tryz.underlying3 (by kernel_rfl) (of_decide_eq_true (by kernel_rfl)) g0 w0;obtain ⟨b2, m2, d2, q2, t2⟩ := open_ints Tryz.underlying23 Tryz.underlying3 (by kernel_rfl) (of_decide_eq_true (by kernel_rfl)) g1 w1;obtain ⟨b3, m3, d3, q3, t3⟩ := open_pairs Tryz.underlying27 Tryz.underlying52 Tryz.underlying3 (by kernel_rfl) (by kernel_rfl) (of_decide_eq_true (by kernel_rfl)) g2 w2;simp only [List.cons.injEq, and_true] at q1 q2 q3;subst q1; subst q2; subst q3;exact ⟨⟨m1, m2, m3⟩, b1, b2, b3, d1, d2, d3, val_struct Tryz.underlying29 hv hu, t1, t2, t3⟩
  obtain ⟨s, b1, b2, b3, d1, d2, d3, rfl, hs⟩ := rel _ _ _ _ h3 (hwt 3 29 e3 rfl rfl) (hval 3 29 v3 rfl rfl);obtain ⟨t, f1, f2, f3, g1, g2, g3, rfl, ht⟩ := rel _ _ _ _ h4 (hwt 4 29 e4 rfl rfl) (hval 4 29 v4 rfl rfl);obtain ⟨m, u0, u1, u2, y0, y1, y2, hu, ⟨x0, w0⟩, ⟨x1, w1⟩, ⟨x2, w2⟩⟩ := open_three Tryz.underlying31 rfl rfl rfl (by kernel_rfl) (by kernel_rfl) (by kernel_rfl) (by kernel_rfl) h5 (hwt 5 31 e5 rfl rfl);obtain ⟨p1, m1, o1, q1, t1⟩ := open_ints Tryz.underlying23 Tryz.underlying3 (by kernel_rfl) (of_decide_eq_true (by kernel_rfl)) x0 w0;obtain ⟨p2, m2, o2, q2, t2⟩ := open_ints Tryz.underlying23 Tryz.underlying3 (by kernel_rfl) (of_decide_eq_true (by kernel_rfl)) x1 w1;obtain ⟨p3, m3, o3, q3, t3⟩ := open_ints Tryz.underlying23 Tryz.underlying3 (by kernel_rfl) (of_decide_eq_true (by kernel_rfl)) x2 w2;simp only [List.cons.injEq, and_true] at q1 q2 q3;subst q1; subst q2; subst q3;obtain rfl : v5 = vS ⟨m1, m2, m3⟩ p1 p2 p3 o1 o2 o3 := val_struct Tryz.underlying31 (hval 5 31 v5 rfl rfl) hu;obtain ⟨hM, hG⟩ := of_laid15 hL;have hc := law15_calls l0 l1 z s t ⟨m1, m2, m3⟩ a0 a1 a2 b1 b2 b3 f1 f2 f3 p1 p2 p3 c0 c1 c2 d1 d2 d3 g1 g2 g3 o1 o2 o3 W hM hG s0 s1 s2 hs ht ⟨t1, t2, t3⟩;unfold CV at hc;refine hc.mono fun e W' ⟨v, he, hv, hx⟩ => ?_;subst hv; subst he;refine ⟨_, rfl, ?_⟩;simp only [List.append_nil] at hW';exact post_kept laidOut15 params15 rfl (by kernel_rfl) Tryz.underlying4 rfl hW' hx
theorem relationMatchesReference_holds : Rows.RelationMatchesReferenceSaid :=
  OpenClaim.holds_of_wide 3 Tryz.f3 rfl rfl rfl rfl rfl rfl rfl ⟨rfl, rfl, rfl, rfl, rfl⟩ rfl rfl rfl rfl rfl (by kernel_rfl) Tryz.func3 (by kernel_rfl)
    (of_decide_eq_true (by kernel_rfl)) (by unfold Func.isWrapper; first | (rw [if_pos (by decide +kernel)]; kernel_rfl) | (rw [if_neg (by decide +kernel)]; exact ⟨rfl, rfl⟩))
    (fun os started H enc _ => lifted15 os started H enc)
theorem relationMatchesReference_card : Rows.RelationMatchesReferenceCardSaid :=
  Claim7.holds_tied_plain_at .later [] [.data, .data] true (true, "2d76e8c8738910c691fb3ed66c2fc9fe4e28b8df1d6bda8b3bea9d3add2eba1e") false relationMatchesReference_holds (fun _ h => by cases h) (by kernel_rfl) (fun _ h => by cases h) relationMatchesReference_row_tie rfl ⟨rfl, rfl⟩ (by kernel_rfl) rfl
    (fun f fn hf hfn => by
      obtain rfl : f = 3 := Option.some.inj ((show Tryz.prog.funcNamed "relyguard/relyguardlaw15.RelationMatchesReference" = some 3 by kernel_rfl).symm.trans hf) |>.symm;obtain rfl : fn = Tryz.f3 := (Option.some.inj (Tryz.func3.symm.trans hfn)).symm
      exact ⟨by kernel_rfl, fun j t ht => by
        rw [Tryz.params3] at ht;have hm : t ∈ [22, 23, 26, 29, 29, 31] := (by simpa using Array.mem_of_getElem? ht);have hall : ([22, 23, 26, 29, 29, 31].all fun u => !Tryz.prog.wantsStandIn u) = true := by kernel_rfl
        exact (show Tryz.prog.wantsStandIn t = false by simpa using List.all_eq_true.1 hall t hm)⟩)
    (by kernel_rfl)
#print axioms relationMatchesReference_card
end Go.Proofs.YtfflocidknkciaaGreatDoor
