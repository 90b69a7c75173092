/- From what a claim says of its arguments to the facts that the walks take: a slice read whole stands for a list; what a call leaves that writes to new memory alone. Holds for every program. -/
import Derived.Test.YtfflocidknkciaaGreatDoorSets
import Derived.ProofKit
import Derived.OpenShut
import Derived.SizedLaws
import Derived.Handed
set_option linter.all false
namespace Go.V
open Go Go.ChangeShapes Go.WideShapes Go.RowKit

theorem exists_list {α : Type} {Q : Nat → α → Prop} : ∀ (n : Nat), (∀ i, i < n → ∃ z, Q i z) → ∃ l : List α, l.length = n ∧ ∀ i x, l[i]? = some x → Q i x
  | 0, _ => ⟨[], rfl, fun i x h => by simp at h⟩
  | n + 1, h => by
    obtain ⟨l, hl, hq⟩ := exists_list n fun i hi => h i (by omega);obtain ⟨z, hz⟩ := h n (by omega);refine ⟨l ++ [z], by simp [hl], fun i x hx => ?_⟩;by_cases hi : i < l.length
    · rw [List.getElem?_append_left hi] at hx; exact hq i x hx
    · rw [List.getElem?_append_right (by omega)] at hx
      have h0 : i - l.length = 0 := by
        rcases Nat.eq_zero_or_pos (i - l.length) with h0 | h0
        · exact h0
        · rw [List.getElem?_eq_none (by simp; omega)] at hx; cases hx
      rw [h0] at hx;simp at hx;subst hx;rw [show i = n by omega]; exact hz

theorem cell_spot {w : World} {a : Addr} {v : Value} (h : w.cell? a = some v) : a = ⟨a.block, a.off, none⟩ := by
  obtain ⟨b, o, s⟩ := a;unfold World.cell? at h;split at h
  · split at h
    · cases h
    · rename_i hs
      cases s with
      | none => rfl
      | some x => simp at hs
  · cases h
theorem cells?_get {w : World} {base : Nat} {b o : Nat} {n : Nat} {cs : List Value} (h : w.cells? base ⟨b, o, none⟩ n = some cs) : Cells w b o cs := by
  obtain ⟨h1, h2, h3⟩ := World.cells?_some h;intro j v hj
  have hjn : j < n := by
    rcases Nat.lt_or_ge j cs.length with h | h
    · omega
    · rw [List.getElem?_eq_none h] at hj; cases hj
  have := h3 j hjn;rw [addr_add] at this;rw [this, hj]

section
variable {H : Type} {enc : TypeId × Value → H} {P : Program} {w : World} {held : Bool}
/-- All the weights of a datum are in reach. -/
def Lt (P : Program) (t : TypeId) (d : DataW H) : Prop := ∀ m ∈ d.weights P t, m ≤ reachBytes
theorem Lt.all {e : TypeId} : ∀ {ds : List (DataW H)}, (∀ m ∈ DataW.weightsAll P e ds, m ≤ reachBytes) → ∀ (d : DataW H), d ∈ ds → Lt P e d
  | [], _, d, h => by cases h
  | x :: r, h, d, hd => by
    intro m hm;rcases List.mem_cons.1 hd with rfl | hd
    · exact h m (by unfold DataW.weightsAll; exact List.mem_append_left _ hm)
    · exact Lt.all (ds := r) (fun m hm => h m (by unfold DataW.weightsAll; exact List.mem_append_right _ hm)) d hd m hm
theorem Lt.slice {t e : TypeId} {el sp : List (DataW H)} (ht : P.underlying t = some (.slice e)) (h : Lt P t (.slice el sp)) :
    (el.length + sp.length) * P.bytesOf e ≤ reachBytes ∧ ∀ d, d ∈ el → Lt P e d := by
  unfold Lt DataW.weights at h;rw [ht] at h;exact ⟨h _ (List.mem_cons_self ..), Lt.all fun m hm => h m (List.mem_cons_of_mem _ (List.mem_append_left _ hm))⟩
theorem Lt.part {t : TypeId} {fs : Array Field} {ds : List (DataW H)} (ht : P.underlying t = some (.struct fs)) (h : Lt P t (.agg ds)) {j : Nat} {f : Field} {d : DataW H} (hf : fs[j]? = some f) (hd : ds[j]? = some d) : Lt P f.type d := by
  unfold Lt DataW.weights at h;rw [ht] at h;intro m hm;exact h m (DataW.weights_mem_each (ts := fs.toList.map (·.type)) (j := j) (by simp [hf]) hd m hm)
theorem Lt.item {t e : TypeId} {n : Nat} {ds : List (DataW H)} (ht : P.underlying t = some (.array n e)) (h : Lt P t (.agg ds)) (d : DataW H) (hd : d ∈ ds) : Lt P e d := by
  unfold Lt DataW.weights at h;rw [ht] at h;exact Lt.all h d hd

/-- A SLICE READ: it stands for a list. -/
theorem open_sl {α : Type} {sz : Nat} {R : World → Nat → Nat → α → Prop} {t e : TypeId} {fuel : Nat} {cs : List Value} {x : DataW H × List MemPlace}
    (ht : P.underlying t = some (.slice e)) (hc : P.cellsOf e = sz) (hsz : 0 < sz) (hb : 0 < P.bytesOf e)
    (hel : ∀ (n b o : Nat) (vs : List Value) (y : DataW H × List MemPlace), fuel = n + 1 → Cells w b o vs → DataW.trod enc P w 0 (fun _ => true) held n e vs = some y → Lt P e y.1 → ∃ z, R w b o z)
    (h : DataW.trod enc P w 0 (fun _ => true) held fuel t cs = some x) (hw : Lt P t x.1) :
    ∃ (a : Option Addr) (l : List α) (c : Nat), cs = [.slice a l.length c] ∧ Sl sz R w a l := by
  rcases DataW.trod_slice ht h with ⟨rfl, rfl⟩ | ⟨a, len, cap, elems, rest, n, hn, rfl, rfl, _, hlc, _, hlen, hel', _, _⟩
  · exact ⟨none, [], 0, rfl, Sl.nil⟩
  · obtain ⟨hB, hall⟩ := Lt.slice ht hw
    have hlen2 : len ≤ 140737488355328 := by
      have h1 : len ≤ (elems.length + rest.length) * P.bytesOf e := by
        calc len ≤ (elems.length + rest.length) * 1 := by omega
          _ ≤ _ := Nat.mul_le_mul_left _ hb
      simp only [List.length_map] at hB;have h2 : reachBytes ≤ 140737488355328 := (by decide);omega
    have hcell : ∀ i, i < len → a = ⟨a.block, a.off, none⟩ ∧ ∃ vs y, Cells w a.block (a.off + i * sz) vs ∧ DataW.trod enc P w 0 (fun _ => true) held n e vs = some y ∧ elems[i]? = some y := by
      have hspot : 0 < len → a = ⟨a.block, a.off, none⟩ := by
        intro h0;have h1 := hel' 0 h0;rw [List.getElem?_eq_getElem (by omega)] at h1;obtain ⟨vs, hvs, _⟩ := Option.bind_eq_some_iff.1 h1;obtain ⟨_, hl, hg⟩ := World.cells?_some hvs;have h2 := hg 0 (by omega);rw [List.getElem?_eq_getElem (by omega)] at h2;have h3 := cell_spot h2
        simpa [Addr.add] using h3
      intro i hi;have ha := hspot (by omega);refine ⟨ha, ?_⟩;have h1 := hel' i hi;rw [List.getElem?_eq_getElem (by omega)] at h1;obtain ⟨vs, hvs, hy⟩ := Option.bind_eq_some_iff.1 h1;rw [ha, addr_add, hc] at hvs;exact ⟨vs, _, cells?_get hvs, hy, List.getElem?_eq_getElem (by omega)⟩
    obtain ⟨l, hl, hq⟩ := exists_list (Q := fun i z => R w a.block (a.off + i * sz) z) len fun i hi => by
      obtain ⟨_, vs, y, h1, h2, h3⟩ := hcell i hi
      exact hel n _ _ vs y hn h1 h2 (hall _ (by
        have := List.mem_of_getElem? h3
        exact List.mem_map.2 ⟨y, this, rfl⟩))
    refine ⟨some a, l, cap, by rw [hl], fun i hi => ?_, fun i z hz => hq i z hz, by omega⟩;have := (hcell i (by omega)).1;show some a = some ⟨a.block, a.off, none⟩;rw [← this]

/-- A part of a struct read. -/
theorem open_part {t : TypeId} {fs : Array Field} {fuel : Nat} {cs : List Value} {x : DataW H × List MemPlace} (ht : P.underlying t = some (.struct fs)) (h : DataW.trod enc P w 0 (fun _ => true) held fuel t cs = some x) (hw : Lt P t x.1) :
    ∃ n, fuel = n + 1 ∧ cs.length = P.cellsOf t ∧ ∀ (i : Nat) (f : Field), fs[i]? = some f → ∃ y, DataW.trod enc P w 0 (fun _ => true) held n f.type ((cs.drop f.offset).take (P.cellsOf f.type)) = some y ∧ Lt P f.type y.1 := by
  obtain ⟨xs, n, hn, rfl, hl, hlen, hf⟩ := DataW.trod_struct ht h;refine ⟨n, hn, hl, fun i f hi => ?_⟩
  have hi' : i < xs.length := by
    rw [hlen];rcases Nat.lt_or_ge i fs.size with h | h
    · exact h
    · rw [Array.getElem?_eq_none h] at hi; cases hi
  refine ⟨xs[i], ?_, ?_⟩
  · rw [hf i f hi, List.getElem?_eq_getElem hi']
  · exact Lt.part ht hw hi (by rw [List.getElem?_map, List.getElem?_eq_getElem hi']; rfl)
theorem open_item {t e : TypeId} {m : Nat} {fuel : Nat} {cs : List Value} {x : DataW H × List MemPlace} (ht : P.underlying t = some (.array m e)) (h : DataW.trod enc P w 0 (fun _ => true) held fuel t cs = some x) (hw : Lt P t x.1) :
    ∃ n, fuel = n + 1 ∧ cs.length = P.cellsOf t ∧ ∀ (i : Nat), i < m → ∃ y, DataW.trod enc P w 0 (fun _ => true) held n e ((cs.drop (i * P.cellsOf e)).take (P.cellsOf e)) = some y ∧ Lt P e y.1 := by
  obtain ⟨xs, n, hn, rfl, hl, hlen, hf⟩ := DataW.trod_array ht h;refine ⟨n, hn, hl, fun i hi => ⟨xs[i]'(by omega), by rw [hf i hi, List.getElem?_eq_getElem (by omega)], ?_⟩⟩;exact Lt.item ht hw _ (List.mem_map.2 ⟨_, List.getElem_mem _, rfl⟩)

variable {base : Nat} {sp : Nat → Bool}
theorem open_one {t : TypeId} {k : IntKind} {fuel : Nat} {cs : List Value} {x : DataW H × List MemPlace} (ht : P.underlying t = some (.int k)) (h : DataW.trod enc P w base sp held fuel t cs = some x) : ∃ n, cs = [.int k n] := by
  obtain ⟨n, h, _⟩ := DataW.trod_int ht h; exact ⟨n, h⟩
theorem open_oneB {t : TypeId} {fuel : Nat} {cs : List Value} {x : DataW H × List MemPlace} (ht : P.underlying t = some .bool) (h : DataW.trod enc P w base sp held fuel t cs = some x) : ∃ n, cs = [.bool n] := by
  obtain ⟨n, h, _⟩ := DataW.trod_bool ht h; exact ⟨n, h⟩
theorem open_oneS {t : TypeId} {fuel : Nat} {cs : List Value} {x : DataW H × List MemPlace} (ht : P.underlying t = some .string) (h : DataW.trod enc P w base sp held fuel t cs = some x) : ∃ n, cs = [.string n] := by
  obtain ⟨n, h, _⟩ := DataW.trod_string ht h; exact ⟨n, h⟩

/-- A slice of integers. -/
theorem open_ints {t e : TypeId} {fuel : Nat} {cs : List Value} {x : DataW H × List MemPlace} (ht : P.underlying t = some (.slice e)) (he : P.underlying e = some (.int .i64)) (hc : P.cellsOf e = 1) (hb : 0 < P.bytesOf e)
    (h : DataW.trod enc P w 0 (fun _ => true) held fuel t cs = some x) (hw : Lt P t x.1) : ∃ a l c, cs = [.slice a l.length c] ∧ SlI w a l :=
  open_sl (R := EI) ht hc (by decide) hb (fun n b o vs y _ hcs hy _ => by
    obtain ⟨z, rfl⟩ := open_one he hy
    exact ⟨z, hcs 0 _ rfl⟩) h hw
/-- A slice of pairs of integers. -/
theorem open_pairs {t e i : TypeId} {fuel : Nat} {cs : List Value} {x : DataW H × List MemPlace} (ht : P.underlying t = some (.slice e)) (he : P.underlying e = some (.array 2 i)) (hi : P.underlying i = some (.int .i64)) (hc : P.cellsOf e = 2) (hc1 : P.cellsOf i = 1) (hb : 0 < P.bytesOf e)
    (h : DataW.trod enc P w 0 (fun _ => true) held fuel t cs = some x) (hw : Lt P t x.1) : ∃ a l c, cs = [.slice a l.length c] ∧ SlP w a l :=
  open_sl (R := EP) ht hc (by decide) hb (fun n b o vs y _ hcs hy hl => by
    obtain ⟨m, _, hlen, hit⟩ := open_item he hy hl;rw [hc] at hlen
    obtain ⟨v0, v1, rfl⟩ : ∃ v0 v1, vs = [v0, v1] := by
      match vs, hlen with
      | [v0, v1], _ => exact ⟨v0, v1, rfl⟩
    obtain ⟨y0, h0, _⟩ := hit 0 (by decide);obtain ⟨y1, h1, _⟩ := hit 1 (by decide);rw [hc1] at h0 h1;obtain ⟨z0, e0⟩ := open_one hi h0;obtain ⟨z1, e1⟩ := open_one hi h1;simp at e0 e1;subst e0; subst e1
    exact ⟨(z0, z1), hcs 0 _ rfl, hcs 1 _ rfl⟩) h hw

/-- An expression read. -/
theorem open_expr {e : TypeId} {f0 f1 f2 f3 : Field} (he : P.underlying e = some (.struct #[f0, f1, f2, f3])) (t0 : P.underlying f0.type = some (.int .i64)) (t1 : P.underlying f1.type = some (.int .i64)) (t2 : P.underlying f2.type = some (.int .i64)) (t3 : P.underlying f3.type = some (.slice e))
    (o0 : f0.offset = 0) (o1 : f1.offset = 1) (o2 : f2.offset = 2) (o3 : f3.offset = 3) (c0 : P.cellsOf f0.type = 1) (c1 : P.cellsOf f1.type = 1) (c2 : P.cellsOf f2.type = 1) (c3 : P.cellsOf f3.type = 1) (ce : P.cellsOf e = 4) (be : 0 < P.bytesOf e) :
    ∀ (N fuel : Nat) (vs : List Value) (y : DataW H × List MemPlace), fuel < N → DataW.trod enc P w 0 (fun _ => true) held fuel e vs = some y → Lt P e y.1 →
      ∃ (z : E) (a : Option Addr) (c : Nat), vs = [.int .i64 z.op, .int .i64 z.w, .int .i64 z.n, .slice a z.ks.length c] ∧ SlE w a z.ks
  | 0, _, _, _, h, _, _ => by omega
  | N + 1, fuel, vs, y, hN, h, hw => by
    obtain ⟨n, hn, hlen, hp⟩ := open_part he h hw;rw [ce] at hlen
    obtain ⟨v0, v1, v2, v3, rfl⟩ : ∃ v0 v1 v2 v3, vs = [v0, v1, v2, v3] := by
      match vs, hlen with
      | [v0, v1, v2, v3], _ => exact ⟨v0, v1, v2, v3, rfl⟩
    obtain ⟨y0, h0, _⟩ := hp 0 f0 rfl;obtain ⟨y1, h1, _⟩ := hp 1 f1 rfl;obtain ⟨y2, h2, _⟩ := hp 2 f2 rfl;obtain ⟨y3, h3, l3⟩ := hp 3 f3 rfl;rw [o0, c0] at h0; rw [o1, c1] at h1; rw [o2, c2] at h2; rw [o3, c3] at h3;obtain ⟨z0, e0⟩ := open_one t0 h0;obtain ⟨z1, e1⟩ := open_one t1 h1;obtain ⟨z2, e2⟩ := open_one t2 h2
    obtain ⟨a, l, c, e3, hs⟩ := open_sl (R := ER) (sz := 4) t3 ce (by decide) be (fun m b o us u hm hcs hu hl => by
      obtain ⟨z, a, c, rfl, hz⟩ := open_expr he t0 t1 t2 t3 o0 o1 o2 o3 c0 c1 c2 c3 ce be N m us u (by omega) hu hl
      exact ⟨z, ER.mk hcs hz⟩) h3 l3
    simp at e0 e1 e2 e3;subst e0; subst e1; subst e2; subst e3;exact ⟨.mk z0 z1 z2 l, a, c, rfl, hs⟩
/-- A slice of cells of a program. -/
theorem open_cells {t e : TypeId} {f0 f1 f2 f3 f4 f5 : Field} {fuel : Nat} {cs : List Value} {x : DataW H × List MemPlace} (ht : P.underlying t = some (.slice e)) (he : P.underlying e = some (.struct #[f0, f1, f2, f3, f4, f5]))
    (t0 : P.underlying f0.type = some .string) (t1 : P.underlying f1.type = some (.int .i64)) (t2 : P.underlying f2.type = some (.int .i64)) (t3 : P.underlying f3.type = some (.int .i64)) (t4 : P.underlying f4.type = some .bool) (t5 : P.underlying f5.type = some (.int .i64))
    (o0 : f0.offset = 0) (o1 : f1.offset = 1) (o2 : f2.offset = 2) (o3 : f3.offset = 3) (o4 : f4.offset = 4) (o5 : f5.offset = 5)
    (c0 : P.cellsOf f0.type = 1) (c1 : P.cellsOf f1.type = 1) (c2 : P.cellsOf f2.type = 1) (c3 : P.cellsOf f3.type = 1) (c4 : P.cellsOf f4.type = 1) (c5 : P.cellsOf f5.type = 1) (ce : P.cellsOf e = 6) (be : 0 < P.bytesOf e)
    (h : DataW.trod enc P w 0 (fun _ => true) held fuel t cs = some x) (hw : Lt P t x.1) : ∃ a l c, cs = [.slice a l.length c] ∧ SlC w a l :=
  open_sl (R := EC) ht ce (by decide) be (fun m b o vs y _ hcs hy hl => by
    obtain ⟨n, hn, hlen, hp⟩ := open_part he hy hl;rw [ce] at hlen
    obtain ⟨v0, v1, v2, v3, v4, v5, rfl⟩ : ∃ v0 v1 v2 v3 v4 v5, vs = [v0, v1, v2, v3, v4, v5] := by
      match vs, hlen with
      | [v0, v1, v2, v3, v4, v5], _ => exact ⟨v0, v1, v2, v3, v4, v5, rfl⟩
    obtain ⟨y0, h0, _⟩ := hp 0 f0 rfl;obtain ⟨y1, h1, _⟩ := hp 1 f1 rfl;obtain ⟨y2, h2, _⟩ := hp 2 f2 rfl;obtain ⟨y3, h3, _⟩ := hp 3 f3 rfl;obtain ⟨y4, h4, _⟩ := hp 4 f4 rfl;obtain ⟨y5, h5, _⟩ := hp 5 f5 rfl;rw [o0, c0] at h0; rw [o1, c1] at h1; rw [o2, c2] at h2; rw [o3, c3] at h3; rw [o4, c4] at h4; rw [o5, c5] at h5;obtain ⟨z0, e0⟩ := open_oneS t0 h0;obtain ⟨z1, e1⟩ := open_one t1 h1;obtain ⟨z2, e2⟩ := open_one t2 h2;obtain ⟨z3, e3⟩ := open_one t3 h3;obtain ⟨z4, e4⟩ := open_oneB t4 h4;obtain ⟨z5, e5⟩ := open_one t5 h5;simp at e0 e1 e2 e3 e4 e5;subst e0; subst e1; subst e2; subst e3; subst e4; subst e5
    exact ⟨⟨z0, z1, z2, z3, z4, z5⟩, hcs⟩) h hw
/-- A struct of three slices. -/
theorem open_three {t : TypeId} {f0 f1 f2 : Field} {fuel : Nat} {cs : List Value} {x : DataW H × List MemPlace} (ht : P.underlying t = some (.struct #[f0, f1, f2]))
    (o0 : f0.offset = 0) (o1 : f1.offset = 1) (o2 : f2.offset = 2) (c0 : P.cellsOf f0.type = 1) (c1 : P.cellsOf f1.type = 1) (c2 : P.cellsOf f2.type = 1) (ct : P.cellsOf t = 3)
    (h : DataW.trod enc P w 0 (fun _ => true) held fuel t cs = some x) (hw : Lt P t x.1) : ∃ (n : Nat) (v0 v1 v2 : Value) (y0 y1 y2 : DataW H × List MemPlace), cs = [v0, v1, v2] ∧
      (DataW.trod enc P w 0 (fun _ => true) held n f0.type [v0] = some y0 ∧ Lt P f0.type y0.1) ∧ (DataW.trod enc P w 0 (fun _ => true) held n f1.type [v1] = some y1 ∧ Lt P f1.type y1.1) ∧ (DataW.trod enc P w 0 (fun _ => true) held n f2.type [v2] = some y2 ∧ Lt P f2.type y2.1) := by
  obtain ⟨n, hn, hlen, hp⟩ := open_part ht h hw;rw [ct] at hlen
  obtain ⟨v0, v1, v2, rfl⟩ : ∃ v0 v1 v2, cs = [v0, v1, v2] := by
    match cs, hlen with
    | [v0, v1, v2], _ => exact ⟨v0, v1, v2, rfl⟩
  obtain ⟨y0, h0, l0⟩ := hp 0 f0 rfl;obtain ⟨y1, h1, l1⟩ := hp 1 f1 rfl;obtain ⟨y2, h2, l2⟩ := hp 2 f2 rfl;rw [o0, c0] at h0; rw [o1, c1] at h1; rw [o2, c2] at h2;exact ⟨n, v0, v1, v2, y0, y1, y2, rfl, ⟨h0, l0⟩, ⟨h1, l1⟩, ⟨h2, l2⟩⟩

/-- A value of one cell, off its cells; a struct's value, off its cells. -/
theorem val_one {r : Reach} {b0 : Nat} {t e : TypeId} {v u : Value} (ht : P.underlying t = some (.slice e)) (hv : Value.okWide P w r b0 t v) (hc : v.cells.toList = [u]) : v = u := by
  unfold Value.okWide at hv;rw [ht] at hv;simp only at hv;unfold Cell.okWide at hv;rw [ht] at hv
  cases v <;> simp_all [Value.cells, Cell.ok]
theorem val_struct {r : Reach} {b0 : Nat} {t : TypeId} {fs : Array Field} {v : Value} {us : List Value} (ht : P.underlying t = some (.struct fs)) (hv : Value.okWide P w r b0 t v) (hc : v.cells.toList = us) : v = .agg us.toArray := by
  unfold Value.okWide at hv;rw [ht] at hv;obtain ⟨cs, rfl, _⟩ := hv;subst hc;simp [Value.cells]
end

/-! ## What the call leaves -/
section
variable {H : Type} {enc : TypeId × Value → H} {P : Program}
/-- Readings of arguments, behind a call that wrote to new memory alone. -/
theorem trodAll_stays (hl : laidOutB P = true) {W W' : World} (hb : Below W.heap.size W W') {sp : Nat → Bool} : ∀ {ts : List TypeId} {vs : List Value} {ds : List (DataW H)} {ps : List MemPlace},
    (∀ t ∈ ts, P.readableRec t = true ∧ t < P.types.size) → DataW.TrodAll enc P W 0 (fun _ => true) true ts vs ds ps → (∀ p ∈ ps, p.block < W.heap.size) → (∀ p ∈ ps, sp p.block = true) → DataW.TrodAll enc P W' 0 sp true ts vs ds ps
  | [], [], [], _, _, h, _, _ => h
  | [], _ :: _, _, _, _, h, _, _ => h.elim
  | [], [], _ :: _, _, _, h, _, _ => h.elim
  | _ :: _, [], _, _, _, h, _, _ => h.elim
  | _ :: _, _ :: _, [], _, _, h, _, _ => h.elim
  | t :: ts, v :: vs, d :: ds, _, hr, ⟨p, q, h1, h2, e⟩, hlt, hs => ⟨p, q,
      WideElems.Trod_stays hl (hr t (List.mem_cons_self ..)).1 (hr t (List.mem_cons_self ..)).2 h1 (fun x hx => hb.same (hlt x (by rw [e]; exact List.mem_append_left _ hx))) (fun x hx => hs x (by rw [e]; exact List.mem_append_left _ hx)),
      trodAll_stays hl hb (fun t ht => hr t (List.mem_cons_of_mem _ ht)) h2 (fun x hx => hlt x (by rw [e]; exact List.mem_append_right _ hx)) (fun x hx => hs x (by rw [e]; exact List.mem_append_right _ hx)), e⟩

/-- THE LAW's END: it hands back one truth value, and what was there is as it was. -/
theorem post_kept {f : Func} {s : ChangeSpec} {apart fresh handsOn again : Bool} {W W' : World} {args : Array Value} {ds : List (DataW H)} {before : List MemPlace} {tb : TypeId} {r : Bool}
    (hl : laidOutB P = true) (hts : ∀ t ∈ f.params.toList, P.readableRec t = true ∧ t < P.types.size) (hvs : s.vars = []) (hrt : f.resultTypes = #[tb]) (htb : P.underlying tb = some .bool)
    (hfn : s.fn H (ds ++ []) = { results := [.lit (.bool r)], args := ds })
    (hW : DataW.Whole enc P f.params.toList s.vars apart W args.toList ds [] before) (hb : Below W.heap.size W W') :
    s.post enc P f apart fresh handsOn again W args (.bool r) W' := by
  have hlt : ∀ p ∈ before, p.block < W.heap.size := fun p hp => hW.lt p hp;obtain ⟨pa, pv, hA, hV, rfl, hfz, hnd⟩ := id hW;have hpv : pv = [] := (by rw [hvs] at hV; exact hV);subst hpv;rw [List.append_nil] at hW hlt hfz hnd
  have hres : ∀ (b : Nat) (sp : Nat → Bool) (hd : Bool), DataW.TrodAll enc P W' b sp hd f.resultTypes.toList ((Value.bool r).resultList f.resultTypes.size) (s.fn H (ds ++ [])).results [] := by
    intro b sp hd;rw [hfn, hrt];exact trodAll_mk1 (shut_bool htb r)
  have hargs : ∀ sp : Nat → Bool, (∀ p ∈ pa, sp p.block = true) → DataW.TrodAll enc P W' 0 sp true f.params.toList args.toList (s.fn H (ds ++ [])).args pa := by
    intro sp hs;rw [hfn];exact trodAll_stays hl hb hts hA hlt hs
  have hvars : ∀ sp : Nat → Bool, DataW.TrodVars enc P W' sp s.vars (s.fn H (ds ++ [])).vars [] := by
    intro sp;rw [hfn, hvs];rfl
  have hold : ∀ p ∈ pa, (fun b => decide (b < W.heap.size)) p.block = true := fun p hp => (by simpa using hlt p hp);refine ⟨ds, [], pa, [], pa, [], hW, hres _ _ _, hargs _ hold, hvars _, ?_, fun _ => ?_⟩
  · exact World.keptBut_mono (fun p hp => (hp : False).elim) (hb.frame (fun _ => False))
  · refine ⟨ok_one hrt rfl (okWide_bool_mk htb r), _, _, ([] ++ pa) ++ [], ⟨[] ++ pa, [], trodAll_append (hargs _ (fun _ _ => rfl)) (hres _ _ _), hvars _, rfl, ?_, ?_⟩, ?_⟩
    · intro b off hp;rw [hb.frozen (hlt _ (by simpa using hp))];exact hfz b off (by simpa using hp)
    · intro ha;have := hnd ha
      simpa using this
    · intro p hp _
      simpa using hp
end
end Go.V
