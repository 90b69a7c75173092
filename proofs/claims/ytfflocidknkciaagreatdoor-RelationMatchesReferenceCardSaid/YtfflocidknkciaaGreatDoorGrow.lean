/- Lists of lists, rows that grow by lists, rows made with room. Holds for every program. -/
import Derived.Test.YtfflocidknkciaaGreatDoorTree
import Derived.Lib.AppendZerosOnto
set_option linter.all false
namespace Go.V
open Go
section
variable {P : Program} {n : Nat} {e : Env} {w : World} {ty : TypeId} {x y : Operand} {r : Option Nat} {ds : List Deferred} {K : Env → World → Prop} {d : Nat} {pos : String} {af : Array Edge} {g : Option (Nat × Bool)}
/-- 'append(nil, make([]T, m)...)' -/
theorem O_grow0 {t tn el : TypeId} {i : TypeInfo} {z : Value} (m : Nat) (ht : P.underlying t = some (.slice el)) (htn : P.underlying tn = some (.int .i64)) (hi : P.info? el = some i) (hz : i.zero = some z) (hsize : i.size = 1) (hby : i.bytes = 8) (hzs : z.cells.size = 1)
    (hx : ev n e x = .slice none 0 0) (hy : ev n e y = .int .i64 (m : Int)) (h0 : 0 < m) (hm : m ≤ 1000000)
    (hk : ∀ w' b cap cs, w.heap.size ≤ b → Blk w' b el cs → cs.length = cap → m ≤ cap → cap ≤ maxLen → Ext w w' → K (upd e d (.slice (some ⟨b, 0, none⟩) m cap)) w') :
    OpW P r n ⟨some d, .call { callee := .builtin .append, args := #[x, y], argTypes := #[t, tn] }, ty, pos, af, g⟩ K ds e w := by
  have hr := Lib.run_append_grow_zeros (P := P) w t tn ty el i z .i64 .i64 ht htn hi hz none 0 0 [] (by simp [Builtin.firstCells, loadCells, loadCellsFrom]) m h0 (by omega) (by omega) (by omega) (by rw [hby]; omega) (by rw [nextslicecap_zero (by omega), hby]; omega);rw [Nat.zero_add] at hr;have hge := grownCap_ge w m 0 el;have hcm : grownCap w m 0 el ≤ maxLen := grownCap_le_maxLen w _ 0 el (by simp only [maxLen]; omega)
  generalize grownCap w m 0 el = cap at hr hge hcm
  refine O_v (v := .slice (some ⟨w.heap.size, 0, none⟩) m cap) (w' := w.drew.alloc (.cells (Builtin.zeroCells z.cells m ++ Builtin.zeroCells z.cells (cap - m)) el)) ⟨by simp, ?_⟩ (hk _ _ _ (Builtin.zeroCells z.cells m ++ Builtin.zeroCells z.cells (cap - m)).toList (Nat.le_refl _) ?_ ?_ hge hcm ((ext_drew w).alloc _))
  · simp only [execOp, mkOp, hx, hy, resolve, invoke, builtin, Sem.run_bind, Result.andThen, List.map_toArray, List.map_cons, List.map_nil];simp only [List.nil_append, Array.empty_append] at hr;simp [hr, Sem.run_bind, Result.andThen]
  · have := heap_alloc_new w.drew (.cells (Builtin.zeroCells z.cells m ++ Builtin.zeroCells z.cells (cap - m)) el);unfold Blk;rw [Array.toArray_toList];exact this
  · simp [Builtin.zeroCells, hzs]; omega
/-- 'append(v, s...)': v is the call's own, s stands for a list of integers. -/
theorem O_appendI {t el : TypeId} {i : TypeInfo} {z : Value} (base : Nat) {v : Value} {nn : Nat} {xs : List Value} {a : Option Addr} {c : Nat} {l : List Int} (hown : w.ownsRow base el 1 v nn xs)
    (ht : P.underlying t = some (.slice el)) (hi : P.info? el = some i) (hz : i.zero = some z) (hsize : i.size = 1) (hby : i.bytes = 8) (hzs : z.cells.size = 1)
    (hx : ev n e x = v) (hy : ev n e y = .slice a l.length c) (hl : SlI w a l) (hm : nn + l.length ≤ 1000000) (hbase : base ≤ w.heap.size)
    (hk : ∀ v' w', w'.ownsRow base el 1 v' (nn + l.length) (xs ++ iv l) → w.grownBy w' v.ownBlock → K (upd e d v') w') :
    OpW P r n ⟨some d, .call { callee := .builtin .append, args := #[x, y], argTypes := #[t, t] }, ty, pos, af, g⟩ K ds e w := by
  by_cases h0 : l.length = 0
  · have : l = [] := List.eq_nil_of_length_eq_zero h0;subst this;have hsz : ∀ w, (sizeOf el).run P w = .ok 1 w := fun w => (by simp [sizeOf, typeInfo, hi, hsize]);have hk' := hk v w (by simpa [iv] using hown) (ext_grown Ext.rfl _);rcases hown.2 with ⟨rfl, _⟩ | ⟨gg, cap, cur, rfl, _, _, hc, _⟩
    · exact O_v (X_append0 1 ht hsz (Nat.le_refl _) hx hy) hk'
    · exact O_v (X_append0 1 ht hsz hc hx hy) hk'
  · have ha := hl.ad 0 (by omega);rw [ha] at hy
    have hnews : Cells w (bk a) (of' a) (iv l) := by
      intro j u hj;simp only [iv, List.getElem?_map, Option.map_eq_some_iff] at hj;obtain ⟨q, hq, rfl⟩ := hj;have := hl.el j q hq
      simpa [EI, Cell] using this
    exact O_append base hown ht hi hz hsize hby hzs (by omega) hx hy hnews (by simp [iv_len]) (by simp [iv, Value.oneCell']) (by omega) (by omega) hbase hk
end
theorem own_room {w : World} {base b cap : Nat} {T : TypeId} {cs : List Value} (h : Blk w b T cs) (hb : base ≤ b) (h1 : cs.length = cap) (h2 : cap ≤ maxLen) : w.ownsRow base T 1 (.slice (some ⟨b, 0, none⟩) 0 cap) 0 [] :=
  ⟨by simp, .inr ⟨b, cap, cs.toArray, rfl, hb, h, by omega, h2, by simp [h1], by simp⟩⟩
theorem iv_append (a b : List Int) : iv (a ++ b) = iv a ++ iv b := by simp [iv]
/-! ## Lists of lists -/
def gl (ls : List (List Int)) (j : Nat) : List Int := ls.getD j []
def LL (w : World) (b o : Nat) (ls : List (List Int)) : Prop := ∀ i, i < ls.length → ∃ a c, Cell w b (o + i * 1) (.slice a (gl ls i).length c) ∧ SlI w a (gl ls i)
theorem flat_succ {ls : List (List Int)} {k : Nat} (h : k < ls.length) : (ls.take (k + 1)).flatten = (ls.take k).flatten ++ gl ls k := by
  rw [List.take_succ_eq_append_getElem h, List.flatten_append]; simp [gl, h]
theorem flat_le (ls : List (List Int)) (k : Nat) : (ls.take k).flatten.length ≤ ls.flatten.length := by
  have h := congrArg List.flatten (List.take_append_drop k ls);rw [List.flatten_append] at h;rw [← h]; simp
theorem Blk.ll2 {w : World} {b T : Nat} {a1 a2 : Option Addr} {c1 c2 : Nat} {l1 l2 : List Int} (h : Blk w b T [.slice a1 l1.length c1, .slice a2 l2.length c2]) (h1 : SlI w a1 l1) (h2 : SlI w a2 l2) : LL w b 0 [l1, l2] := by
  intro i hi;have : i = 0 ∨ i = 1 := (by simp only [List.length_cons, List.length_nil] at hi; omega);rcases this with rfl | rfl
  · exact ⟨a1, c1, h.cell rfl, h1⟩
  · exact ⟨a2, c2, h.cell rfl, h2⟩
end Go.V
