/- More operations (made slices, copies by append), own lists of cells, and how sets and relations stand for plain data. Holds for every program. -/
import Derived.Test.YtfflocidknkciaaGreatDoorMath
set_option linter.all false
namespace Go.V
open Go
attribute [local semireducible] W WL OpW CV WS OpR

/-! ## Cells of a kind -/
def bv (l : List Bool) : List Value := l.map Value.bool
def iv (l : List Int) : List Value := l.map (Value.int .i64)
def uv (l : List Nat) : List Value := l.map fun (n : Nat) => Value.int .u64 (n : Int)
theorem bv_len (l : List Bool) : (bv l).length = l.length := by simp [bv]
theorem iv_len (l : List Int) : (iv l).length = l.length := by simp [iv]
theorem uv_len (l : List Nat) : (uv l).length = l.length := by simp [uv]
theorem bv_set (l : List Bool) (i : Nat) (b : Bool) : (bv l).set i (.bool b) = bv (l.set i b) := by simp [bv, List.map_set]
theorem iv_set (l : List Int) (i : Nat) (b : Int) : (iv l).set i (.int .i64 b) = iv (l.set i b) := by simp [iv, List.map_set]
theorem uv_set (l : List Nat) (i : Nat) (b : Nat) : (uv l).set i (.int .u64 (b : Int)) = uv (l.set i b) := by simp [uv, List.map_set]
theorem bv_rep (n : Nat) (b : Bool) : List.replicate n (Value.bool b) = bv (List.replicate n b) := by simp [bv]
theorem iv_rep (n : Nat) (b : Int) : List.replicate n (Value.int .i64 b) = iv (List.replicate n b) := by simp [iv]
theorem uv_rep (n : Nat) (b : Nat) : List.replicate n (Value.int .u64 (b : Int)) = uv (List.replicate n b) := by simp [uv]
def gn (l : List Nat) (j : Nat) : Nat := l.getD j 0
section
variable {w w' : World} {b T : Nat}
theorem Blk.as {cs cs' : List Value} (h : Blk w b T cs) (e : cs = cs') : Blk w b T cs' := e ▸ h
theorem Blk.getB {l : List Bool} {o : Nat} (h : Blk w b T (bv l)) (j : Nat) (ho : o = j) (hj : j < l.length) : Cell w b o (.bool (gb l j)) := by
  subst ho; exact h.cell (by simp [bv, gb, hj])
theorem Blk.getI {l : List Int} {o : Nat} (h : Blk w b T (iv l)) (j : Nat) (ho : o = j) (hj : j < l.length) : Cell w b o (.int .i64 (gi l j)) := by
  subst ho; exact h.cell (by simp [iv, gi, hj])
theorem Blk.getU {l : List Nat} {o : Nat} (h : Blk w b T (uv l)) (j : Nat) (ho : o = j) (hj : j < l.length) : Cell w b o (.int .u64 (gn l j : Int)) := by
  subst ho; exact h.cell (by simp [uv, gn, hj])
theorem Blk.slI {l : List Int} (h : Blk w b T (iv l)) (hl : l.length ≤ 140737488355328) : SlI w (some ⟨b, 0, none⟩) l :=
  ⟨fun i hi => rfl, fun i x hx => h.cell (by simp [bk, of', iv, hx]), hl⟩
theorem Blk.slB {l : List Bool} (h : Blk w b T (bv l)) (hl : l.length ≤ 140737488355328) : SlB w (some ⟨b, 0, none⟩) l :=
  ⟨fun i hi => rfl, fun i x hx => h.cell (by simp [bk, of', bv, hx]), hl⟩
theorem own_empty {base : Nat} (size : Nat) (h : Blk w b T []) (hb : base ≤ b) : w.ownsRow base T size (.slice (some ⟨b, 0, none⟩) 0 0) 0 [] :=
  ⟨by simp, .inr ⟨b, 0, #[], rfl, hb, h, Nat.le_refl _, by simp [maxLen], by simp, by simp⟩⟩
theorem New.nil {base size : Nat} {a : Option Addr} {c : Nat} : New T size base w (.slice a 0 c) 0 [] := .inl ⟨rfl, rfl, a, c, rfl⟩
theorem NewI.slI {base : Nat} {v : Value} {l : List Int} (h : NewI base w v l) (hl : l.length ≤ 140737488355328) : ∃ a c, v = .slice a l.length c ∧ SlI w a l := New.sli hl h
end

theorem ExtB.grownNew {bs : List Nat} {a w w' : World} {b : Nat} (h : ExtB bs a w) (hg : w.grownBy w' (some b)) (hb : a.heap.size ≤ b) : ExtB bs a w' :=
  ⟨hg.os.trans h.os, hg.tape.trans h.tape, hg.output.trans h.output, Nat.le_trans h.size hg.size, fun k hk hn => (hg.block k (Nat.lt_of_lt_of_le hk h.size) fun heq => by injection heq with heq; omega).trans (h.block k hk hn)⟩
/-- What is new and not empty, laid open and closed again. -/
theorem New.open {T base : Nat} {w : World} {v : Value} {n : Nat} {xs : List Value} (h : New T 1 base w v n xs) (h0 : 0 < n) :
    ∃ g cap cs, v = .slice (some ⟨g, 0, none⟩) n cap ∧ base ≤ g ∧ Blk w g T cs ∧ n ≤ cap ∧ cap ≤ maxLen ∧ cs.length = cap ∧ cs.take n = xs := by
  rcases h with ⟨h1, _⟩ | ⟨_, _, h2⟩
  · omega
  · rcases h2 with ⟨_, h2⟩ | ⟨g, cap, cur, rfl, h3, h4, h5, h6, h7, h8⟩
    · omega
    · exact ⟨g, cap, cur.toList, rfl, h3, h4, h5, h6, by simpa using h7, by simpa using h8⟩
theorem New.close {T base : Nat} {w : World} {n g cap : Nat} {xs cs : List Value} (h0 : 0 < n) (h1 : base ≤ g) (h2 : Blk w g T cs) (h3 : n ≤ cap) (h4 : cap ≤ maxLen) (h5 : cs.length = cap) (h6 : cs.take n = xs) :
    New T 1 base w (.slice (some ⟨g, 0, none⟩) n cap) n xs :=
  .inr ⟨h0, by rw [← h6]; simp; omega, .inr ⟨g, cap, cs.toArray, rfl, h1, h2, h3, h4, by simpa using h5, by simpa using h6⟩⟩
theorem New.isSlice {T base size : Nat} {w : World} {v : Value} {n : Nat} {xs : List Value} (h : New T size base w v n xs) : ∃ a c, v = .slice a n c := by
  rcases h with ⟨rfl, _, a, c, rfl⟩ | ⟨_, _, ⟨rfl, rfl⟩ | ⟨g, cap, cur, rfl, _⟩⟩
  · exact ⟨a, c, rfl⟩
  · exact ⟨none, 0, rfl⟩
  · exact ⟨_, _, rfl⟩
def slA (v : Value) : Option Addr := match v with | .slice a _ _ => a | _ => none
def slC (v : Value) : Nat := match v with | .slice _ _ c => c | _ => 0
theorem New.lenv {T base size : Nat} {w : World} {v : Value} {n : Nat} {xs : List Value} (h : New T size base w v n xs) : v = .slice (slA v) n (slC v) := by
  obtain ⟨a, c, rfl⟩ := h.isSlice; rfl
theorem Blk.neT {w : World} {b b' T T' : Nat} {cs cs' : List Value} (h : Blk w b T cs) (h' : Blk w b' T' cs') (hT : T ≠ T') : b ≠ b' := by
  intro heq; subst heq; unfold Blk at *; rw [h] at h'; injection h' with h'; injection h' with _ h' _; exact hT h'
/-! ## Made slices; copies -/
section
variable {P : Program} {n : Nat} {e : Env} {w : World} {ty : TypeId} {x y : Operand}
  {r : Option Nat} {N R : K3} {X : List (Nat × K3)} {ds : List Deferred} {ops : Array Oper} {rest : List Oper} {K : Env → World → Prop}
  {d : Nat} {op : Op} {pos : String} {af : Array Edge} {g : Option (Nat × Bool)}
theorem X_makeN (m : Nat) {t el : TypeId} {i : TypeInfo} {z : Value} {by' : Nat} {k1 k2 : IntKind} {l c : Int} (ht : P.underlying t = some (.slice el)) (hi : P.info? el = some i) (hz : i.zero = some z) (hsz : i.size = 1)
    (hby : i.bytes = by') (hzc : z.cells = #[z]) (hx : ev n e x = .int k1 l) (hy : ev n e y = .int k2 c) (hl : l = (m : Int)) (hc : c = (m : Int)) (h2 : by' * m ≤ 281474976710656) (hm : m ≤ 281474976710656 := by omega) :
    Ex P n (.makeSlice t x y) ty e w (.slice (some ⟨w.heap.size, 0, none⟩) m m) (w.alloc (.cells (List.replicate m z).toArray el)) := by
  subst hl; subst hc;have := X_makeSlice (P := P) (n := n) (e := e) (w := w) (ty := ty) ht hi hz hsz hby hx hy (by omega) (by omega) (by rw [← Int.natCast_mul]; omega) (by omega) (List.replicate m z) (by rw [hzc, made_one]; simp)
  simpa using this
theorem O_makeN (m : Nat) {t el : TypeId} {i : TypeInfo} {z : Value} {by' : Nat} {k1 k2 : IntKind} {l c : Int} (ht : P.underlying t = some (.slice el)) (hi : P.info? el = some i) (hz : i.zero = some z) (hsz : i.size = 1)
    (hby : i.bytes = by') (hzc : z.cells = #[z]) (hx : ev n e x = .int k1 l) (hy : ev n e y = .int k2 c) (hl : l = (m : Int)) (hc : c = (m : Int)) (h2 : by' * m ≤ 281474976710656) (hm : m ≤ 281474976710656 := by omega)
    (hk : ∀ w' b, b = w.heap.size → Blk w' b el (List.replicate m z) → Ext w w' → K (upd e d (.slice (some ⟨b, 0, none⟩) m m)) w') : OpW P r n ⟨some d, .makeSlice t x y, ty, pos, af, g⟩ K ds e w :=
  O_v (X_makeN m ht hi hz hsz hby hzc hx hy hl hc h2 hm) (hk _ _ rfl (Blk.new w el _) (ext_alloc w _))
theorem tmod_nn {a b : Int} (ha : 0 ≤ a) : a.tmod b = a % b := Int.tmod_eq_emod_of_nonneg ha
theorem tdiv_nn {a b : Int} (ha : 0 ≤ a) : a.tdiv b = a / b := Int.tdiv_eq_ediv_of_nonneg ha
theorem X_remN {t yt : TypeId} {a b : Int} (hx : ev n e x = .int .i64 a) (hy : ev n e y = .int .i64 b) (ha : 0 ≤ a) (hb : 0 < b) (ha2 : a ≤ 9223372036854775807) : Ex P n (.binOp .rem t x y yt) ty e w (.int .i64 (a % b)) w := by
  have := X_rem (P := P) (w := w) (ty := ty) (t := t) (yt := yt) hx hy (by omega);have h1 := Int.emod_nonneg a (show b ≠ 0 by omega);have h2 : a % b ≤ a := (by have := Int.emod_add_mul_ediv a b; have h3 := Int.mul_nonneg (show 0 ≤ b by omega) (Int.ediv_nonneg ha (show 0 ≤ b by omega)); omega);rw [tmod_nn ha] at this; exact this
theorem X_quoN {t yt : TypeId} {a b : Int} (hx : ev n e x = .int .i64 a) (hy : ev n e y = .int .i64 b) (ha : 0 ≤ a) (hb : 0 < b) (ha2 : a ≤ 9223372036854775807) : Ex P n (.binOp .quo t x y yt) ty e w (.int .i64 (a / b)) w := by
  have := X_quo (P := P) (w := w) (ty := ty) (t := t) (yt := yt) hx hy (by omega);have h1 := Int.ediv_nonneg ha (show 0 ≤ b by omega);have h2 := Int.ediv_le_self b ha;have h3 : IntKind.i64.wrap (a.tdiv b) = a / b := (by rw [tdiv_nn ha]; exact wrap_i64_of (by omega));rw [h3] at this; exact this
/-- 'append([]int{}, l...)'. -/
theorem X_cloneI {t el : TypeId} {i : TypeInfo} {z : Value} {b : Nat} {a : Option Addr} {c : Nat} {l : List Int} (base : Nat) (hx : ev n e x = .slice (some ⟨b, 0, none⟩) 0 0) (hb : Blk w b el []) (ht : P.underlying t = some (.slice el)) (hi : P.info? el = some i)
    (hz : i.zero = some z) (hsize : i.size = 1) (hby : i.bytes = 8) (hzs : z.cells.size = 1) (hy : ev n e y = .slice a l.length c) (hl : SlI w a l) (hbase : base ≤ w.heap.size) (hll : l.length ≤ 1000000 := by omega) :
    ∃ v' w', Ex P n (.call { callee := .builtin .append, args := #[x, y], argTypes := #[t, t] }) ty e w v' w' ∧ New el 1 base w' v' l.length (iv l) ∧ Ext w w' := by
  by_cases h0 : l.length = 0
  · have : l = [] := List.eq_nil_of_length_eq_zero h0;subst this;exact ⟨_, _, X_append0 1 ht (fun w => by simp [sizeOf, typeInfo, hi, hsize]) (Nat.le_refl _) hx hy, New.nil, Ext.rfl⟩
  · have ha := hl.ad 0 (by omega)
    generalize bk a = bb at ha; generalize of' a = oo at ha
    have hcells : ∀ j v, (iv l)[j]? = some v → w.cell? ((⟨bk a, of' a, none⟩ : Addr).add j) = some v := by
      intro j v hv;rw [addr_add];simp only [iv, List.getElem?_map, Option.map_eq_some_iff] at hv;obtain ⟨q, hq, rfl⟩ := hv;have := hl.el j q hq
      simpa [EI, Cell] using this
    rw [ha] at hcells;simp only [bk, of'] at hcells
    have h1 : ∀ u ∈ iv l, u.oneCell' = true := by
      intro u hu; simp only [iv, List.mem_map] at hu; obtain ⟨q, _, rfl⟩ := hu; rfl
    have hr := run_append_grow (P := P) w t ty el i z ht hi hz ⟨b, 0, none⟩ 0 0 [] (by simp) (by simp) ⟨bb, oo, none⟩ l.length c (iv l) (by simp [iv_len, hsize]) hcells (by omega) (by omega) (growslice_fits (by omega) (by rw [hby]; omega));have hge := grownCap_ge w (0 + l.length) 0 el;have hcm : grownCap w (0 + l.length) 0 el ≤ maxLen := grownCap_le_maxLen w _ 0 el (by simp only [maxLen]; omega);refine ⟨.slice (some ⟨w.heap.size, 0, none⟩) (0 + l.length) (grownCap w (0 + l.length) 0 el), w.drew.alloc (.cells ((#[] : Array Value) ++ (iv l).toArray ++ Builtin.zeroCells z.cells (grownCap w (0 + l.length) 0 el - (0 + l.length))) el), ⟨by simp, ?_⟩, .inr ⟨by omega, ⟨by simp [iv_len], .inr ⟨w.heap.size, _, _, by rw [Nat.zero_add], hbase, heap_alloc_new w.drew _, by omega, hcm, ?_, ?_⟩⟩⟩, (Ext.rfl.drew).alloc _⟩
    · subst ha;simp only [execOp, mkOp, hx, hy, resolve, invoke, builtin, Sem.run_bind, Result.andThen, List.map_toArray, List.map_cons, List.map_nil, hr, Sem.run_pure]
    · generalize grownCap w (0 + l.length) 0 el = G at hge hcm ⊢
      simp only [Array.size_append, List.size_toArray, size_zeroCells, hzs, iv_len];simp; omega
    · simp only [Array.toList_append, List.append_assoc, List.nil_append, Nat.mul_one];exact List.take_left' (by simp [iv_len])
theorem O_cloneI {t el : TypeId} {i : TypeInfo} {z : Value} {b : Nat} {a : Option Addr} {c : Nat} {l : List Int} (base : Nat) (hx : ev n e x = .slice (some ⟨b, 0, none⟩) 0 0) (hb : Blk w b el []) (ht : P.underlying t = some (.slice el)) (hi : P.info? el = some i)
    (hz : i.zero = some z) (hsize : i.size = 1) (hby : i.bytes = 8) (hzs : z.cells.size = 1) (hy : ev n e y = .slice a l.length c) (hl : SlI w a l) (hbase : base ≤ w.heap.size) (hll : l.length ≤ 1000000 := by omega)
    (hk : ∀ v' w', New el 1 base w' v' l.length (iv l) → Ext w w' → K (upd e d v') w') : OpW P r n ⟨some d, .call { callee := .builtin .append, args := #[x, y], argTypes := #[t, t] }, ty, pos, af, g⟩ K ds e w := by
  obtain ⟨v', w', h1, h2, h3⟩ := X_cloneI (ty := ty) base hx hb ht hi hz hsize hby hzs hy hl hbase hll;exact O_v h1 (hk _ _ h2 h3)
/-- The empty slice that a drawn region makes. -/
def isNil (B T : Nat) (v : Value) (w : World) : Prop := ∃ b, v = .slice (some ⟨b, 0, none⟩) 0 0 ∧ B ≤ b ∧ Blk w b T []
theorem isNil.ext {B T : Nat} {v : Value} {w w' : World} (h : isNil B T v w) (x : Ext w w') : isNil B T v w' := by obtain ⟨b, h1, h2, h3⟩ := h; exact ⟨b, h1, h2, h3.ext x⟩
def isMade (B T m : Nat) (cs : List Value) (v : Value) (w : World) : Prop := ∃ b, v = .slice (some ⟨b, 0, none⟩) m m ∧ B ≤ b ∧ Blk w b T cs
theorem isMade.ext {B T m : Nat} {cs : List Value} {v : Value} {w w' : World} (h : isMade B T m cs v w) (x : Ext w w') : isMade B T m cs v w' := by obtain ⟨b, h1, h2, h3⟩ := h; exact ⟨b, h1, h2, h3.ext x⟩
theorem R_alloc {dst : Option Nat} {B el : Nat} {z : Value} (hz : ∀ w, (zeroValue el).run P w = .ok z w) (cs : List Value) (hcs : z.cells.toList = cs) (hB : B ≤ w.heap.size) :
    OpR P r n ⟨dst, .alloc el, ty, pos, af, g⟩ e w (fun v w' => isNew B el cs v w' ∧ Ext w w') := R_x (X_alloc hz cs hcs) ⟨⟨_, rfl, hB, Blk.new w el cs⟩, ext_alloc w _⟩
theorem R_makeN {dst : Option Nat} {B : Nat} (m : Nat) {t el : TypeId} {i : TypeInfo} {z : Value} {by' : Nat} {k1 k2 : IntKind} {l c : Int} (ht : P.underlying t = some (.slice el)) (hi : P.info? el = some i) (hz : i.zero = some z) (hsz : i.size = 1)
    (hby : i.bytes = by') (hzc : z.cells = #[z]) (hx : ev n e x = .int k1 l) (hy : ev n e y = .int k2 c) (hl : l = (m : Int)) (hc : c = (m : Int)) (h2 : by' * m ≤ 281474976710656) (hB : B ≤ w.heap.size) (hm : m ≤ 281474976710656 := by omega) :
    OpR P r n ⟨dst, .makeSlice t x y, ty, pos, af, g⟩ e w (fun v w' => isMade B el m (List.replicate m z) v w' ∧ Ext w w') := R_x (X_makeN m ht hi hz hsz hby hzc hx hy hl hc h2 hm) ⟨⟨_, rfl, hB, Blk.new w el _⟩, ext_alloc w _⟩
theorem R_nil {dst : Option Nat} {B t el sz : Nat} {z : Value} (ht : P.underlying t = some (.slice el)) (hsz : ∀ w, (sizeOf el).run P w = .ok sz w) (hz : ∀ w, (zeroValue el).run P w = .ok z w) (hB : B ≤ w.heap.size) :
    OpR P r n ⟨dst, .buildSlice t 0 #[], ty, pos, af, g⟩ e w (fun v w' => isNil B el v w' ∧ Ext w w') :=
  R_x (X_buildSlice (l := []) ht hsz hz (by simp) [] (by simp [madeCells]) [] (by simp [partsOf, fillL])) ⟨⟨_, rfl, hB, Blk.new w el []⟩, ext_alloc w _⟩
theorem R_cloneI {dst : Option Nat} {B t el : TypeId} {i : TypeInfo} {z : Value} {v : Value} {a : Option Addr} {c : Nat} {l : List Int} (hx : ev n e x = v) (hb : isNil B el v w) (ht : P.underlying t = some (.slice el)) (hi : P.info? el = some i)
    (hz : i.zero = some z) (hsize : i.size = 1) (hby : i.bytes = 8) (hzs : z.cells.size = 1) (hy : ev n e y = .slice a l.length c) (hl : SlI w a l) (hB : B ≤ w.heap.size) (hll : l.length ≤ 1000000 := by omega) :
    OpR P r n ⟨dst, .call { callee := .builtin .append, args := #[x, y], argTypes := #[t, t] }, ty, pos, af, g⟩ e w (fun v' w' => New el 1 B w' v' l.length (iv l) ∧ Ext w w') := by
  obtain ⟨b, rfl, h1, h2⟩ := hb;obtain ⟨v', w', q1, q2, q3⟩ := X_cloneI (ty := ty) B hx h2 ht hi hz hsize hby hzs hy hl hB hll;exact R_x q1 ⟨q2, q3⟩
end

/-! ## Sets and relations of states -/
structure SetD where
  cells : List Int
  us : List Int
  ins : List Int
structure RelD where
  cells : List Int
  us : List Int
  ins : List (Int × Int)
def vS (s : SetD) (a1 a2 a3 : Option Addr) (c1 c2 c3 : Nat) : Value := .agg #[.slice a1 s.cells.length c1, .slice a2 s.us.length c2, .slice a3 s.ins.length c3]
def vR (s : RelD) (a1 a2 a3 : Option Addr) (c1 c2 c3 : Nat) : Value := .agg #[.slice a1 s.cells.length c1, .slice a2 s.us.length c2, .slice a3 s.ins.length c3]
structure SetOk (w : World) (s : SetD) (a1 a2 a3 : Option Addr) : Prop where
  c : SlI w a1 s.cells
  u : SlI w a2 s.us
  i : SlI w a3 s.ins
structure RelOk (w : World) (s : RelD) (a1 a2 a3 : Option Addr) : Prop where
  c : SlI w a1 s.cells
  u : SlI w a2 s.us
  i : SlP w a3 s.ins
theorem SetOk.ext {w w' : World} {s : SetD} {a1 a2 a3 : Option Addr} (h : SetOk w s a1 a2 a3) (x : Ext w w') : SetOk w' s a1 a2 a3 := ⟨h.c.ext x, h.u.ext x, h.i.ext x⟩
theorem RelOk.ext {w w' : World} {s : RelD} {a1 a2 a3 : Option Addr} (h : RelOk w s a1 a2 a3) (x : Ext w w') : RelOk w' s a1 a2 a3 := ⟨h.c.ext x, h.u.ext x, h.i.extP x⟩
/-- A value that stands for a set, for a relation. -/
def isSet (w : World) (v : Value) (s : SetD) : Prop := ∃ a1 a2 a3 c1 c2 c3, v = vS s a1 a2 a3 c1 c2 c3 ∧ SetOk w s a1 a2 a3
def isRel (w : World) (v : Value) (s : RelD) : Prop := ∃ a1 a2 a3 c1 c2 c3, v = vR s a1 a2 a3 c1 c2 c3 ∧ RelOk w s a1 a2 a3
theorem isSet.ext {w w' : World} {v : Value} {s : SetD} (h : isSet w v s) (x : Ext w w') : isSet w' v s := by obtain ⟨a1, a2, a3, c1, c2, c3, h1, h2⟩ := h; exact ⟨a1, a2, a3, c1, c2, c3, h1, h2.ext x⟩
theorem isRel.ext {w w' : World} {v : Value} {s : RelD} (h : isRel w v s) (x : Ext w w') : isRel w' v s := by obtain ⟨a1, a2, a3, c1, c2, c3, h1, h2⟩ := h; exact ⟨a1, a2, a3, c1, c2, c3, h1, h2.ext x⟩
end Go.V
