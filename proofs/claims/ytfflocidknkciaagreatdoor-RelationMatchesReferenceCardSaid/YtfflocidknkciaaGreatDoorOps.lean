/- What each operation yields, as facts on its run: values, addresses, loads and stores, new blocks, integer arithmetic in range. Holds for every program. -/
import Derived.Test.YtfflocidknkciaaGreatDoorBase
import Derived.Laws.AppendOwn
import Derived.Laws.MakeOwn
import Derived.Laws.Cells
import Derived.Laws.CopyRow
import Derived.Laws.NewBlocks
import Derived.Laws.Rows
import Derived.Laws.Sem
import Derived.Laws.World
import Derived.IntWalk
set_option linter.all false
namespace Go.V
open Go

/-! ## Worlds -/
/-- What was there is there as it was. -/
abbrev Ext (w w' : World) : Prop := RowKit.Below w.heap.size w w'
def Cell (w : World) (b o : Nat) (v : Value) : Prop := w.cell? ⟨b, o, none⟩ = some v
def Cells (w : World) (b o : Nat) (vs : List Value) : Prop := ∀ j v, vs[j]? = some v → w.cell? ⟨b, o + j, none⟩ = some v
/-- A block of the call's own, known whole. -/
def Blk (w : World) (b : Nat) (T : TypeId) (cs : List Value) : Prop := w.heap[b]? = some (.cells cs.toArray T (0, 0))

theorem Ext.rfl {w : World} : Ext w w := RowKit.Below.refl _ _
theorem Ext.trans {a b c : World} (h : Ext a b) (k : Ext b c) : Ext a c := RowKit.Below.trans h (k.mono h.size)
theorem Ext.drew {a w : World} (h : Ext a w) : Ext a w.drew := RowKit.Below.drew h
theorem Ext.alloc {a w : World} (h : Ext a w) (o : Obj) : Ext a (w.alloc o) := RowKit.Below.alloc h h.size o
theorem Ext.set {a w : World} (h : Ext a w) {b o : Nat} (hb : a.heap.size ≤ b) (v : Value) : Ext a (w.setCell ⟨b, o, none⟩ v) := RowKit.Below.setCell h (p := ⟨b, o, none⟩) hb v
theorem Ext.grown {a w w' : World} {row : Option Nat} (h : Ext a w) (hg : w.grownBy w' row) (hr : ∀ k, row = some k → a.heap.size ≤ k) : Ext a w' := RowKit.Below.grown h hg h.size hr
theorem Ext.heap {w w' : World} (h : Ext w w') {b : Nat} {o : Obj} (hb : w.heap[b]? = some o) : w'.heap[b]? = some o := by
  rw [h.block b (Array.getElem?_eq_some_iff.1 hb).1]; exact hb
theorem Blk.lt {w : World} {b : Nat} {T : TypeId} {cs : List Value} (h : Blk w b T cs) : b < w.heap.size := (Array.getElem?_eq_some_iff.1 h).1
theorem Blk.ext {w w' : World} {b : Nat} {T : TypeId} {cs : List Value} (h : Blk w b T cs) (x : Ext w w') : Blk w' b T cs := x.heap h
theorem Blk.cell {w : World} {b : Nat} {T : TypeId} {cs : List Value} (h : Blk w b T cs) {j : Nat} {v : Value} (hj : cs[j]? = some v) : Cell w b j v := by
  unfold Cell World.cell?; rw [show w.heap[b]? = _ from h]; simpa using hj
theorem Blk.cells {w : World} {b : Nat} {T : TypeId} {cs : List Value} (h : Blk w b T cs) (o : Nat) (vs : List Value) (hv : (cs.drop o).take vs.length = vs) : Cells w b o vs := by
  intro j v hj
  have : cs[o + j]? = some v := by
    rw [← hv] at hj;rw [List.getElem?_take] at hj;split at hj
    · simpa [List.getElem?_drop] using hj
    · simp at hj
  exact h.cell this
theorem Blk.free {w : World} {b : Nat} {T : TypeId} {cs : List Value} (h : Blk w b T cs) (j : Nat) : w.frozen? ⟨b, j, none⟩ = false := by
  unfold World.frozen?; rw [show w.heap[b]? = _ from h]; simp
theorem cell_lt {w : World} {b o : Nat} {v : Value} (h : w.cell? ⟨b, o, none⟩ = some v) : b < w.heap.size := World.block_lt_of_cell? w ⟨b, o, none⟩ h
theorem Cell.ext {w w' : World} {b o : Nat} {v : Value} (h : Cell w b o v) (x : Ext w w') : Cell w' b o v := by
  unfold Cell at *; rw [World.cell?_of_block (w := w) (x.block _ (cell_lt h))]; exact h
theorem Cells.ext {w w' : World} {b o : Nat} {vs : List Value} (h : Cells w b o vs) (x : Ext w w') : Cells w' b o vs := fun j v hj => Cell.ext (h j v hj) x
theorem Cells.cell {w : World} {b o : Nat} {vs : List Value} (h : Cells w b o vs) (j : Nat) {v : Value} (hj : vs[j]? = some v) : Cell w b (o + j) v := h j v hj
theorem Blk.new (w : World) (T : TypeId) (cs : List Value) : Blk (w.alloc (.cells cs.toArray T)) w.heap.size T cs := heap_alloc_new w _
theorem Blk.other {w : World} {b b' o : Nat} {T : TypeId} {cs : List Value} {v : Value} (h : Blk w b T cs) (hne : b ≠ b') : Blk (w.setCell ⟨b', o, none⟩ v) b T cs := by
  unfold Blk; rw [RowKit.Below.heap_setCell _ _ _ _ (by simpa using hne)]; exact h
theorem Blk.set {w : World} {b o : Nat} {T : TypeId} {cs : List Value} (h : Blk w b T cs) (v : Value) : Blk (w.setCell ⟨b, o, none⟩ v) b T (cs.set o v) := by
  unfold Blk at *;simp only [World.setCell, Array.getElem?_modify, h];simp
theorem Blk.drew {w : World} {b : Nat} {T : TypeId} {cs : List Value} (h : Blk w b T cs) : Blk w.drew b T cs := h
theorem addr_add (b o k : Nat) : (⟨b, o, none⟩ : Addr).add k = ⟨b, o + k, none⟩ := by unfold Addr.add; split <;> simp_all

/-! ## Runs -/
section
variable {P : Program} {n : Nat} {e : Env} {w : World} {ty : TypeId} {x y : Operand}

theorem run_sizeOf_of {t s : Nat} (h : ∀ w, (sizeOf t).run P w = .ok s w) (w : World) : (sizeOf t).run P w = .ok s w := h w

theorem X_move (v : Value) (hx : ev n e x = v) : Ex P n (.move x) ty e w v w := ⟨by simp, by simp [execOp, mkOp, hx]⟩
theorem X_assign (v : Value) (hx : ev n e x = v) : Ex P n (.assign x) ty e w v w := ⟨by simp, by simp [execOp, mkOp, hx]⟩
theorem X_pickT {c : Operand} {t : Bool} (v : Value) (hc : ev n e c = .bool t) (ht : t = true) (hx : ev n e x = v) : Ex P n (.pick c x y) ty e w v w := by
  subst ht; exact ⟨by simp, by simp [execOp, mkOp, hc, hx, asBool]⟩
theorem X_pickF {c : Operand} {t : Bool} (v : Value) (hc : ev n e c = .bool t) (ht : t = false) (hx : ev n e y = v) : Ex P n (.pick c x y) ty e w v w := by
  subst ht; exact ⟨by simp, by simp [execOp, mkOp, hc, hx, asBool]⟩
theorem X_pickB {c : Operand} {t a b : Bool} (hc : ev n e c = .bool t) (hx : ev n e x = .bool a) (hy : ev n e y = .bool b) : Ex P n (.pick c x y) ty e w (.bool (bif t then a else b)) w := by
  cases t
  · exact ⟨by simp, by simp [execOp, mkOp, hc, hy, asBool]⟩
  · exact ⟨by simp, by simp [execOp, mkOp, hc, hx, asBool]⟩
theorem X_not {t : TypeId} {b : Bool} (hx : ev n e x = .bool b) : Ex P n (.unOp .not t x) ty e w (.bool (!b)) w := ⟨by simp, by simp [execOp, mkOp, hx, Op.unary]⟩
theorem X_nilCheck {a : Addr} (hx : ev n e x = .pointer (some a)) : Ex P n (.nilCheck x) ty e w (.pointer (some a)) w := ⟨by simp, by simp [execOp, mkOp, hx]⟩
theorem X_extract {vs : Array Value} {i : Nat} {v : Value} (hx : ev n e x = .tuple vs) (hi : vs[i]? = some v) : Ex P n (.extract x i) ty e w v w := ⟨by simp, by simp [execOp, mkOp, hx, Instr.extract, hi]⟩
theorem X_makeFunc {f : Fn} {first cap : List Operand} {vs us : List Value} (h1 : argsOf n e first = vs) (h2 : argsOf n e cap = us) :
    Ex P n (.makeFunc f first.toArray cap.toArray) ty e w (.func f vs.toArray us.toArray) w := ⟨by simp, by simp [execOp, mkOp, Instr.makeFunc, ← h1, ← h2, argsOf]⟩

/-! ### Integers -/
theorem X_int {op : BinOp} {t yt : TypeId} {k : IntKind} {a b : Int} {v : Value} (hx : ev n e x = .int k a) (hy : ev n e y = .int k b)
    (h : (binOp op t (.int k a) (.int k b)).run P w = .ok v w) : Ex P n (.binOp op t x y yt) ty e w v w := by
  refine ⟨by simp, ?_⟩;have hg : (eqGuard op t x y (.int k a) (.int k b)).run P w = .ok () w := (by unfold eqGuard; split <;> simp);simp [execOp, mkOp, hx, hy, Sem.run_bind, Result.andThen, hg, h]
theorem X_add {t yt : TypeId} {k : IntKind} {a b : Int} (hx : ev n e x = .int k a) (hy : ev n e y = .int k b) : Ex P n (.binOp .add t x y yt) ty e w (.int k (k.wrap (a + b))) w :=
  X_int hx hy (by simp [binOp, Op.intArith])
theorem X_sub {t yt : TypeId} {k : IntKind} {a b : Int} (hx : ev n e x = .int k a) (hy : ev n e y = .int k b) : Ex P n (.binOp .sub t x y yt) ty e w (.int k (k.wrap (a - b))) w :=
  X_int hx hy (by simp [binOp, Op.intArith])
theorem X_mul {t yt : TypeId} {k : IntKind} {a b : Int} (hx : ev n e x = .int k a) (hy : ev n e y = .int k b) : Ex P n (.binOp .mul t x y yt) ty e w (.int k (k.wrap (a * b))) w :=
  X_int hx hy (by simp [binOp, Op.intArith])
theorem wrap_i64_of {z : Int} (h : -9223372036854775808 ≤ z ∧ z ≤ 9223372036854775807) : IntKind.i64.wrap z = z := IntWalk.i64_in z h
theorem X_addI {t yt : TypeId} {a b : Int} (hx : ev n e x = .int .i64 a) (hy : ev n e y = .int .i64 b) (h : -9223372036854775808 ≤ a + b ∧ a + b ≤ 9223372036854775807) :
    Ex P n (.binOp .add t x y yt) ty e w (.int .i64 (a + b)) w := by have := X_add (P := P) (w := w) (ty := ty) (t := t) (yt := yt) hx hy; rwa [wrap_i64_of h] at this
theorem X_subI {t yt : TypeId} {a b : Int} (hx : ev n e x = .int .i64 a) (hy : ev n e y = .int .i64 b) (h : -9223372036854775808 ≤ a - b ∧ a - b ≤ 9223372036854775807) :
    Ex P n (.binOp .sub t x y yt) ty e w (.int .i64 (a - b)) w := by have := X_sub (P := P) (w := w) (ty := ty) (t := t) (yt := yt) hx hy; rwa [wrap_i64_of h] at this
theorem X_mulI {t yt : TypeId} {a b : Int} (hx : ev n e x = .int .i64 a) (hy : ev n e y = .int .i64 b) (h : -9223372036854775808 ≤ a * b ∧ a * b ≤ 9223372036854775807) :
    Ex P n (.binOp .mul t x y yt) ty e w (.int .i64 (a * b)) w := by have := X_mul (P := P) (w := w) (ty := ty) (t := t) (yt := yt) hx hy; rwa [wrap_i64_of h] at this
theorem X_eq {t yt : TypeId} {k : IntKind} {a b : Int} (hx : ev n e x = .int k a) (hy : ev n e y = .int k b) : Ex P n (.binOp .eql t x y yt) ty e w (.bool (decide (a = b))) w :=
  X_int hx hy (by simp [binOp, Op.intCmp, Bool.beq_eq_decide_eq])
theorem X_ne {t yt : TypeId} {k : IntKind} {a b : Int} (hx : ev n e x = .int k a) (hy : ev n e y = .int k b) : Ex P n (.binOp .neq t x y yt) ty e w (.bool (decide (a ≠ b))) w :=
  X_int hx hy (by simp [binOp, Op.intCmp, bne, Bool.beq_eq_decide_eq])
theorem X_lt {t yt : TypeId} {k : IntKind} {a b : Int} (hx : ev n e x = .int k a) (hy : ev n e y = .int k b) : Ex P n (.binOp .lss t x y yt) ty e w (.bool (decide (a < b))) w :=
  X_int hx hy (by simp [binOp, Op.intCmp])
theorem X_le {t yt : TypeId} {k : IntKind} {a b : Int} (hx : ev n e x = .int k a) (hy : ev n e y = .int k b) : Ex P n (.binOp .leq t x y yt) ty e w (.bool (decide (a ≤ b))) w :=
  X_int hx hy (by simp [binOp, Op.intCmp])
theorem X_gt {t yt : TypeId} {k : IntKind} {a b : Int} (hx : ev n e x = .int k a) (hy : ev n e y = .int k b) : Ex P n (.binOp .gtr t x y yt) ty e w (.bool (decide (b < a))) w :=
  X_int hx hy (by simp [binOp, Op.intCmp])
theorem X_ge {t yt : TypeId} {k : IntKind} {a b : Int} (hx : ev n e x = .int k a) (hy : ev n e y = .int k b) : Ex P n (.binOp .geq t x y yt) ty e w (.bool (decide (b ≤ a))) w :=
  X_int hx hy (by simp [binOp, Op.intCmp])
/-- The value of a bit operation, of whatever kind. -/
def bitv (op : BinOp) (k : IntKind) (a b : Int) : Int :=
  let x := BitVec.ofInt k.bits a
  let y := BitVec.ofInt k.bits b
  match op with
  | .and => k.wrap ((x &&& y).toNat : Int)
  | .or => k.wrap ((x ||| y).toNat : Int)
  | .xor => k.wrap ((x ^^^ y).toNat : Int)
  | .andNot => k.wrap ((x &&& ~~~y).toNat : Int)
  | _ => 0
theorem X_and {t yt : TypeId} {k : IntKind} {a b : Int} (hx : ev n e x = .int k a) (hy : ev n e y = .int k b) : Ex P n (.binOp .and t x y yt) ty e w (.int k (bitv .and k a b)) w :=
  X_int hx hy (by simp [binOp, Op.intBits, bitv])
theorem X_or {t yt : TypeId} {k : IntKind} {a b : Int} (hx : ev n e x = .int k a) (hy : ev n e y = .int k b) : Ex P n (.binOp .or t x y yt) ty e w (.int k (bitv .or k a b)) w :=
  X_int hx hy (by simp [binOp, Op.intBits, bitv])
theorem X_xor {t yt : TypeId} {k : IntKind} {a b : Int} (hx : ev n e x = .int k a) (hy : ev n e y = .int k b) : Ex P n (.binOp .xor t x y yt) ty e w (.int k (bitv .xor k a b)) w :=
  X_int hx hy (by simp [binOp, Op.intBits, bitv])
theorem X_andNot {t yt : TypeId} {k : IntKind} {a b : Int} (hx : ev n e x = .int k a) (hy : ev n e y = .int k b) : Ex P n (.binOp .andNot t x y yt) ty e w (.int k (bitv .andNot k a b)) w :=
  X_int hx hy (by simp [binOp, Op.intBits, bitv])
theorem X_shl {t yt : TypeId} {k k' : IntKind} {a b : Int} (hx : ev n e x = .int k a) (hy : ev n e y = .int k' b) (hb : 0 ≤ b) :
    Ex P n (.binOp .shl t x y yt) ty e w (.int k (k.wrap (a * 2 ^ (min b.toNat k.bits)))) w := by
  refine ⟨by simp, ?_⟩;have hn : ¬ b < 0 := (by omega);simp [execOp, mkOp, hx, hy, Sem.run_bind, Result.andThen, eqGuard, binOp, Op.shift, hn]
theorem X_shr {t yt : TypeId} {k k' : IntKind} {a b : Int} (hx : ev n e x = .int k a) (hy : ev n e y = .int k' b) (hb : 0 ≤ b) :
    Ex P n (.binOp .shr t x y yt) ty e w (.int k (a.fdiv (2 ^ (min b.toNat k.bits)))) w := by
  refine ⟨by simp, ?_⟩;have hn : ¬ b < 0 := (by omega);simp [execOp, mkOp, hx, hy, Sem.run_bind, Result.andThen, eqGuard, binOp, Op.shift, hn]
theorem X_quo {t yt : TypeId} {k : IntKind} {a b : Int} (hx : ev n e x = .int k a) (hy : ev n e y = .int k b) (hb : b ≠ 0) : Ex P n (.binOp .quo t x y yt) ty e w (.int k (k.wrap (a.tdiv b))) w :=
  X_int hx hy (by simp [binOp, Op.intDiv, hb])
theorem X_rem {t yt : TypeId} {k : IntKind} {a b : Int} (hx : ev n e x = .int k a) (hy : ev n e y = .int k b) (hb : b ≠ 0) : Ex P n (.binOp .rem t x y yt) ty e w (.int k (a.tmod b)) w :=
  X_int hx hy (by simp [binOp, Op.intDiv, hb])
theorem X_neg {t : TypeId} {k : IntKind} {a : Int} (hx : ev n e x = .int k a) : Ex P n (.unOp .neg t x) ty e w (.int k (k.wrap (0 - a))) w := ⟨by simp, by simp [execOp, mkOp, hx, Op.unary, Op.intArith]⟩
theorem X_compl {t : TypeId} {k : IntKind} {a : Int} (hx : ev n e x = .int k a) : Ex P n (.unOp .xor t x) ty e w (.int k (bitv .xor k (if k.signed then -1 else k.max) a)) w := ⟨by simp, by simp [execOp, mkOp, hx, Op.unary, Op.intBits, bitv]⟩
theorem X_convI {s d : TypeId} {k k' : IntKind} {a : Int} {D : TypeDesc} (hs : P.underlying s = some D) (hd : P.underlying d = some (.int k')) (hx : ev n e x = .int k a) :
    Ex P n (.convert s d x) ty e w (.int k' (k'.wrap a)) w := by
  refine ⟨by simp, ?_⟩;simp only [execOp, mkOp, hx, convert, Sem.run_bind, run_underlying hs, run_underlying hd, Result.andThen]
  cases D <;> simp [Conv.intToInt]

/-! ### Addresses -/
theorem X_fieldAddr {s : TypeId} {f : Nat} {b o sz : Nat} {fs : Array Field} {fd : Field} (hs : P.underlying s = some (.struct fs)) (hf : fs[f]? = some fd)
    (hz : ∀ w, (sizeOf fd.type).run P w = .ok sz w) (hz0 : sz ≠ 0) (hx : ev n e x = .pointer (some ⟨b, o, none⟩)) (o' : Nat) (ho : o + fd.offset = o') :
    Ex P n (.fieldAddr s x f) ty e w (.pointer (some ⟨b, o', none⟩)) w := by
  refine ⟨by simp, ?_⟩;subst ho;simp [execOp, mkOp, hx, Instr.fieldAt, Sem.run_bind, run_underlying hs, hf, Instr.sureAddr, fieldPlace, hz, hz0, Result.andThen, addr_add]
theorem X_indexS {t el : TypeId} {b o len cap sz : Nat} {k : IntKind} {i : Int} (ht : P.underlying t = some (.slice el)) (hz : ∀ w, (sizeOf el).run P w = .ok sz w)
    (hx : ev n e x = .slice (some ⟨b, o, none⟩) len cap) (hy : ev n e y = .int k i) (h0 : 0 ≤ i) (h1 : i < (len : Int)) :
    Ex P n (.indexAddr t x y) ty e w (.pointer (some ⟨b, o + i.toNat * sz, none⟩)) w := by
  refine ⟨by simp, ?_⟩;simp [execOp, mkOp, hx, hy, Instr.indexAt, asIntOf, Sem.run_bind, run_underlying ht, hz, Result.andThen, h0, h1, addr_add]
theorem X_indexA {t el : TypeId} {b o len sz : Nat} {k : IntKind} {i : Int} (ht : P.underlying t = some (.array len el)) (hz : ∀ w, (sizeOf el).run P w = .ok sz w)
    (hx : ev n e x = .pointer (some ⟨b, o, none⟩)) (hy : ev n e y = .int k i) (h0 : 0 ≤ i) (h1 : i < (len : Int)) :
    Ex P n (.indexAddr t x y) ty e w (.pointer (some ⟨b, o + i.toNat * sz, none⟩)) w := by
  refine ⟨by simp, ?_⟩;simp [execOp, mkOp, hx, hy, Instr.indexAt, Instr.sureAddr, asIntOf, Sem.run_bind, run_underlying ht, hz, Result.andThen, h0, h1, addr_add]
theorem X_len {t : TypeId} {el : TypeId} {a : Option Addr} {len cap : Nat} {xs : List Operand} (ht : P.underlying t = some (.slice el)) (hx : ev n e x = .slice a len cap) :
    Ex P n (.call { callee := .builtin .len, args := #[x], argTypes := #[t] }) ty e w (.int .i64 len) w := by
  refine ⟨by simp, ?_⟩;simp [execOp, mkOp, hx, resolve, invoke, builtin, Builtin.len_, Sem.run_bind, run_underlying ht, Result.andThen, goInt]
theorem X_lenStr {t : TypeId} {s : ByteArray} (ht : P.underlying t = some .string) (hx : ev n e x = .string s) :
    Ex P n (.call { callee := .builtin .len, args := #[x], argTypes := #[t] }) ty e w (.int .i64 s.size) w := by
  refine ⟨by simp, ?_⟩;simp [execOp, mkOp, hx, resolve, invoke, builtin, Builtin.len_, Sem.run_bind, run_underlying ht, Result.andThen, goInt]
theorem X_cap {t : TypeId} {el : TypeId} {a : Option Addr} {len cap : Nat} (ht : P.underlying t = some (.slice el)) (hx : ev n e x = .slice a len cap) :
    Ex P n (.call { callee := .builtin .cap, args := #[x], argTypes := #[t] }) ty e w (.int .i64 cap) w := by
  refine ⟨by simp, ?_⟩;simp [execOp, mkOp, hx, resolve, invoke, builtin, Builtin.cap_, Sem.run_bind, run_underlying ht, Result.andThen, goInt]
theorem X_min {ts : Array TypeId} {k k' : IntKind} {a b : Int} (hx : ev n e x = .int k a) (hy : ev n e y = .int k' b) :
    Ex P n (.call { callee := .builtin .min, args := #[x, y], argTypes := ts }) ty e w (.int k (if b < a then b else a)) w := by
  refine ⟨by simp, ?_⟩;simp [execOp, mkOp, hx, hy, resolve, invoke, builtin, Builtin.min_, Builtin.min2, Sem.run_bind, Result.andThen]

/-! ### Loads -/
theorem X_load {t : TypeId} {b o : Nat} {v : Value} (ha : ∀ w, (isAgg t).run P w = .ok false w) (hx : ev n e x = .pointer (some ⟨b, o, none⟩)) (hc : Cell w b o v) :
    Ex P n (.load t x) ty e w v w := by
  refine ⟨by simp, ?_⟩;have hc' : w.cell? ⟨b, o, none⟩ = some v := hc;simp [execOp, mkOp, hx, Instr.loadAt, Instr.sureAddr, loadVar, Sem.run_bind, ha, Result.andThen, Go.load, Sem.run, hc']
theorem run_loadCells_of {b o : Nat} {vs : List Value} (hc : Cells w b o vs) : (loadCells ⟨b, o, none⟩ vs.length).run P w = .ok vs.toArray w :=
  run_loadCells_list (P := P) (w := w) ⟨b, o, none⟩ vs (fun j v hj => by rw [addr_add]; exact hc j v hj)
theorem run_loadVar_agg {t : TypeId} {b o : Nat} {vs : List Value} (ha : ∀ w, (isAgg t).run P w = .ok true w) (hz : ∀ w, (sizeOf t).run P w = .ok vs.length w) (hc : Cells w b o vs) :
    (loadVar t ⟨b, o, none⟩).run P w = .ok (.agg vs.toArray) w := by
  simp [loadVar, Sem.run_bind, ha, hz, Result.andThen, run_loadCells_of hc]
theorem X_loadA {t : TypeId} {b o : Nat} {vs : List Value} (ha : ∀ w, (isAgg t).run P w = .ok true w) (hz : ∀ w, (sizeOf t).run P w = .ok vs.length w)
    (hx : ev n e x = .pointer (some ⟨b, o, none⟩)) (hc : Cells w b o vs) : Ex P n (.load t x) ty e w (.agg vs.toArray) w := by
  refine ⟨by simp, ?_⟩;simp [execOp, mkOp, hx, Instr.loadAt, Instr.sureAddr, Sem.run_bind, Result.andThen, run_loadVar_agg ha hz hc]

/-! ### Rules on patterns -/
variable {r : Option Nat} {N R : K3} {X : List (Nat × K3)} {ds : List Deferred} {ops : Array Oper} {rest : List Oper} {K : Env → World → Prop}
  {d : Nat} {op : Op} {pos : String} {af : Array Edge} {g : Option (Nat × Bool)}
theorem L_o {dst : Option Nat} (h : OpW P r n ⟨dst, op, ty, pos, af, none⟩ (fun e' w' => WL P r n ops N rest ds e' w') ds e w) : WL P r n ops N (⟨dst, op, ty, pos, af, none⟩ :: rest) ds e w := WL_o rfl h
theorem L_gY {dst : Option Nat} {dg : Nat} {b want : Bool} (hg : gslot ops ⟨dst, op, ty, pos, af, g⟩ = some (dg, want)) (hb : ev n e (.tmp dg) = .bool b) (hw : b = want)
    (h : OpW P r n ⟨dst, op, ty, pos, af, g⟩ (fun e' w' => WL P r n ops N rest ds e' w') ds e w) : WL P r n ops N (⟨dst, op, ty, pos, af, g⟩ :: rest) ds e w := WL_gY hg hb hw h
theorem L_gN {dg : Nat} {b want : Bool} (hg : gslot ops ⟨some d, op, ty, pos, af, g⟩ = some (dg, want)) (hb : ev n e (.tmp dg) = .bool b) (hw : b = !want)
    (h : WL P r n ops N rest ds (upd e d undef) w) : WL P r n ops N (⟨some d, op, ty, pos, af, g⟩ :: rest) ds e w := WL_gN hg hb hw h
theorem L_gU {dg : Nat} {want : Bool} (hg : gslot ops ⟨some d, op, ty, pos, af, g⟩ = some (dg, want)) (hb : ev n e (.tmp dg) = undef)
    (h : WL P r n ops N rest ds (upd e d undef) w) : WL P r n ops N (⟨some d, op, ty, pos, af, g⟩ :: rest) ds e w := by
  simp only [WL]; rw [if_neg (by rw [wanted_undef hg hb]; simp)]; exact h
theorem O_v {v : Value} {w' : World} (hx : Ex P n op ty e w v w') (hk : K (upd e d v) w') : OpW P r n ⟨some d, op, ty, pos, af, g⟩ K ds e w := OpW_v hx hk
theorem L_x {v : Value} {w' : World} (hx : Ex P n op ty e w v w') (hk : WL P r n ops N rest ds (upd e d v) w') : WL P r n ops N (⟨some d, op, ty, pos, af, none⟩ :: rest) ds e w := L_o (O_v hx hk)
theorem L_m {x : Operand} (v : Value) (hx : ev n e x = v) (hk : WL P r n ops N rest ds (upd e d v) w) : WL P r n ops N (⟨some d, .move x, ty, pos, af, none⟩ :: rest) ds e w := L_o (O_v (X_move v hx) hk)
theorem L_a {x : Operand} (v : Value) (hx : ev n e x = v) (hk : WL P r n ops N rest ds (upd e d v) w) : WL P r n ops N (⟨some d, .assign x, ty, pos, af, none⟩ :: rest) ds e w := L_o (O_v (X_assign v hx) hk)
theorem L_y {dg : Nat} {b want : Bool} {v : Value} {w' : World} (hg : gslot ops ⟨some d, op, ty, pos, af, g⟩ = some (dg, want)) (hb : ev n e (.tmp dg) = .bool b) (hw : b = want) (hx : Ex P n op ty e w v w')
    (hk : WL P r n ops N rest ds (upd e d v) w') : WL P r n ops N (⟨some d, op, ty, pos, af, g⟩ :: rest) ds e w := L_gY hg hb hw (O_v hx hk)
theorem L_xn {v : Value} {w' : World} (hx : Ex P n op ty e w v w') (hk : N ds (upd e d v) w') : WL P r n ops N [⟨some d, op, ty, pos, af, none⟩] ds e w := L_o (O_v hx (WL_nil hk))
theorem L_mn {x : Operand} (v : Value) (hx : ev n e x = v) (hk : N ds (upd e d v) w) : WL P r n ops N [⟨some d, .move x, ty, pos, af, none⟩] ds e w := L_o (O_v (X_move v hx) (WL_nil hk))
theorem L_an {x : Operand} (v : Value) (hx : ev n e x = v) (hk : N ds (upd e d v) w) : WL P r n ops N [⟨some d, .assign x, ty, pos, af, none⟩] ds e w := L_o (O_v (X_assign v hx) (WL_nil hk))
theorem O_s {w' : World} (hx : ExS P n op ty e w w') (hk : K e w') : OpW P r n ⟨none, op, ty, pos, af, g⟩ K ds e w := OpW_s hx hk
theorem O_call {xs : List Operand} {ts : Array TypeId} {f : FuncId} {cap : List Value} {vs : List Value} {R : Value → World → Prop}
    (hcall : ∀ (args : Array Value) (w : World), (callFunc f args).run P w = .ok (.enter f args) w) (hf : ev n e x = .func (.func f) #[] cap.toArray)
    (hargs : argsOf n e xs ++ cap = vs) (hc : CV P f vs w R) (hk : ∀ v w', R v w' → K (upd e d v) w') :
    OpW P r n ⟨some d, .call { callee := .value x, args := xs.toArray, argTypes := ts }, ty, pos, af, g⟩ K ds e w := OpW_call rfl hf hcall hargs hc hk

/-! ### New blocks -/
theorem grown_ext {w w' : World} (h : w.grownBy w' none) : Ext w w' := ⟨h.os, h.tape, h.output, h.size, fun k hk => h.block k hk (by simp)⟩
theorem ext_grown {w w' : World} (h : Ext w w') (row : Option Nat) : w.grownBy w' row := ⟨h.os, h.tape, h.output, h.size, fun k hk _ => h.block k hk⟩
theorem ext_alloc (w : World) (o : Obj) : Ext w (w.alloc o) := Ext.rfl.alloc o
theorem ext_drew (w : World) : Ext w w.drew := Ext.rfl.drew
theorem X_alloc {el : TypeId} {z : Value} (hz : ∀ w, (zeroValue el).run P w = .ok z w) (cs : List Value) (hcs : z.cells.toList = cs) :
    Ex P n (.alloc el) ty e w (.pointer (some ⟨w.heap.size, 0, none⟩)) (w.alloc (.cells cs.toArray el)) := by
  refine ⟨by simp, ?_⟩;subst hcs;simp only [execOp, mkOp, Instr.alloc, Sem.run_bind, hz, Result.andThen, newVar, newRow, newObj, Sem.run_pure, Array.toArray_toList];rfl
theorem X_box {el : TypeId} {v : Value} (hx : ev n e x = v) (cs : List Value) (hcs : v.cells.toList = cs) :
    Ex P n (.box el x) ty e w (.pointer (some ⟨w.heap.size, 0, none⟩)) (w.alloc (.cells cs.toArray el)) := by
  refine ⟨by simp, ?_⟩;subst hcs;simp only [execOp, mkOp, hx, Instr.box, Sem.run_bind, Result.andThen, newVar, newRow, newObj, Sem.run_pure, Array.toArray_toList];rfl
theorem O_alloc {el : TypeId} {z : Value} (hz : ∀ w, (zeroValue el).run P w = .ok z w) (cs : List Value) (hcs : z.cells.toList = cs)
    (hk : ∀ w' b, b = w.heap.size → Blk w' b el cs → Ext w w' → K (upd e d (.pointer (some ⟨b, 0, none⟩))) w') : OpW P r n ⟨some d, .alloc el, ty, pos, af, g⟩ K ds e w :=
  O_v (X_alloc hz cs hcs) (hk _ _ rfl (Blk.new w el cs) (ext_alloc w _))
theorem O_box {el : TypeId} {v : Value} (hx : ev n e x = v) (cs : List Value) (hcs : v.cells.toList = cs)
    (hk : ∀ w' b, b = w.heap.size → Blk w' b el cs → Ext w w' → K (upd e d (.pointer (some ⟨b, 0, none⟩))) w') : OpW P r n ⟨some d, .box el x, ty, pos, af, g⟩ K ds e w :=
  O_v (X_box hx cs hcs) (hk _ _ rfl (Blk.new w el cs) (ext_alloc w _))

/-! ### Stores -/
def splice (cs : List Value) (o : Nat) (vs : List Value) : List Value := cs.take o ++ vs ++ cs.drop (o + vs.length)
theorem grown_setRow (w : World) (b : Nat) (cs : Array Value) : w.grownBy (w.setRow b cs) (some b) :=
  ⟨rfl, rfl, rfl, by simp [World.setRow], fun k _ hk => setRow_other w b k _ (fun h => hk (by rw [h]))⟩
theorem Blk.setRow {w : World} {b : Nat} {T : TypeId} {cs : List Value} (h : Blk w b T cs) (cs' : List Value) : Blk (w.setRow b cs'.toArray) b T cs' := setRow_heap w b _ _ T (0, 0) h
theorem Blk.kept {w w' : World} {b : Nat} {T : TypeId} {cs : List Value} {row : Option Nat} (h : Blk w b T cs) (hg : w.grownBy w' row) (hne : row ≠ some b) : Blk w' b T cs :=
  (hg.block b h.lt (fun h => hne h.symm)).trans h
theorem nsA {a b : Nat} (h : a ≠ b) : (some a : Option Nat) ≠ some b := fun hk => h (Option.some.inj hk)
theorem nsB {a b : Nat} (h : b ≠ a) : (some a : Option Nat) ≠ some b := fun hk => h (Option.some.inj hk).symm
theorem Cell.kept {w w' : World} {b o : Nat} {v : Value} {row : Option Nat} (h : Cell w b o v) (hg : w.grownBy w' row) (hne : row ≠ some b) : Cell w' b o v := by
  unfold Cell at *; rw [World.cell?_of_block (w := w) (hg.block _ (cell_lt h) (fun h => hne h.symm))]; exact h
theorem Cells.kept {w w' : World} {b o : Nat} {vs : List Value} {row : Option Nat} (h : Cells w b o vs) (hg : w.grownBy w' row) (hne : row ≠ some b) : Cells w' b o vs := fun j v hj => Cell.kept (h j v hj) hg hne
theorem X_store {t : TypeId} {b o : Nat} {v : Value} {vs : List Value} (hz : ∀ w, (sizeOf t).run P w = .ok vs.length w) (hx : ev n e x = .pointer (some ⟨b, o, none⟩)) (hy : ev n e y = v) (hv : v.cells.toList = vs)
    (h1 : vs.all (·.oneCell') = true) {T : TypeId} {cs : List Value} (hb : Blk w b T cs) (ho : o + vs.length ≤ cs.length) : ExS P n (.store t x y) ty e w (w.setRow b (splice cs o vs).toArray) := by
  refine ⟨by simp, ?_⟩;have hs : v.cells.size = vs.length := (by rw [← hv]; simp);have := run_storeCells_at (P := P) b o T vs 0 cs.toArray w hb (by simpa using ho) (by simpa using h1);simp only [execOp, mkOp, hx, hy, Instr.storeAt, Instr.sureAddr, storeVar, Sem.run_bind, hz, Result.andThen, Sem.run_pure, hs, ne_eq, not_true_eq_false, if_false, hv, this, splice];rfl
theorem O_store {t : TypeId} {b o : Nat} {v : Value} {vs : List Value} {T : TypeId} {cs : List Value} (hb : Blk w b T cs) (hz : ∀ w, (sizeOf t).run P w = .ok vs.length w) (hx : ev n e x = .pointer (some ⟨b, o, none⟩)) (hy : ev n e y = v) (hv : v.cells.toList = vs)
    (h1 : vs.all (·.oneCell') = true) (ho : o + vs.length ≤ cs.length) (cs' : List Value) (hcs : splice cs o vs = cs')
    (hk : ∀ w', Blk w' b T cs' → w.grownBy w' (some b) → K e w') : OpW P r n ⟨none, .store t x y, ty, pos, af, g⟩ K ds e w := by
  subst hcs;exact O_s (X_store hz hx hy hv h1 hb ho) (hk _ (hb.setRow _) (grown_setRow _ _ _))
theorem splice_one {cs : List Value} {o : Nat} (v : Value) (ho : o < cs.length) : splice cs o [v] = cs.set o v := by
  unfold splice;rw [List.set_eq_take_append_cons_drop, if_pos ho];simp
theorem O_store1 {t : TypeId} {b o : Nat} {v : Value} {T : TypeId} {cs : List Value} (hb : Blk w b T cs) (hz : ∀ w, (sizeOf t).run P w = .ok 1 w) (hx : ev n e x = .pointer (some ⟨b, o, none⟩)) (hy : ev n e y = v)
    (h1 : v.oneCell' = true) (ho : o < cs.length)
    (hk : ∀ w', Blk w' b T (cs.set o v) → w.grownBy w' (some b) → K e w') : OpW P r n ⟨none, .store t x y, ty, pos, af, g⟩ K ds e w := by
  have hv : v.cells.toList = [v] := (by cases v <;> simp_all [Value.cells, Value.oneCell']);exact O_store (vs := [v]) hb hz hx hy hv (by simp [h1]) (by simpa using Nat.succ_le_of_lt ho) _ (splice_one v ho) hk

/-! ### Slices made -/
theorem X_makeSlice {t el : TypeId} {i : TypeInfo} {z : Value} {sz by' : Nat} {k1 k2 : IntKind} {l c : Int} (ht : P.underlying t = some (.slice el)) (hi : P.info? el = some i) (hz : i.zero = some z) (hsz : i.size = sz)
    (hby : i.bytes = by') (hx : ev n e x = .int k1 l) (hy : ev n e y = .int k2 c) (h0 : 0 ≤ l) (h1 : l ≤ c) (h2 : (by' : Int) * c ≤ 281474976710656) (h3 : c ≤ 9223372036854775807)
    (cs : List Value) (hcs : (madeCells z.cells (c.toNat * sz)).toList = cs) :
    Ex P n (.makeSlice t x y) ty e w (.slice (some ⟨w.heap.size, 0, none⟩) l.toNat c.toNat) (w.alloc (.cells cs.toArray el)) := by
  subst hsz; subst hcs; subst hby;refine ⟨by simp, ?_⟩;have := run_make (P := P) w t el i z ht hi hz k1 k2 l c h0 h1 h2 h3;simp only [execOp, mkOp, hx, hy, Sem.run_bind, this, Result.andThen, Sem.run_pure, Array.toArray_toList]
theorem O_makeSlice {t el : TypeId} {i : TypeInfo} {z : Value} {sz by' : Nat} {k1 k2 : IntKind} {l c : Int} (ht : P.underlying t = some (.slice el)) (hi : P.info? el = some i) (hz : i.zero = some z) (hsz : i.size = sz)
    (hby : i.bytes = by') (hx : ev n e x = .int k1 l) (hy : ev n e y = .int k2 c) (h0 : 0 ≤ l) (h1 : l ≤ c) (h2 : (by' : Int) * c ≤ 281474976710656) (h3 : c ≤ 9223372036854775807)
    (cs : List Value) (hcs : (madeCells z.cells (c.toNat * sz)).toList = cs)
    (hk : ∀ w' b, b = w.heap.size → Blk w' b el cs → Ext w w' → K (upd e d (.slice (some ⟨b, 0, none⟩) l.toNat c.toNat)) w') : OpW P r n ⟨some d, .makeSlice t x y, ty, pos, af, g⟩ K ds e w :=
  O_v (X_makeSlice ht hi hz hsz hby hx hy h0 h1 h2 h3 cs hcs) (hk _ _ rfl (Blk.new w el cs) (ext_alloc w _))
theorem made_list (z : Array Value) (m : Nat) : (madeCells z m).toList = (List.range m).map (fun i => z[i % z.size]!) := by simp [madeCells]
theorem made_one (z : Value) (m : Nat) : (madeCells #[z] m).toList = List.replicate m z := by
  simp only [madeCells];apply List.ext_getElem
  · simp
  · intro j h1 h2; simp [Nat.mod_one]
/-- 'append(v, y...)' where v is the call's own. -/
theorem X_append {t el : TypeId} {i : TypeInfo} {z : Value} {size bytes : Nat} (base : Nat) {v : Value} {nn : Nat} {xs : List Value} (hown : w.ownsRow base el size v nn xs)
    (ht : P.underlying t = some (.slice el)) (hi : P.info? el = some i) (hz : i.zero = some z)
    (hsize : i.size = size) (hby : i.bytes = bytes) (hzs : z.cells.size = size) (hsz : 0 < size)
    {b o m c : Nat} (hx : ev n e x = v) (hy : ev n e y = .slice (some ⟨b, o, none⟩) m c) {news : List Value} (hnews : Cells w b o news) (hl : news.length = m * size) (h1 : news.all (·.oneCell') = true)
    (hbytes : (nn + m) * bytes ≤ 140737488355328) (h63 : nn + m ≤ 140737488355328) (hbase : base ≤ w.heap.size) :
    ∃ v' w', Ex P n (.call { callee := .builtin .append, args := #[x, y], argTypes := #[t, t] }) ty e w v' w' ∧ w'.ownsRow base el size v' (nn + m) (xs ++ news) ∧ w.grownBy w' v.ownBlock := by
  obtain ⟨v', w', hr, h2, h3, _⟩ := run_append_own (P := P) (w := w) base t ty el i z size bytes ht hi hz hsize hby hzs hsz v nn xs hown ⟨b, o, none⟩ m c news hl
    (fun j u hj => by rw [addr_add]; exact hnews j u hj) (by simpa using h1) (by unfold maxLen; omega) hbytes hbase
  refine ⟨v', w', ⟨by simp, ?_⟩, h2, h3⟩;simp [execOp, mkOp, hx, hy, resolve, invoke, builtin, Sem.run_bind, Result.andThen, hr]
theorem O_append {t el : TypeId} {i : TypeInfo} {z : Value} {size bytes : Nat} (base : Nat) {v : Value} {nn : Nat} {xs : List Value} (hown : w.ownsRow base el size v nn xs)
    (ht : P.underlying t = some (.slice el)) (hi : P.info? el = some i) (hz : i.zero = some z)
    (hsize : i.size = size) (hby : i.bytes = bytes) (hzs : z.cells.size = size) (hsz : 0 < size)
    {b o m c : Nat} (hx : ev n e x = v) (hy : ev n e y = .slice (some ⟨b, o, none⟩) m c) {news : List Value} (hnews : Cells w b o news) (hl : news.length = m * size) (h1 : news.all (·.oneCell') = true)
    (hbytes : (nn + m) * bytes ≤ 140737488355328) (h63 : nn + m ≤ 140737488355328) (hbase : base ≤ w.heap.size)
    (hk : ∀ v' w', w'.ownsRow base el size v' (nn + m) (xs ++ news) → w.grownBy w' v.ownBlock → K (upd e d v') w') :
    OpW P r n ⟨some d, .call { callee := .builtin .append, args := #[x, y], argTypes := #[t, t] }, ty, pos, af, g⟩ K ds e w := by
  obtain ⟨v', w', hr, h2, h3⟩ := X_append (ty := ty) base hown ht hi hz hsize hby hzs hsz hx hy hnews hl h1 hbytes h63 hbase;exact O_v hr (hk _ _ h2 h3)
theorem X_append0 {t el : TypeId} {a a' : Option Addr} {l c c' : Nat} (sz : Nat) (ht : P.underlying t = some (.slice el)) (hz : ∀ w, (sizeOf el).run P w = .ok sz w)
    (hlc : l ≤ c) (hx : ev n e x = .slice a l c) (hy : ev n e y = .slice a' 0 c') :
    Ex P n (.call { callee := .builtin .append, args := #[x, y], argTypes := #[t, t] }) ty e w (.slice a l c) w := by
  refine ⟨by simp, ?_⟩
  have h0 : ∀ (q : Option Addr), (Builtin.firstCells sz 0 (.slice q 0 c')).run P w = .ok #[] w := by
    intro q; cases q <;> simp [Builtin.firstCells, loadCells, loadCellsFrom]
  cases a <;> simp [execOp, mkOp, hx, hy, resolve, invoke, builtin, Builtin.append_, Builtin.lenOf, Sem.run_bind, run_underlying ht, hz, Result.andThen, hlc, h0, storeCells]

/-! ### Structs, arrays and slices built -/
def fillL (place : Nat → Option (Nat × Nat)) (cs : List Value) : List (Nat × Value) → Option (List Value)
  | [] => some cs
  | (i, v) :: rest =>
    match place i with
    | none => none
    | some (off, size) => if v.cells.toList.length = size ∧ off + v.cells.toList.length ≤ cs.length then fillL place (splice cs off v.cells.toList) rest else none
theorem foldl_splice (vs : List Value) : ∀ (k off : Nat) (cs : Array Value), off + k + vs.length ≤ cs.size →
    ((vs.zipIdx k).foldl (fun (cs : Array Value) (p : Value × Nat) => cs.setIfInBounds (off + p.2) p.1) cs) = (splice cs.toList (off + k) vs).toArray := by
  induction vs with
  | nil => intro k off cs h; simp [splice]
  | cons v vs ih =>
    intro k off cs h;simp only [List.zipIdx_cons, List.foldl_cons];simp only [List.length_cons] at h;rw [ih (k + 1) off _ (by simp; omega)];congr 1;apply List.ext_getElem?;intro j;simp only [splice, Array.toList_setIfInBounds, List.getElem?_append, List.length_append, List.length_take, List.length_set, Array.length_toList, List.getElem?_take, List.getElem?_drop, List.getElem?_set, List.length_cons];have e1 : min (off + (k + 1)) cs.size = off + k + 1 := (by omega);have e2 : min (off + k) cs.size = off + k := (by omega);simp only [e1, e2];by_cases h1 : j < off + k
    · simp [show j < off + k + 1 + vs.length by omega, show j < off + k + 1 by omega, show j < off + (k + 1) by omega, h1, show ¬ off + k = j by omega, show j < off + k + (vs.length + 1) by omega]
    · by_cases h2 : j = off + k
      · subst h2;simp [show off + k < off + k + 1 + vs.length by omega, show off + k < off + (k + 1) by omega, show off + k < cs.size by omega, show off + k < off + k + (vs.length + 1) by omega]
      · obtain ⟨q, rfl⟩ : ∃ q, j = off + k + 1 + q := ⟨j - (off + k + 1), by omega⟩;by_cases h3 : q < vs.length
        · simp [show off + k + 1 + q < off + k + 1 + vs.length by omega, show ¬ off + k + 1 + q < off + k + 1 by omega, show off + k + 1 + q < off + k + (vs.length + 1) by omega, show ¬ off + k + 1 + q < off + k by omega,
            show off + k + 1 + q - (off + k) = q + 1 by omega]
        · simp [show ¬ off + k + 1 + q < off + k + 1 + vs.length by omega, show ¬ off + k + 1 + q < off + k + (vs.length + 1) by omega, show ¬ off + k = off + (k + 1) + vs.length + (off + k + 1 + q - (off + k + 1 + vs.length)) by omega];congr 1; omega
theorem fill_of (place : Nat → Option (Nat × Nat)) : ∀ (parts : List (Nat × Value)) (cs : List Value) (out : List Value), fillL place cs parts = some out → Instr.fill place cs.toArray parts = some out.toArray
  | [], cs, out, h => by simp [fillL] at h; simp [Instr.fill, h]
  | (i, v) :: rest, cs, out, h => by
    simp only [fillL] at h;simp only [Instr.fill]
    cases hp : place i with
    | none => simp [hp] at h
    | some q =>
      obtain ⟨off, size⟩ := q;simp only [hp] at h ⊢;split at h
      · rename_i hc
        obtain ⟨h1, h2⟩ := hc;simp only [Array.length_toList] at h1 h2;have e1 : ¬ (v.cells.size ≠ size ∨ off + v.cells.size > cs.toArray.size) := (by simp; omega);have e2 : (decide (v.cells.size ≠ size) || decide (off + v.cells.size > cs.toArray.size)) = false := (by simp; omega);have hf := foldl_splice v.cells.toList 0 off cs.toArray (by simpa using h2)
        have hz : v.cells.zipIdx.foldl (fun cs (p : Value × Nat) => cs.setIfInBounds (off + p.2) p.1) cs.toArray = (splice cs off v.cells.toList).toArray := by
          have : v.cells.zipIdx.toList = v.cells.toList.zipIdx := (by simp);rw [← Array.foldl_toList, this, hf]; simp
        simp only [hz];have := fill_of place rest _ _ h;simp only [this];simp;omega
      · cases h
def partsOf (n : Nat) (e : Env) (l : List (Nat × Operand)) : List (Nat × Value) := l.map fun p => (p.1, ev n e p.2)
theorem X_buildS {t : TypeId} {z : Value} {fs : Array Field} {pl : List (Nat × Nat)} {l : List (Nat × Operand)} (hz : ∀ w, (zeroValue t).run P w = .ok z w) (hs : P.underlying t = some (.struct fs))
    (hp : ∀ w, (fs.mapM fun f => do pure (f.offset, ← sizeOf f.type) : Sem _).run P w = .ok pl.toArray w) (cs : List Value) (hf : fillL (fun i => pl[i]?) z.cells.toList (partsOf n e l) = some cs) :
    Ex P n (.build t l.toArray) ty e w (.agg cs.toArray) w := by
  refine ⟨by simp, ?_⟩
  have h1 : Instr.fill (fun i => pl.toArray[i]?) z.cells (l.map fun p => (p.1, ev n e p.2)) = some cs.toArray := by
    have := fill_of (fun i => pl[i]?) _ _ _ hf
    simpa [partsOf] using this
  simp only [execOp, mkOp, Instr.build, Sem.run_bind, hz, run_underlying hs, hp, Result.andThen];simp only [List.getElem?_toArray] at h1;simp [h1]
theorem X_buildA {t el len sz : Nat} {z : Value} {l : List (Nat × Operand)} (hz : ∀ w, (zeroValue t).run P w = .ok z w) (hs : P.underlying t = some (.array len el))
    (hsz : ∀ w, (sizeOf el).run P w = .ok sz w) (cs : List Value) (hf : fillL (fun i => some (i * sz, sz)) z.cells.toList (partsOf n e l) = some cs) :
    Ex P n (.build t l.toArray) ty e w (.agg cs.toArray) w := by
  refine ⟨by simp, ?_⟩
  have h1 : Instr.fill (fun i => some (i * sz, sz)) z.cells (l.map fun p => (p.1, ev n e p.2)) = some cs.toArray := by
    have := fill_of (fun i => some (i * sz, sz)) _ _ _ hf
    simpa [partsOf] using this
  simp only [execOp, mkOp, Instr.build, Sem.run_bind, hz, run_underlying hs, hsz, Result.andThen];simp [h1]
def zeros (z : List Value) : Nat → List Value
  | 0 => []
  | k + 1 => z ++ zeros z k
theorem X_buildSlice {t el len sz : Nat} {z : Value} {l : List (Nat × Operand)} (ht : P.underlying t = some (.slice el)) (hsz : ∀ w, (sizeOf el).run P w = .ok sz w) (hz : ∀ w, (zeroValue el).run P w = .ok z w)
    (hlen : len * sz ≤ 4096) (z0 : List Value) (hz0 : (madeCells z.cells (len * sz)).toList = z0) (cs : List Value) (hf : fillL (fun i => some (i * sz, sz)) z0 (partsOf n e l) = some cs) :
    Ex P n (.buildSlice t len l.toArray) ty e w (.slice (some ⟨w.heap.size, 0, none⟩) len len) (w.alloc (.cells cs.toArray el)) := by
  subst hz0;refine ⟨by simp, ?_⟩
  have h1 : Instr.fill (fun i => some (i * sz, sz)) (madeCells z.cells (len * sz)) (l.map fun p => (p.1, ev n e p.2)) = some cs.toArray := by
    have := fill_of (fun i => some (i * sz, sz)) _ _ _ hf
    simpa [partsOf] using this
  have h24 : ¬ 16777216 < len * sz := (by omega);by_cases h0 : len * sz = 0
  · have h1' := h1;simp only [h0, madeCells] at h1';have hm : (fun i : Nat => (#[] : Array Value)[i % 0]!) = (fun i : Nat => z.cells[i % z.cells.size]!) ∨ True := .inr trivial;have hr0 : (Array.range 0) = #[] := rfl;rw [hr0] at h1';simp only [List.map_toArray, List.map_nil, Array.map_empty] at h1';simp [execOp, mkOp, Instr.buildSlice, Sem.run_bind, run_underlying ht, hsz, Result.andThen, h24, h0, newRow, newObj, hr0, h1'];rfl
  · simp only [madeCells] at h1;simp [execOp, mkOp, Instr.buildSlice, Sem.run_bind, run_underlying ht, hsz, hz, Result.andThen, h24, h0, h1, newRow, newObj];rfl
theorem O_buildSlice {t el len sz : Nat} {z : Value} {l : List (Nat × Operand)} (ht : P.underlying t = some (.slice el)) (hsz : ∀ w, (sizeOf el).run P w = .ok sz w) (hz : ∀ w, (zeroValue el).run P w = .ok z w)
    (hlen : len * sz ≤ 4096) (z0 : List Value) (hz0 : (madeCells z.cells (len * sz)).toList = z0) (cs : List Value) (hf : fillL (fun i => some (i * sz, sz)) z0 (partsOf n e l) = some cs)
    (hk : ∀ w' b, b = w.heap.size → Blk w' b el cs → Ext w w' → K (upd e d (.slice (some ⟨b, 0, none⟩) len len)) w') : OpW P r n ⟨some d, .buildSlice t len l.toArray, ty, pos, af, g⟩ K ds e w :=
  O_v (X_buildSlice ht hsz hz hlen z0 hz0 cs hf) (hk _ _ rfl (Blk.new w el cs) (ext_alloc w _))
theorem X_slice {t el sz : TypeId} {a : Option Addr} {len cap : Nat} {lo hi : Option Operand} {l h : Int} (ht : P.underlying t = some (.slice el)) (hsz : ∀ w, (sizeOf el).run P w = .ok sz w)
    (hx : ev n e x = .slice a len cap) (hlo : (match lo with | none => l = 0 | some y => ∃ k, ev n e y = .int k l)) (hhi : (match hi with | none => h = len | some y => ∃ k, ev n e y = .int k h))
    (h0 : 0 ≤ l) (h1 : l ≤ h) (h2 : h ≤ (cap : Int)) :
    Ex P n (.slice t x lo hi none) ty e w (.slice (if cap = l.toNat then a else a.map (·.add (l.toNat * sz))) (h.toNat - l.toNat) (cap - l.toNat)) w := by
  refine ⟨by simp, ?_⟩
  have hb : (Instr.sliceBounds true len cap (lo.map (ev n e)) (hi.map (ev n e)) none).run P w = .ok (l.toNat, h.toNat, cap) w := by
    have h3 : l ≤ (h.toNat : Int) := by omega
    cases lo with
    | none => cases hi with
      | none => simp only at hlo hhi; subst hlo; subst hhi; simp [Instr.sliceBounds, Sem.run_bind, Result.andThen]
      | some y => obtain ⟨k, hy⟩ := hhi; simp only at hlo; subst hlo; simp [Instr.sliceBounds, Instr.sliceBound, asIntOf, hy, Sem.run_bind, Result.andThen, h2, show 0 ≤ h by omega]
    | some y' => cases hi with
      | none => obtain ⟨k, hy⟩ := hlo; simp only at hhi; subst hhi; simp [Instr.sliceBounds, Instr.sliceBound, asIntOf, hy, Sem.run_bind, Result.andThen, h0, h1]
      | some y => obtain ⟨k, hy⟩ := hhi; obtain ⟨k', hy'⟩ := hlo; simp [Instr.sliceBounds, Instr.sliceBound, asIntOf, hy, hy', Sem.run_bind, Result.andThen, h2, h0, h3, show 0 ≤ h by omega, show l ≤ max h 0 by omega]
  simp only [execOp, mkOp, hx, Instr.sliceAt, Instr.slice, Sem.run_bind, run_underlying ht, Result.andThen, Option.map_none, hb, hsz];rfl
end
end Go.V
