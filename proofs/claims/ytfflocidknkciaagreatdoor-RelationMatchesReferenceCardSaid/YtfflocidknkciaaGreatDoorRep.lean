/- How Go's values stand for plain data: slices of integers, of truth values, of pairs; expressions; cells. Holds for every program. -/
import Derived.Test.YtfflocidknkciaaGreatDoorFrame
set_option linter.all false
namespace Go.V
open Go

def bk (a : Option Addr) : Nat := match a with | some x => x.block | none => 0
def of' (a : Option Addr) : Nat := match a with | some x => x.off | none => 0
/-- A slice whose elements, 'sz' cells each, stand for the list l. -/
structure Sl {α : Type} (sz : Nat) (R : World → Nat → Nat → α → Prop) (w : World) (a : Option Addr) (l : List α) : Prop where
  ad : ∀ i, i < l.length → a = some ⟨bk a, of' a, none⟩
  el : ∀ i x, l[i]? = some x → R w (bk a) (of' a + i * sz) x
  len : l.length ≤ 140737488355328
def Mono {α : Type} (R : World → Nat → Nat → α → Prop) : Prop := ∀ w w' b o x, R w b o x → Ext w w' → R w' b o x
theorem Sl.ext' {α : Type} {sz : Nat} {R : World → Nat → Nat → α → Prop} (hR : Mono R) {w w' : World} {a : Option Addr} {l : List α} (h : Sl sz R w a l) (x : Ext w w') : Sl sz R w' a l :=
  ⟨h.ad, fun i y hy => hR _ _ _ _ _ (h.el i y hy) x, h.len⟩
theorem Sl.nil {α : Type} {sz : Nat} {R : World → Nat → Nat → α → Prop} {w : World} {a : Option Addr} : Sl sz R w a ([] : List α) := ⟨fun i h => by simp at h, fun i x h => by simp at h, by simp⟩

def EI (w : World) (b o : Nat) (x : Int) : Prop := Cell w b o (.int .i64 x)
def EB (w : World) (b o : Nat) (x : Bool) : Prop := Cell w b o (.bool x)
def EP (w : World) (b o : Nat) (x : Int × Int) : Prop := Cell w b o (.int .i64 x.1) ∧ Cell w b (o + 1) (.int .i64 x.2)
abbrev SlI := @Sl Int 1 EI
abbrev SlB := @Sl Bool 1 EB
abbrev SlP := @Sl (Int × Int) 2 EP
theorem monoI : Mono EI := fun _ _ _ _ _ h x => Cell.ext h x
theorem monoB : Mono EB := fun _ _ _ _ _ h x => Cell.ext h x
theorem monoP : Mono EP := fun _ _ _ _ _ h x => ⟨Cell.ext h.1 x, Cell.ext h.2 x⟩
def gi (l : List Int) (j : Nat) : Int := l.getD j 0
def gb (l : List Bool) (j : Nat) : Bool := l.getD j false
def gp (l : List (Int × Int)) (j : Nat) : Int × Int := l.getD j (0, 0)
theorem gi_get {l : List Int} {j : Nat} (h : j < l.length) : l[j]? = some (gi l j) := by simp [gi, h]
theorem gb_get {l : List Bool} {j : Nat} (h : j < l.length) : l[j]? = some (gb l j) := by simp [gb, h]
theorem gp_get {l : List (Int × Int)} {j : Nat} (h : j < l.length) : l[j]? = some (gp l j) := by simp [gp, h]
section
variable {w w' : World} {a : Option Addr}
theorem Sl.ext {l : List Int} (h : SlI w a l) (x : Ext w w') : SlI w' a l := Sl.ext' monoI h x
theorem Sl.extB {l : List Bool} (h : SlB w a l) (x : Ext w w') : SlB w' a l := Sl.ext' monoB h x
theorem Sl.extP {l : List (Int × Int)} (h : SlP w a l) (x : Ext w w') : SlP w' a l := Sl.ext' monoP h x
theorem Sl.get {l : List Int} (h : SlI w a l) (j : Nat) (hj : j < l.length) : Cell w (bk a) (of' a + j * 1) (.int .i64 (gi l j)) := h.el j _ (gi_get hj)
theorem Sl.getB {l : List Bool} (h : SlB w a l) (j : Nat) (hj : j < l.length) : Cell w (bk a) (of' a + j * 1) (.bool (gb l j)) := h.el j _ (gb_get hj)
theorem Sl.getP0 {l : List (Int × Int)} (h : SlP w a l) (j : Nat) (hj : j < l.length) : Cell w (bk a) (of' a + j * 2) (.int .i64 (gp l j).1) := (h.el j _ (gp_get hj)).1
theorem Sl.getP1 {l : List (Int × Int)} (h : SlP w a l) (j : Nat) (hj : j < l.length) : Cell w (bk a) (of' a + j * 2 + 1) (.int .i64 (gp l j).2) := (h.el j _ (gp_get hj)).2
end

/-! ## Expressions -/
inductive E where
  | mk (op w n : Int) (ks : List E)
def E.op : E → Int | .mk a _ _ _ => a
def E.w : E → Int | .mk _ a _ _ => a
def E.n : E → Int | .mk _ _ a _ => a
def E.ks : E → List E | .mk _ _ _ a => a
theorem E.eta (e : E) : E.mk e.op e.w e.n e.ks = e := by cases e; rfl
mutual
def esize : E → Nat
  | .mk _ _ _ ks => 1 + esizes ks
def esizes : List E → Nat
  | [] => 0
  | k :: ks => esize k + esizes ks
end
theorem esize_eq (e : E) : esize e = 1 + esizes e.ks := by cases e; simp [esize, E.ks]
theorem esize_pos (e : E) : 0 < esize e := by rw [esize_eq]; omega
theorem esizes_append (a b : List E) : esizes (a ++ b) = esizes a + esizes b := by
  induction a with
  | nil => simp [esizes]
  | cons k a ih => simp only [List.cons_append, esizes, ih]; omega
theorem esize_mem {k : E} {ks : List E} (h : k ∈ ks) : esize k ≤ esizes ks := by
  induction ks with
  | nil => cases h
  | cons q ks ih =>
    simp only [esizes]
    cases h with
    | head => omega
    | tail _ h => have := ih h; omega
theorem len_le_esizes (ks : List E) : ks.length ≤ esizes ks := by
  induction ks with
  | nil => simp
  | cons k ks ih => have := esize_pos k; simp only [esizes, List.length_cons]; omega
mutual
def EE (w : World) : E → Nat → Nat → Prop
  | .mk op W n ks, b, o => Cell w b o (.int .i64 op) ∧ Cell w b (o + 1) (.int .i64 W) ∧ Cell w b (o + 2) (.int .i64 n) ∧
      ∃ a c, Cell w b (o + 3) (.slice a ks.length c) ∧ (ks.length ≠ 0 → a = some ⟨bk a, of' a, none⟩) ∧ ks.length ≤ 140737488355328 ∧ EEs w ks (bk a) (of' a)
def EEs (w : World) : List E → Nat → Nat → Prop
  | [], _, _ => True
  | k :: ks, b, o => EE w k b o ∧ EEs w ks b (o + 4)
end
def ER (w : World) (b o : Nat) (e : E) : Prop := EE w e b o
abbrev SlE := @Sl E 4 ER
theorem EEs_get {w : World} : ∀ {ks : List E} {b o i : Nat} {k : E}, EEs w ks b o → ks[i]? = some k → EE w k b (o + i * 4)
  | [], _, _, _, _, _, h => by simp at h
  | q :: ks, b, o, 0, k, h, hi => by simp at hi; subst hi; simpa using h.1
  | q :: ks, b, o, i + 1, k, h, hi => by
    have := EEs_get (i := i) h.2 (by simpa using hi)
    rwa [show o + 4 + i * 4 = o + (i + 1) * 4 by omega] at this
theorem EEs_of {w : World} : ∀ {ks : List E} {b o : Nat}, (∀ i k, ks[i]? = some k → EE w k b (o + i * 4)) → EEs w ks b o
  | [], _, _, _ => trivial
  | q :: ks, b, o, h => ⟨by simpa using h 0 q rfl, EEs_of fun i k hk => by have := h (i + 1) k (by simpa using hk); rwa [show o + (i + 1) * 4 = o + 4 + i * 4 by omega] at this⟩
/-- The four cells of an expression, and its kids. -/
theorem ER.open {w : World} {b o : Nat} {e : E} (h : ER w b o e) : ∃ a c, Cells w b o [.int .i64 e.op, .int .i64 e.w, .int .i64 e.n, .slice a e.ks.length c] ∧ SlE w a e.ks := by
  cases e with
  | mk op W n ks =>
    obtain ⟨h0, h1, h2, a, c, h3, h4, h5, h6⟩ := h;refine ⟨a, c, fun j v hj => ?_, ⟨fun i hi => h4 (by simp [E.ks] at hi; omega), fun i x hx => EEs_get h6 hx, h5⟩⟩
    match j, hj with
    | 0, hj => simp at hj; subst hj; exact h0
    | 1, hj => simp at hj; subst hj; exact h1
    | 2, hj => simp at hj; subst hj; exact h2
    | 3, hj => simp at hj; subst hj; exact h3
    | j + 4, hj => simp at hj
theorem ER.mk {w : World} {b o : Nat} {e : E} {a : Option Addr} {c : Nat} (h : Cells w b o [.int .i64 e.op, .int .i64 e.w, .int .i64 e.n, .slice a e.ks.length c]) (hk : SlE w a e.ks) : ER w b o e := by
  cases e with
  | mk op W n ks =>
    exact ⟨h 0 _ rfl, h 1 _ rfl, h 2 _ rfl, a, c, h 3 _ rfl, fun hne => hk.ad 0 (by simp [E.ks]; omega), hk.len, EEs_of fun i k hk' => hk.el i k hk'⟩
mutual
theorem EE_ext {w w' : World} (x : Ext w w') : ∀ (e : E) (b o : Nat), EE w e b o → EE w' e b o
  | .mk op W n ks, b, o, ⟨h0, h1, h2, a, c, h3, h4, h5, h6⟩ => ⟨h0.ext x, h1.ext x, h2.ext x, a, c, h3.ext x, h4, h5, EEs_ext x ks _ _ h6⟩
theorem EEs_ext {w w' : World} (x : Ext w w') : ∀ (ks : List E) (b o : Nat), EEs w ks b o → EEs w' ks b o
  | [], _, _, _ => trivial
  | k :: ks, b, o, ⟨h1, h2⟩ => ⟨EE_ext x k b o h1, EEs_ext x ks b (o + 4) h2⟩
end
theorem monoE : Mono ER := fun _ _ b o e h x => EE_ext x e b o h
theorem Sl.extE {w w' : World} {a : Option Addr} {l : List E} (h : SlE w a l) (x : Ext w w') : SlE w' a l := Sl.ext' monoE h x
theorem ER.ext {w w' : World} {b o : Nat} {e : E} (h : ER w b o e) (x : Ext w w') : ER w' b o e := EE_ext x e b o h
instance : Inhabited E := ⟨.mk 0 0 0 []⟩
def ge (l : List E) (j : Nat) : E := l.getD j default
theorem ge_get {l : List E} {j : Nat} (h : j < l.length) : l[j]? = some (ge l j) := by simp [ge, h]
theorem ge_mem {l : List E} {j : Nat} (h : j < l.length) : ge l j ∈ l := by simp [ge, h]
theorem Sl.getE {w : World} {a : Option Addr} {l : List E} (h : SlE w a l) (j : Nat) (hj : j < l.length) : ER w (bk a) (of' a + j * 4) (ge l j) := h.el j _ (ge_get hj)
/-- An expression handed over by value. -/
def vE (e : E) (a : Option Addr) (c : Nat) : Value := .agg #[.int .i64 e.op, .int .i64 e.w, .int .i64 e.n, .slice a e.ks.length c]
theorem Sl.getW {w : World} {a : Option Addr} {l : List E} (h : SlE w a l) (j : Nat) (hj : j < l.length) : Cell w (bk a) (of' a + j * 4 + 1) (.int .i64 (ge l j).w) := by
  obtain ⟨_, _, hc, _⟩ := (h.getE j hj).open;exact hc 1 _ rfl

/-! ## Cells of a program -/
structure CellD where
  nm : ByteArray
  w : Int
  init : Int
  th : Int
  gh : Bool
  md : Int
instance : Inhabited CellD := ⟨⟨ByteArray.empty, 0, 0, 0, false, 0⟩⟩
def EC (w : World) (b o : Nat) (x : CellD) : Prop := Cells w b o [.string x.nm, .int .i64 x.w, .int .i64 x.init, .int .i64 x.th, .bool x.gh, .int .i64 x.md]
abbrev SlC := @Sl CellD 6 EC
theorem monoC : Mono EC := fun _ _ _ _ _ h x => Cells.ext h x
def gc (l : List CellD) (j : Nat) : CellD := l.getD j default
theorem gc_get {l : List CellD} {j : Nat} (h : j < l.length) : l[j]? = some (gc l j) := by simp [gc, h]
theorem Sl.extC {w w' : World} {a : Option Addr} {l : List CellD} (h : SlC w a l) (x : Ext w w') : SlC w' a l := Sl.ext' monoC h x
theorem Sl.getC1 {w : World} {a : Option Addr} {l : List CellD} (h : SlC w a l) (j : Nat) (hj : j < l.length) : Cell w (bk a) (of' a + j * 6 + 1) (.int .i64 (gc l j).w) := (h.el j _ (gc_get hj)) 1 _ rfl

/-! ## Worlds in which only some blocks have turned -/
structure ExtB (bs : List Nat) (w w' : World) : Prop where
  os : w'.os = w.os
  tape : w'.tape = w.tape
  output : w'.output = w.output
  size : w.heap.size ≤ w'.heap.size
  block : ∀ k, k < w.heap.size → k ∉ bs → w'.heap[k]? = w.heap[k]?
theorem ExtB.refl {bs : List Nat} {w : World} : ExtB bs w w := ⟨rfl, rfl, rfl, Nat.le_refl _, fun _ _ _ => rfl⟩
theorem Ext.toB {bs : List Nat} {w w' : World} (h : Ext w w') : ExtB bs w w' := ⟨h.os, h.tape, h.output, h.size, fun k hk _ => h.block k hk⟩
theorem grown_toB {bs : List Nat} {w w' : World} {b : Nat} (h : w.grownBy w' (some b)) (hb : b ∈ bs) : ExtB bs w w' :=
  ⟨h.os, h.tape, h.output, h.size, fun k hk hn => h.block k hk fun heq => hn (by injection heq with heq; rw [heq]; exact hb)⟩
theorem ExtB.trans {bs : List Nat} {a b c : World} (h : ExtB bs a b) (k : ExtB bs b c) : ExtB bs a c :=
  ⟨k.os.trans h.os, k.tape.trans h.tape, k.output.trans h.output, Nat.le_trans h.size k.size, fun i hi hn => (k.block i (Nat.lt_of_lt_of_le hi h.size) hn).trans (h.block i hi hn)⟩
theorem ExtB.mono {bs cs : List Nat} {a b : World} (h : ExtB bs a b) (hs : ∀ x, x ∈ bs → x ∈ cs) : ExtB cs a b := ⟨h.os, h.tape, h.output, h.size, fun k hk hn => h.block k hk fun hm => hn (hs k hm)⟩
/-- Only what is new has turned. -/
theorem ExtB.from {bs : List Nat} {a w w' : World} (h : Ext a w) (k : ExtB bs w w') (hb : ∀ b, b ∈ bs → a.heap.size ≤ b) : Ext a w' :=
  ⟨k.os.trans h.os, k.tape.trans h.tape, k.output.trans h.output, Nat.le_trans h.size k.size, fun i hi => (k.block i (Nat.lt_of_lt_of_le hi h.size) fun hm => by have := hb i hm; omega).trans (h.block i hi)⟩
theorem ExtB.nil {a b : World} (h : ExtB [] a b) : Ext a b := ⟨h.os, h.tape, h.output, h.size, fun k hk => h.block k hk (by simp)⟩
theorem Blk.extB {bs : List Nat} {w w' : World} {b : Nat} {T : TypeId} {cs : List Value} (h : Blk w b T cs) (x : ExtB bs w w') (hn : b ∉ bs) : Blk w' b T cs := (x.block b h.lt hn).trans h
theorem Cell.extB {bs : List Nat} {w w' : World} {b o : Nat} {v : Value} (h : Cell w b o v) (x : ExtB bs w w') (hn : b ∉ bs) : Cell w' b o v := by
  unfold Cell at *; rw [World.cell?_of_block (w := w) (x.block _ (cell_lt h) hn)]; exact h
theorem ownExt {w w' : World} {base : Nat} {e : TypeId} {size : Nat} {v : Value} {n : Nat} {xs : List Value} (h : w.ownsRow base e size v n xs) (x : Ext w w') : w'.ownsRow base e size v n xs :=
  h.kept (ext_grown x none) (by cases v.ownBlock <;> simp)
theorem own_ne {w : World} {base : Nat} {e T : TypeId} {size : Nat} {v : Value} {n b : Nat} {xs cs : List Value} (h : w.ownsRow base e size v n xs) (hb : Blk w b T cs) (hT : T ≠ e) : v.ownBlock ≠ some b := by
  intro heq;rcases h.2 with ⟨rfl, _⟩ | ⟨g, cap, cur, rfl, _, hg, _⟩
  · simp [Value.ownBlock] at heq
  · simp [Value.ownBlock] at heq;subst heq;rw [show w.heap[g]? = _ from hb] at hg;injection hg with hg;injection hg with _ hg _;exact hT hg
/-- What the call owns, as a slice of integers. -/
theorem own_sli {w : World} {base : Nat} {e : TypeId} {v : Value} {n : Nat} {l : List Int} (hl : l.length ≤ 140737488355328) (h : w.ownsRow base e 1 v n (l.map (Value.int .i64))) : ∃ a c, v = .slice a l.length c ∧ SlI w a l ∧ n = l.length := by
  have hn : n = l.length := (by have := h.1; simp at this; omega);subst hn;rcases h.2 with ⟨rfl, h0⟩ | ⟨g, cap, cur, rfl, hb, hg, hc, hm, hs, ht⟩
  · have : l = [] := List.eq_nil_of_length_eq_zero h0;subst this;exact ⟨none, 0, rfl, Sl.nil, rfl⟩
  · refine ⟨_, _, rfl, ⟨fun i hi => rfl, fun i x hx => ?_, hl⟩, rfl⟩;have := h.cells (g := g) rfl i (.int .i64 x) (by simp [hx]);rw [addr_add] at this
    simpa [bk, of', EI, Cell] using this
/-- A slice that is new since 'base', or empty: n elements, the cells xs. -/
def New (T size base : Nat) (w : World) (v : Value) (n : Nat) (xs : List Value) : Prop :=
  (n = 0 ∧ xs = [] ∧ ∃ a c, v = .slice a 0 c) ∨ (0 < n ∧ w.ownsRow base T size v n xs)
theorem New.own {T size base : Nat} {w : World} {v : Value} {n : Nat} {xs : List Value} (h : w.ownsRow base T size v n xs) : New T size base w v n xs := by
  rcases Nat.eq_zero_or_pos n with h0 | h0
  · subst h0;refine .inl ⟨rfl, List.eq_nil_of_length_eq_zero (by simpa using h.1), ?_⟩;rcases h.2 with ⟨rfl, _⟩ | ⟨g, cap, cur, rfl, _⟩
    · exact ⟨none, 0, rfl⟩
    · exact ⟨_, _, rfl⟩
  · exact .inr ⟨h0, h⟩
theorem New.ext {T size base : Nat} {w w' : World} {v : Value} {n : Nat} {xs : List Value} (h : New T size base w v n xs) (x : Ext w w') : New T size base w' v n xs := by
  rcases h with h | ⟨h0, h⟩
  · exact .inl h
  · exact .inr ⟨h0, ownExt h x⟩
theorem New.base {T size base base' : Nat} {w : World} {v : Value} {n : Nat} {xs : List Value} (h : New T size base w v n xs) (hb : base' ≤ base) : New T size base' w v n xs := by
  rcases h with h | ⟨h0, h1, h2⟩
  · exact .inl h
  · refine .inr ⟨h0, h1, ?_⟩;rcases h2 with h2 | ⟨g, cap, cur, h3, h4, h5⟩
    · exact .inl h2
    · exact .inr ⟨g, cap, cur, h3, by omega, h5⟩
/-- A store into a block of another element type. -/
theorem New.kept {T T' size base b : Nat} {w w' : World} {v : Value} {n : Nat} {xs cs : List Value} (h : New T size base w v n xs) (hg : w.grownBy w' (some b)) (hb : Blk w b T' cs) (hT : T' ≠ T) : New T size base w' v n xs := by
  rcases h with h | ⟨h0, h⟩
  · exact .inl h
  · exact .inr ⟨h0, h.kept hg (.inr (own_ne h hb hT))⟩
theorem New.sli {T base : Nat} {w : World} {v : Value} {n : Nat} {l : List Int} (hl : l.length ≤ 140737488355328) (h : New T 1 base w v n (l.map (Value.int .i64))) : ∃ a c, v = .slice a l.length c ∧ SlI w a l := by
  rcases h with ⟨h0, h1, a, c, rfl⟩ | ⟨h0, h⟩
  · have : l = [] := (by simpa using h1);subst this; exact ⟨a, c, rfl, Sl.nil⟩
  · obtain ⟨a, c, h1, h2, _⟩ := own_sli hl h;exact ⟨a, c, h1, h2⟩
abbrev NewI (base : Nat) (w : World) (v : Value) (l : List Int) : Prop := New 3 1 base w v l.length (l.map (Value.int .i64))
end Go.V
