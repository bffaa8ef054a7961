/- The abstract values of the engine, what it means that a concrete value represents one, and the invariant of a run.
   The invariant under growth, under a new value in a slot, and the counting of the rights to append.
   Operations that neither write nor make memory: what they answer on abstract values, and that the machine's own answer represents it.
   The machine's answer represents the abstract one: operations that leave the world alone. -/
import Derived.LoopN
import Derived.Scope
import Derived.RowKit3
import Derived.Laws.Entries
import Derived.Lib.Bytes
 section
set_option linter.unusedVariables false
set_option linter.unusedSimpArgs false
set_option linter.unusedSectionVars false
namespace Go.Eng

inductive AV where
  | int (k : IntKind) (n : Int)
  | bool (b : Bool)
  | str (s : List UInt8)
  | sl (own : Bool) (z : Nat) (xs : List AV)
  | ptr (b o : Nat)
  | nilp
  | pel (cs : List AV)
  | fn (f : FuncId) (caps : List AV)
  | nilfn
  | iface (t : TypeId) (v : AV)
  | nili
  | agg (cs : List AV)
  | tup (vs : List AV)
  | junk
  | bld (t e : TypeId)
 deriving Inhabited

abbrev Env := List AV
abbrev Mem := List (List AV)

def AV.cells : AV → List AV
  | .agg cs => cs
  | d => [d]

def flat (xs : List AV) : List AV := xs.flatMap AV.cells

/-! ### Pointers to variables of a call that has ended -/
 mutual
def AV.scrub (k : Nat) : AV → AV
  | .ptr b o => if b < k then .ptr b o else .junk
  | .sl o z xs => .sl o z xs
  | .pel cs => .pel (scrubL k cs)
  | .fn f cs => .fn f (scrubL k cs)
  | .iface t d => .iface t (d.scrub k)
  | .agg cs => .agg (scrubL k cs)
  | .tup ds => .tup (scrubL k ds)
  | .int q n => .int q n
  | .bool b => .bool b
  | .str s => .str s
  | .nilp => .nilp
  | .nilfn => .nilfn
  | .nili => .nili
  | .junk => .junk
  | .bld t e => .bld t e
def scrubL (k : Nat) : List AV → List AV
  | [] => []
  | d :: ds => d.scrub k :: scrubL k ds
 end
/-! ### No pointer to a variable in it; what lies in slices has none -/
 mutual
def AV.noPtr : AV → Bool
  | .ptr _ _ => false
  | .pel cs => noPtrL cs
  | .fn _ cs => noPtrL cs
  | .iface _ d => d.noPtr
  | .agg cs => noPtrL cs
  | .tup ds => noPtrL ds
  | .sl _ _ _ => true
  | .int _ _ => true
  | .bool _ => true
  | .str _ => true
  | .nilp => true
  | .nilfn => true
  | .nili => true
  | .junk => true
  | .bld _ _ => true
def noPtrL : List AV → Bool
  | [] => true
  | d :: ds => d.noPtr && noPtrL ds
 end
theorem noPtrL_get : ∀ {ds : List AV} {i : Nat} {d : AV}, noPtrL ds = true → ds[i]? = some d → d.noPtr = true
  | [], i, d, h, a => by simp at a
  | e :: ds, 0, d, h, a => by simp only [noPtrL, Bool.and_eq_true] at h; simp at a; subst a; exact h.1
  | e :: ds, i + 1, d, h, a => by simp only [noPtrL, Bool.and_eq_true] at h; exact noPtrL_get h.2 (by simpa using a)
/-- Without any right to append. -/
def AV.plain1 : AV → AV
  | .sl _ z xs => .sl false z xs
  | d => d
def AV.plain2 : AV → AV
  | .agg cs => .agg (cs.map AV.plain1)
  | d => d.plain1
def AV.plain : AV → AV
  | .tup ds => .tup (ds.map AV.plain2)
  | d => d.plain2

abbrev Pers := Nat → Nat → Option Value

def Holds (pers : Pers) (ad : Addr) (vs : List Value) : Prop :=
  ad.spot = none ∧ ∀ (i : Nat) v, vs[i]? = some v → pers ad.block (ad.off + i) = some v

def oneCell : Value → Bool
  | .agg _ | .tuple _ => false
  | _ => true

inductive Rep (pers : Pers) : List Nat → Value → AV → Prop
  | int {bl : List Nat} (k n) : Rep pers bl (.int k n) (.int k n)
  | bool {bl : List Nat} (b) : Rep pers bl (.bool b) (.bool b)
  | str {bl : List Nat} (l) : Rep pers bl (.string ⟨⟨l⟩⟩) (.str l)
  | sl {bl : List Nat} (a : Option Addr) (n c : Nat) (own : Bool) (z : Nat) (xs : List AV) (vs : List Value)
      (hz : ∀ x ∈ xs, x.cells.length = z) (hn : n = xs.length) (hc : n ≤ c) (hvs : vs.length = n * z)
      (ha : vs = [] ∨ ∃ ad, a = some ad ∧ Holds pers ad vs)
      (hs : own = true ∨ c ≠ 0 → ∀ ad, a = some ad → ad.spot = none) (h0 : a = none → c = 0) (h1 : ∀ v ∈ vs, oneCell v = true) (h2 : z = 0 → a = none)
      (hr : ∀ (i : Nat) v d, vs[i]? = some v → (flat xs)[i]? = some d → Rep pers [] v d) : Rep pers bl (.slice a n c) (.sl own z xs)
  | ptr {bl : List Nat} (b o blk : Nat) (hb : bl[b]? = some blk) : Rep pers bl (.pointer (some ⟨blk, o, none⟩)) (.ptr b o)
  | nilp {bl : List Nat} : Rep pers bl (.pointer none) .nilp
  | pel {bl : List Nat} (ad : Addr) (vs : List Value) (cs : List AV) (hl : vs.length = cs.length) (hh : Holds pers ad vs)
      (hr : ∀ (i : Nat) v d, vs[i]? = some v → cs[i]? = some d → Rep pers bl v d) : Rep pers bl (.pointer (some ad)) (.pel cs)
  | fn {bl : List Nat} (f : FuncId) (vs : List Value) (caps : List AV) (hl : vs.length = caps.length)
      (hr : ∀ (i : Nat) v d, vs[i]? = some v → caps[i]? = some d → Rep pers bl v d) : Rep pers bl (.func (.func f) #[] ⟨vs⟩) (.fn f caps)
  | nilfn {bl : List Nat} : Rep pers bl .nilFunc .nilfn
  | iface {bl : List Nat} (t : TypeId) (v : Value) (d : AV) (h : Rep pers bl v d) : Rep pers bl (.iface t v) (.iface t d)
  | nili {bl : List Nat} : Rep pers bl .nilIface .nili
  | agg {bl : List Nat} (vs : List Value) (cs : List AV) (hl : vs.length = cs.length)
      (hr : ∀ (i : Nat) v d, vs[i]? = some v → cs[i]? = some d → Rep pers bl v d) : Rep pers bl (.agg ⟨vs⟩) (.agg cs)
  | tup {bl : List Nat} (vs : List Value) (cs : List AV) (hl : vs.length = cs.length)
      (hr : ∀ (i : Nat) v d, vs[i]? = some v → cs[i]? = some d → Rep pers bl v d) : Rep pers bl (.tuple ⟨vs⟩) (.tup cs)
  | junk {bl : List Nat} (v : Value) : Rep pers bl v .junk
  | bld {bl : List Nat} (v : Value) (t e : TypeId) : Rep pers bl v (.bld t e)

def RepL (pers : Pers) (bl : List Nat) (vs : List Value) (ds : List AV) : Prop :=
  vs.length = ds.length ∧ ∀ (i : Nat) v d, vs[i]? = some v → ds[i]? = some d → Rep pers bl v d

theorem Rep.mono {p p' : Pers} {bl bl' : List Nat} (hp : ∀ b o v, p b o = some v → p' b o = some v) (hb : bl <+: bl') {v : Value} {d : AV} (h : Rep p bl v d) : Rep p' bl' v d := by
  have hh : ∀ ad vs, Holds p ad vs → Holds p' ad vs := fun ad vs h => ⟨h.1, fun i v hv => hp _ _ _ (h.2 i v hv)⟩
  induction h generalizing bl' with
  | int => exact .int ..
  | bool => exact .bool ..
  | str => exact .str ..
  | sl a n c own z xs vs hz hn hc hvs ha hs h0 h1 h2 hr ih =>
    exact .sl a n c own z xs vs hz hn hc hvs (ha.imp id fun ⟨ad, e, q⟩ => ⟨ad, e, hh _ _ q⟩) hs h0 h1 h2 fun i v d a b => ih i v d a b (List.prefix_refl _)
  | ptr b o blk hb' =>
    refine .ptr b o blk ?_
    obtain ⟨t, rfl⟩ := hb
    rename_i bl0
    have hlt : b < bl0.length := by
      rcases Nat.lt_or_ge b bl0.length with h | h
      · exact h
      · rw [List.getElem?_eq_none h] at hb'; cases hb'
    rw [List.getElem?_append_left hlt]; exact hb'
  | nilp => exact .nilp
  | pel ad vs cs hl h hr ih => exact .pel ad vs cs hl (hh _ _ h) fun i v d a b => ih i v d a b hb
  | fn f vs caps hl hr ih => exact .fn f vs caps hl fun i v d a b => ih i v d a b hb
  | nilfn => exact .nilfn
  | iface t v d h ih => exact .iface t v d (ih hb)
  | nili => exact .nili
  | agg vs cs hl hr ih => exact .agg vs cs hl fun i v d a b => ih i v d a b hb
  | tup vs cs hl hr ih => exact .tup vs cs hl fun i v d a b => ih i v d a b hb
  | junk => exact .junk _
  | bld => exact .bld ..

theorem Rep.free {p : Pers} {bl bl' : List Nat} {v : Value} {d : AV} (h : Rep p bl v d) (hnp : d.noPtr = true) : Rep p bl' v d := by
  induction h generalizing bl' with
  | int => exact .int ..
  | bool => exact .bool ..
  | str => exact .str ..
  | sl a n c own z xs vs hz hn hc hvs ha hs h0 h1 h2 hr ih => exact .sl a n c own z xs vs hz hn hc hvs ha hs h0 h1 h2 hr
  | ptr b o blk hb' => cases hnp
  | nilp => exact .nilp
  | pel ad vs cs hl h hr ih => exact .pel ad vs cs hl h fun i v d a b => ih i v d a b (noPtrL_get hnp b)
  | fn f vs caps hl hr ih => exact .fn f vs caps hl fun i v d a b => ih i v d a b (noPtrL_get hnp b)
  | nilfn => exact .nilfn
  | iface t v d h ih => exact .iface t v d (ih hnp)
  | nili => exact .nili
  | agg vs cs hl hr ih => exact .agg vs cs hl fun i v d a b => ih i v d a b (noPtrL_get hnp b)
  | tup vs cs hl hr ih => exact .tup vs cs hl fun i v d a b => ih i v d a b (noPtrL_get hnp b)
  | junk => exact .junk _
  | bld => exact .bld ..

theorem noPtr_plain1 {d : AV} (h : d.noPtr = true) : d.plain1.noPtr = true := by cases d <;> exact h
theorem noPtrL_map1 : ∀ {ds : List AV}, noPtrL ds = true → noPtrL (ds.map AV.plain1) = true
  | [], h => rfl
  | d :: ds, h => by
    simp only [noPtrL, Bool.and_eq_true] at h
    simp only [List.map_cons, noPtrL, Bool.and_eq_true]
    exact ⟨noPtr_plain1 h.1, noPtrL_map1 h.2⟩
theorem noPtr_plain2 {d : AV} (h : d.noPtr = true) : d.plain2.noPtr = true := by
  cases d <;> first | exact h | exact noPtrL_map1 h
theorem noPtrL_map2 : ∀ {ds : List AV}, noPtrL ds = true → noPtrL (ds.map AV.plain2) = true
  | [], h => rfl
  | d :: ds, h => by
    simp only [noPtrL, Bool.and_eq_true] at h
    simp only [List.map_cons, noPtrL, Bool.and_eq_true]
    exact ⟨noPtr_plain2 h.1, noPtrL_map2 h.2⟩
theorem noPtr_plain {d : AV} (h : d.noPtr = true) : d.plain.noPtr = true := by
  cases d <;> first | exact h | exact noPtr_plain2 (d := .agg _) h | exact noPtrL_map2 h
theorem noPtr_cells {d : AV} (h : d.noPtr = true) : noPtrL d.cells = true := by
  cases d <;> first | exact h | simp [AV.cells, noPtrL, h]

theorem Rep.plain1 {p : Pers} {bl : List Nat} {v : Value} {d : AV} (h : Rep p bl v d) : Rep p bl v d.plain1 := by
  cases h with
  | sl a n c own z xs vs hz hn hc hvs ha hs h0 h1 h2 hr => exact .sl a n c false z xs vs hz hn hc hvs ha (fun hh => hs (hh.elim (fun e => by cases e) .inr)) h0 h1 h2 hr
  | _ => constructor <;> assumption

theorem getElem?_map_some {α β : Type} {f : α → β} {l : List α} {i : Nat} {y : β} (h : (l.map f)[i]? = some y) : ∃ x, l[i]? = some x ∧ f x = y := by
  rw [List.getElem?_map] at h
  cases hx : l[i]? with
  | none => rw [hx] at h; cases h
  | some x => rw [hx] at h; exact ⟨x, rfl, by simpa using h⟩

theorem Rep.plain2 {p : Pers} {bl : List Nat} {v : Value} {d : AV} (h : Rep p bl v d) : Rep p bl v d.plain2 := by
  cases h with
  | agg vs cs hl hr =>
    refine .agg vs _ (by simpa using hl) fun i v d hv hd => ?_
    obtain ⟨x, hx, rfl⟩ := getElem?_map_some hd
    exact (hr i v x hv hx).plain1
  | sl a n c own z xs vs hz hn hc hvs ha hs h0 h1 h2 hr => exact (Rep.sl a n c own z xs vs hz hn hc hvs ha hs h0 h1 h2 hr).plain1
  | _ => constructor <;> assumption

theorem Rep.plain {p : Pers} {bl : List Nat} {v : Value} {d : AV} (h : Rep p bl v d) : Rep p bl v d.plain := by
  cases h with
  | tup vs cs hl hr =>
    refine .tup vs _ (by simpa using hl) fun i v d hv hd => ?_
    obtain ⟨x, hx, rfl⟩ := getElem?_map_some hd
    exact (hr i v x hv hx).plain2
  | agg vs cs hl hr => exact (Rep.agg vs cs hl hr).plain2
  | sl a n c own z xs vs hz hn hc hvs ha hs h0 h1 h2 hr => exact (Rep.sl a n c own z xs vs hz hn hc hvs ha hs h0 h1 h2 hr).plain1
  | _ => constructor <;> assumption

/-! ### The rights to append, and where they lie -/
abbrev Leaf := Value × AV
def leaves2 : Value → AV → List Leaf
  | .agg vs, .agg ds => vs.toList.zip ds
  | v, d => [(v, d)]
def leaves : Value → AV → List Leaf
  | .tuple vs, .tup ds => (vs.toList.zip ds).flatMap fun x => leaves2 x.1 x.2
  | v, d => leaves2 v d
def own1 : Leaf → List Nat
  | (.slice (some a) _ _, .sl true _ _) => [a.block]
  | _ => []
def own (v : Value) (d : AV) : List Nat := (leaves v d).flatMap own1
def ownL (vs : List Value) (ds : List AV) : List Nat := (vs.zip ds).flatMap fun x => own x.1 x.2

def TailAt (w : World) (pers : Pers) (ad : Addr) (n c z : Nat) : Prop :=
  ∃ cells e fz, w.heap[ad.block]? = some (.cells cells e fz) ∧ ad.off + c * z ≤ cells.size ∧
    ∀ o, ad.off + n * z ≤ o → o < ad.off + c * z → pers ad.block o = none ∧ ¬ (fz.1 ≤ o ∧ o < fz.2)
def Tail (w : World) (pers : Pers) : Leaf → Prop
  | (.slice (some ad) n c, .sl true z _) => TailAt w pers ad n c z
  | _ => True
def OwnOk (w : World) (pers : Pers) (v : Value) (d : AV) : Prop := ∀ x ∈ leaves v d, Tail w pers x

structure Gh where
  pers : Pers
  bl : List Nat
  mv : List (List Value)

def nofreeze (fz : Nat × Nat) (n : Nat) : Prop := ∀ o, o < n → ¬ (fz.1 ≤ o ∧ o < fz.2)

/-- A strings.Builder's variable: its first cell is nil or its own address; its row, where it may grow, is one of bytes. -/
def BldOk (w : World) (b : Nat) (vs : List Value) (ds : List AV) : Prop :=
  ∀ (j : Nat) t e, ds[j]? = some (.bld t e) → j = 0 ∧ w.shape? b = some (t, 2) ∧ ∃ p v o z xs, vs = [p, v] ∧ ds = [.bld t e, .sl o z xs] ∧ (p = .pointer none ∨ p = .pointer (some ⟨b, 0, none⟩)) ∧
    ∀ ad n c, v = .slice (some ad) n c → o = true → ad.off = 0 ∧ c ≠ 0 ∧ ∃ C fz, w.heap[ad.block]? = some (.cells C e fz)

structure MemAt (g : Gh) (w : World) (b : Nat) (vs : List Value) (ds : List AV) : Prop where
  obj : ∃ e fz, w.heap[b]? = some (.cells ⟨vs⟩ e fz) ∧ nofreeze fz vs.length
  free : ∀ o, g.pers b o = none
  rep : RepL g.pers g.bl vs ds
  own : ∀ (j : Nat) v d, vs[j]? = some v → ds[j]? = some d → OwnOk w g.pers v d
  bld : BldOk w b vs ds

def ownM (mv : List (List Value)) (mem : Mem) : List Nat := (mv.zip mem).flatMap fun x => ownL x.1 x.2

def claims (g : Gh) (vals : List Value) (env : Env) (mem : Mem) : List Nat := g.bl ++ (ownL vals env ++ ownM g.mv mem)

structure Inv (g : Gh) (w : World) (vals : List Value) (env : Env) (mem : Mem) (fr : List Nat) : Prop where
  envRep : RepL g.pers g.bl vals env
  envOwn : ∀ (i : Nat) v d, vals[i]? = some v → env[i]? = some d → OwnOk w g.pers v d
  blLen : g.bl.length = mem.length
  mvLen : g.mv.length = mem.length
  persOk : ∀ b o v, g.pers b o = some v → w.cell? ⟨b, o, none⟩ = some v
  memOk : ∀ (i : Nat) b vs ds, g.bl[i]? = some b → g.mv[i]? = some vs → mem[i]? = some ds → MemAt g w b vs ds
  nd : (claims g vals env mem ++ fr).Nodup
  frLt : ∀ t ∈ fr, t < w.heap.size
  memPtr : ∀ (i : Nat) ds, mem[i]? = some ds → scrubL (i + 1) ds = ds

/-- From one state to a later one: 'A' may have changed. -/
structure Ext (A : List Nat) (g : Gh) (w : World) (g' : Gh) (w' : World) : Prop where
  os : w'.os = w.os
  tape : w'.tape = w.tape
  output : w'.output = w.output
  size : w.heap.size ≤ w'.heap.size
  pers : ∀ b o v, g.pers b o = some v → g'.pers b o = some v
  bl : g.bl <+: g'.bl
  same : ∀ b, b < w.heap.size → b ∉ A → w'.heap[b]? = w.heap[b]? ∧ ∀ o, g'.pers b o = g.pers b o

structure Goes (A : List Nat) (g : Gh) (w : World) (A' : List Nat) (g' : Gh) (w' : World) : Prop where
  ext : Ext A g w g' w'
  sub : ∀ b ∈ A', b ∈ A ∨ w.heap.size ≤ b

theorem Ext.refl (A : List Nat) (g : Gh) (w : World) : Ext A g w g w := ⟨rfl, rfl, rfl, Nat.le_refl _, fun _ _ _ h => h, List.prefix_refl _, fun _ _ _ => ⟨rfl, fun _ => rfl⟩⟩
theorem Goes.refl (A : List Nat) (g : Gh) (w : World) : Goes A g w A g w := ⟨.refl A g w, fun _ h => .inl h⟩

theorem Goes.trans {A A1 A2 : List Nat} {g g1 g2 : Gh} {w w1 w2 : World} (h : Goes A g w A1 g1 w1) (k : Goes A1 g1 w1 A2 g2 w2) : Goes A g w A2 g2 w2 := by
  refine ⟨⟨k.ext.os.trans h.ext.os, k.ext.tape.trans h.ext.tape, k.ext.output.trans h.ext.output, Nat.le_trans h.ext.size k.ext.size, fun b o v q => k.ext.pers _ _ _ (h.ext.pers _ _ _ q), h.ext.bl.trans k.ext.bl, fun b hb hA => ?_⟩, fun b hb => ?_⟩
  · have h1 := h.ext.same b hb hA
    have hA1 : b ∉ A1 := fun hm => by
      rcases h.sub b hm with h2 | h2
      · exact hA h2
      · omega
    have h2 := k.ext.same b (Nat.lt_of_lt_of_le hb h.ext.size) hA1
    exact ⟨h2.1.trans h1.1, fun o => (h2.2 o).trans (h1.2 o)⟩
  · rcases k.sub b hb with h1 | h1
    · exact h.sub b h1
    · exact .inr (Nat.le_trans h.ext.size h1)

end Go.Eng
 end

 section
set_option linter.unusedVariables false
set_option linter.unusedSimpArgs false
namespace Go.Eng

theorem count_flatMap_set {α : Type} (f : α → List Nat) (t : Nat) : ∀ (l : List α) (i : Nat) (x y : α), l[i]? = some y →
    ((l.set i x).flatMap f).count t + (f y).count t = (l.flatMap f).count t + (f x).count t
  | [], i, x, y, h => by simp at h
  | a :: l, 0, x, y, h => by
    simp at h; subst h
    simp [List.count_append]; omega
  | a :: l, i + 1, x, y, h => by
    have := count_flatMap_set f t l i x y (by simpa using h)
    simp [List.count_append]; omega

theorem set_of_none {α : Type} {l : List α} {i : Nat} (h : l[i]? = none) (x : α) : l.set i x = l := by
  rw [List.set_eq_of_length_le]; simpa using h

theorem zip_set {α β : Type} : ∀ (l : List α) (m : List β) (i : Nat) (x : α) (y : β), (l.set i x).zip (m.set i y) = (l.zip m).set i (x, y)
  | [], m, i, x, y => by simp
  | a :: l, [], i, x, y => by cases i <;> simp
  | a :: l, b :: m, 0, x, y => by simp
  | a :: l, b :: m, i + 1, x, y => by simp [zip_set l m i x y]

theorem zip_get {α β : Type} {l : List α} {m : List β} {i : Nat} {x : α} {y : β} (h : l[i]? = some x) (k : m[i]? = some y) : (l.zip m)[i]? = some (x, y) := by
  rw [List.getElem?_zip_eq_some]; exact ⟨h, k⟩

theorem get_of_len {α β : Type} {l : List α} {m : List β} (h : l.length = m.length) {i : Nat} {y : β} (k : m[i]? = some y) : ∃ x, l[i]? = some x := by
  have : i < m.length := by
    rcases Nat.lt_or_ge i m.length with q | q
    · exact q
    · rw [List.getElem?_eq_none q] at k; cases k
  exact ⟨l[i]'(by omega), List.getElem?_eq_getElem _⟩

theorem lt_of_get {α : Type} {l : List α} {i : Nat} {y : α} (k : l[i]? = some y) : i < l.length := by
  rcases Nat.lt_or_ge i l.length with q | q
  · exact q
  · rw [List.getElem?_eq_none q] at k; cases k

theorem get_set {α : Type} {l : List α} {i j : Nat} {x y : α} (h : (l.set i x)[j]? = some y) : (j = i ∧ y = x) ∨ l[j]? = some y := by
  rw [List.getElem?_set] at h
  split at h
  · rename_i e
    split at h
    · left; exact ⟨e.symm, by simpa using h.symm⟩
    · cases h
  · exact .inr h

/-! ### Values without a right -/
theorem own1_plain (v : Value) (d : AV) : own1 (v, d.plain1) = [] := by
  cases d <;> cases v <;> first | rfl | (rename_i a _ _; cases a <;> rfl) | skip
theorem own1_nosl {v : Value} {d : AV} (h : ∀ z xs, d ≠ .sl true z xs) : own1 (v, d) = [] := by
  unfold own1; split
  · rename_i a n c z xs heq; cases heq; exact absurd rfl (h z xs)
  · rfl

theorem leaves_plain1 {v : Value} {d : AV} : ∀ x ∈ leaves2 v d.plain2, ∀ z xs, x.2 ≠ .sl true z xs := by
  intro x hx z xs
  cases d with
  | agg cs =>
    cases v with
    | agg vs =>
      simp only [AV.plain2, leaves2] at hx
      obtain ⟨hx1, hx2⟩ := List.of_mem_zip (show (x.1, x.2) ∈ _ from hx)
      obtain ⟨y, _, hy⟩ := List.mem_map.1 hx2
      intro e; rw [e] at hy; cases y <;> simp [AV.plain1] at hy
    | _ => simp [AV.plain2, leaves2] at hx; subst hx; simp
  | sl o z' xs' => cases v <;> simp [AV.plain2, AV.plain1, leaves2] at hx <;> subst hx <;> simp
  | _ => cases v <;> simp [AV.plain2, AV.plain1, leaves2] at hx <;> subst hx <;> simp

theorem leaves_plain {v : Value} {d : AV} : ∀ x ∈ leaves v d.plain, ∀ z xs, x.2 ≠ .sl true z xs := by
  intro x hx
  cases d with
  | tup ds =>
    cases v with
    | tuple vs =>
      simp only [AV.plain, leaves, List.mem_flatMap] at hx
      obtain ⟨y, hy, hx⟩ := hx
      obtain ⟨_, hy2⟩ := List.of_mem_zip (show (y.1, y.2) ∈ _ from hy)
      obtain ⟨u, _, hu⟩ := List.mem_map.1 hy2
      rw [← hu] at hx
      exact leaves_plain1 x hx
    | _ => simp [AV.plain, leaves, leaves2] at hx; subst hx; simp
  | int k n => exact leaves_plain1 (v := v) (d := .int k n) x (by cases v <;> exact hx)
  | bool b => exact leaves_plain1 (v := v) (d := .bool b) x (by cases v <;> exact hx)
  | str s => exact leaves_plain1 (v := v) (d := .str s) x (by cases v <;> exact hx)
  | sl o z xs => exact leaves_plain1 (v := v) (d := .sl o z xs) x (by cases v <;> exact hx)
  | ptr b o => exact leaves_plain1 (v := v) (d := .ptr b o) x (by cases v <;> exact hx)
  | nilp => exact leaves_plain1 (v := v) (d := .nilp) x (by cases v <;> exact hx)
  | pel cs => exact leaves_plain1 (v := v) (d := .pel cs) x (by cases v <;> exact hx)
  | fn f cs => exact leaves_plain1 (v := v) (d := .fn f cs) x (by cases v <;> exact hx)
  | nilfn => exact leaves_plain1 (v := v) (d := .nilfn) x (by cases v <;> exact hx)
  | iface t d => exact leaves_plain1 (v := v) (d := .iface t d) x (by cases v <;> exact hx)
  | nili => exact leaves_plain1 (v := v) (d := .nili) x (by cases v <;> exact hx)
  | agg cs => exact leaves_plain1 (v := v) (d := .agg cs) x (by cases v <;> exact hx)
  | junk => exact leaves_plain1 (v := v) (d := .junk) x (by cases v <;> exact hx)
  | bld t e => exact leaves_plain1 (v := v) (d := .bld t e) x (by cases v <;> exact hx)

theorem noSl_own {v : Value} {d : AV} (h : ∀ x ∈ leaves v d, ∀ z xs, x.2 ≠ .sl true z xs) : own v d = [] := by
  unfold own
  rw [List.flatMap_eq_nil_iff]
  intro x hx
  exact own1_nosl (v := x.1) (d := x.2) (h x hx)
theorem noSl_ok {w : World} {p : Pers} {v : Value} {d : AV} (h : ∀ x ∈ leaves v d, ∀ z xs, x.2 ≠ .sl true z xs) : OwnOk w p v d := by
  intro x hx
  unfold Tail; split
  · exact absurd rfl (h _ hx _ _)
  · trivial
theorem own_plain (v : Value) (d : AV) : own v d.plain = [] := noSl_own leaves_plain
theorem ok_plain (w : World) (p : Pers) (v : Value) (d : AV) : OwnOk w p v d.plain := noSl_ok leaves_plain

/-- A value all of whose leaves are without a right: by sight. -/
def AV.noOwn1 : AV → Bool
  | .sl o _ _ => !o
  | _ => true
def AV.noOwn2 : AV → Bool
  | .agg cs => cs.all AV.noOwn1
  | d => d.noOwn1
def AV.noOwn : AV → Bool
  | .tup ds => ds.all AV.noOwn2
  | d => d.noOwn2
theorem noOwn1_ne {d : AV} (h : d.noOwn1 = true) : ∀ z xs, d ≠ .sl true z xs := by rintro z xs rfl; simp [AV.noOwn1] at h
theorem noOwn2_leaves {v : Value} {d : AV} (h : d.noOwn2 = true) : ∀ x ∈ leaves2 v d, ∀ z xs, x.2 ≠ .sl true z xs := by
  intro x hx
  cases d with
  | agg cs =>
    cases v with
    | agg vs =>
      obtain ⟨_, h2⟩ := List.of_mem_zip (show (x.1, x.2) ∈ _ from hx)
      exact noOwn1_ne (by simp only [AV.noOwn2, List.all_eq_true] at h; exact h _ h2)
    | _ => simp [leaves2] at hx; subst hx; simp
  | sl o z xs => cases v <;> simp [leaves2] at hx <;> subst hx <;> exact noOwn1_ne (by simpa [AV.noOwn2] using h)
  | _ => cases v <;> simp [leaves2] at hx <;> subst hx <;> simp
theorem noOwn_leaves {v : Value} {d : AV} (h : d.noOwn = true) : ∀ x ∈ leaves v d, ∀ z xs, x.2 ≠ .sl true z xs := by
  intro x hx
  cases d with
  | tup ds =>
    cases v with
    | tuple vs =>
      simp only [leaves, List.mem_flatMap] at hx
      obtain ⟨y, hy, hx⟩ := hx
      obtain ⟨_, h2⟩ := List.of_mem_zip (show (y.1, y.2) ∈ _ from hy)
      exact noOwn2_leaves (by simp only [AV.noOwn, List.all_eq_true] at h; exact h _ h2) x hx
    | _ => simp [leaves, leaves2] at hx; subst hx; simp
  | _ => exact noOwn2_leaves (v := v) (by simpa [AV.noOwn] using h) x (by cases v <;> exact hx)
theorem noOwn_own {v : Value} {d : AV} (h : d.noOwn = true) : own v d = [] := noSl_own (noOwn_leaves h)
theorem noOwn_ok {w : World} {p : Pers} {v : Value} {d : AV} (h : d.noOwn = true) : OwnOk w p v d := noSl_ok (noOwn_leaves h)

/-! ### Growth: nothing that was there has changed -/
theorem Tail.grow {w w' : World} {p p' : Pers} (hs : ∀ b, b < w.heap.size → w'.heap[b]? = w.heap[b]? ∧ ∀ o, p' b o = p b o) {x : Leaf} (h : Tail w p x) : Tail w' p' x := by
  unfold Tail at *
  split at h
  · obtain ⟨cells, e, fz, h1, h2, h3⟩ := h
    have hb := (Array.getElem?_eq_some_iff.1 h1).1
    obtain ⟨s1, s2⟩ := hs _ hb
    exact ⟨cells, e, fz, s1.trans h1, h2, fun o a b => by rw [s2]; exact h3 o a b⟩
  · trivial
theorem OwnOk.grow {w w' : World} {p p' : Pers} (hs : ∀ b, b < w.heap.size → w'.heap[b]? = w.heap[b]? ∧ ∀ o, p' b o = p b o) {v : Value} {d : AV} (h : OwnOk w p v d) : OwnOk w' p' v d :=
  fun x hx => (h x hx).grow hs

theorem RepL.mono {p p' : Pers} {bl bl' : List Nat} (hp : ∀ b o v, p b o = some v → p' b o = some v) (hb : bl <+: bl') {vs : List Value} {ds : List AV} (h : RepL p bl vs ds) : RepL p' bl' vs ds :=
  ⟨h.1, fun i v d a b => (h.2 i v d a b).mono hp hb⟩

 section
variable {g g' : Gh} {w w' : World} {vals : List Value} {env : Env} {mem : Mem} {fr : List Nat}

theorem Inv.blk_lt (h : Inv g w vals env mem fr) {b : Nat} (hb : b ∈ g.bl) : b < w.heap.size := by
  obtain ⟨i, hi⟩ := List.getElem?_of_mem hb
  have hl := lt_of_get hi
  have hm : mem[i]? = some (mem[i]'(by rw [← h.blLen]; exact hl)) := List.getElem?_eq_getElem _
  have hv : g.mv[i]? = some (g.mv[i]'(by rw [h.mvLen, ← h.blLen]; exact hl)) := List.getElem?_eq_getElem _
  obtain ⟨e, fz, ho, _⟩ := (h.memOk i b _ _ hi hv hm).obj
  exact (Array.getElem?_eq_some_iff.1 ho).1

theorem own_lt {p : Pers} {v : Value} {d : AV} (h : OwnOk w p v d) {t : Nat} (ht : t ∈ own v d) : t < w.heap.size := by
  unfold own at ht
  obtain ⟨x, hx, ht⟩ := List.mem_flatMap.1 ht
  have hk := h x hx
  obtain ⟨xv, xd⟩ := x
  unfold own1 at ht
  split at ht
  · rename_i ad n c z xs heq
    cases heq
    simp only [List.mem_singleton] at ht
    obtain ⟨cells, e, fz, h1, _⟩ := hk
    rw [ht]
    exact (Array.getElem?_eq_some_iff.1 h1).1
  · cases ht

theorem Inv.claims_lt (h : Inv g w vals env mem fr) {b : Nat} (hb : b ∈ claims g vals env mem) : b < w.heap.size := by
  unfold claims ownL ownM at hb
  rcases List.mem_append.1 hb with hb | hb
  · exact h.blk_lt hb
  rcases List.mem_append.1 hb with hb | hb
  · obtain ⟨x, hx, ht⟩ := List.mem_flatMap.1 hb
    obtain ⟨i, hi⟩ := List.getElem?_of_mem hx
    rw [List.getElem?_zip_eq_some] at hi
    exact own_lt (h.envOwn i _ _ hi.1 hi.2) ht
  · obtain ⟨x, hx, ht⟩ := List.mem_flatMap.1 hb
    obtain ⟨i, hi⟩ := List.getElem?_of_mem hx
    rw [List.getElem?_zip_eq_some] at hi
    obtain ⟨b', hb'⟩ := get_of_len h.blLen hi.2
    unfold ownL at ht
    obtain ⟨y, hy, ht⟩ := List.mem_flatMap.1 ht
    obtain ⟨j, hj⟩ := List.getElem?_of_mem hy
    rw [List.getElem?_zip_eq_some] at hj
    exact own_lt ((h.memOk i b' _ _ hb' hi.1 hi.2).own j _ _ hj.1 hj.2) ht

theorem BldOk.keep {w w' : World} {b : Nat} {vs : List Value} {ds : List AV} (h : BldOk w b vs ds) (hk : ∀ t, t = b ∨ t ∈ ownL vs ds → w'.heap[t]? = w.heap[t]?) : BldOk w' b vs ds := by
  intro j t e hj
  obtain ⟨h1, h2, p, v, o, z, xs, rfl, rfl, h3, h4⟩ := h j t e hj
  refine ⟨h1, ?_, p, v, o, z, xs, rfl, rfl, h3, fun ad n c hv ho => ?_⟩
  · unfold World.shape? at *; rw [hk b (.inl rfl)]; exact h2
  · obtain ⟨h0, hc0, C, fz, hC⟩ := h4 ad n c hv ho
    subst hv; subst ho
    refine ⟨h0, hc0, C, fz, (hk ad.block (.inr ?_)).trans hC⟩
    simp [ownL, own, leaves, leaves2, own1]
theorem BldOk.none {w : World} {b : Nat} {vs : List Value} {ds : List AV} (h : ∀ d ∈ ds, ∀ t e, d ≠ .bld t e) : BldOk w b vs ds := fun j t e hj => absurd rfl (h _ (List.mem_of_getElem? hj) t e)

/-- The world has grown; nothing old has changed. -/
theorem Inv.grow (h : Inv g w vals env mem fr) (hsz : w.heap.size ≤ w'.heap.size) (hbl : g'.bl = g.bl) (hmv : g'.mv = g.mv)
    (hp : ∀ b o v, g.pers b o = some v → g'.pers b o = some v)
    (hs : ∀ b, b < w.heap.size → w'.heap[b]? = w.heap[b]? ∧ ∀ o, g'.pers b o = g.pers b o)
    (hc : ∀ b o v, g'.pers b o = some v → w'.cell? ⟨b, o, none⟩ = some v) : Inv g' w' vals env mem fr := by
  have hpre : g.bl <+: g'.bl := by rw [hbl]; exact List.prefix_refl _
  refine ⟨h.envRep.mono hp hpre, fun i v d a b => (h.envOwn i v d a b).grow hs, by rw [hbl]; exact h.blLen, by rw [hmv]; exact h.mvLen, hc, fun i b vs ds h1 h2 h3 => ?_, by unfold claims at *; rw [hbl, hmv]; exact h.nd, fun t ht => Nat.lt_of_lt_of_le (h.frLt t ht) hsz, h.memPtr⟩
  rw [hbl] at h1; rw [hmv] at h2
  have m := h.memOk i b vs ds h1 h2 h3
  obtain ⟨e, fz, ho, hf⟩ := m.obj
  have hb := (Array.getElem?_eq_some_iff.1 ho).1
  exact ⟨⟨e, fz, (hs b hb).1.trans ho, hf⟩, fun o => by rw [(hs b hb).2]; exact m.free o, m.rep.mono hp hpre, fun j v d a b => (m.own j v d a b).grow hs, m.bld.keep fun t ht => (hs t (by
    rcases ht with rfl | ht
    · exact hb
    · obtain ⟨x, hx, hxt⟩ := List.mem_flatMap.1 ht
      obtain ⟨j, hj⟩ := List.getElem?_of_mem hx
      rw [List.getElem?_zip_eq_some] at hj
      exact own_lt (m.own j _ _ hj.1 hj.2) hxt)).1⟩

theorem count_ownL_set (t : Nat) {i : Nat} {v v' : Value} {d d' : AV} (hv : vals[i]? = some v) (hd : env[i]? = some d) :
    (ownL (vals.set i v') (env.set i d')).count t + (own v d).count t = (ownL vals env).count t + (own v' d').count t := by
  unfold ownL
  rw [zip_set]
  exact count_flatMap_set (fun x : Value × AV => own x.1 x.2) t _ i (v', d') (v, d) (zip_get hv hd)

theorem count_claims (t : Nat) : (claims g vals env mem).count t = g.bl.count t + (ownL vals env).count t + (ownM g.mv mem).count t := by
  unfold claims; simp [List.count_append]; omega

theorem nd_count (h : Inv g w vals env mem fr) (t : Nat) : (claims g vals env mem).count t + fr.count t ≤ 1 := by
  have := List.nodup_iff_count.1 h.nd t
  rwa [List.count_append] at this

/-- A new value comes into a slot; its rights are new ones. -/
theorem Inv.put (h : Inv g w vals env mem fr) (i : Nat) {v : Value} {d : AV} (hr : Rep g.pers g.bl v d) (ho : OwnOk w g.pers v d)
    (hn : ∀ t, (own v d).count t + (claims g vals env mem).count t + fr.count t ≤ 1) : Inv g w (vals.set i v) (env.set i d) mem fr := by
  cases hd : env[i]? with
  | none =>
    have hv : vals[i]? = none := by
      rw [List.getElem?_eq_none_iff] at *; rw [h.envRep.1]; exact hd
    rw [set_of_none hd, set_of_none hv]; exact h
  | some d0 =>
    obtain ⟨v0, hv0⟩ := get_of_len h.envRep.1 hd
    refine ⟨⟨by simpa using h.envRep.1, fun j u e a b => ?_⟩, fun j u e a b => ?_, h.blLen, h.mvLen, h.persOk, h.memOk, ?_, h.frLt, h.memPtr⟩
    · rcases get_set a with ⟨rfl, rfl⟩ | a'
      · rcases get_set b with ⟨_, rfl⟩ | b'
        · exact hr
        · rw [List.getElem?_set_self (lt_of_get hd)] at b; cases b; exact hr
      · rcases get_set b with ⟨rfl, rfl⟩ | b'
        · rw [List.getElem?_set_self (lt_of_get hv0)] at a; cases a; exact hr
        · exact h.envRep.2 j u e a' b'
    · rcases get_set a with ⟨rfl, rfl⟩ | a'
      · rcases get_set b with ⟨_, rfl⟩ | b'
        · exact ho
        · rw [List.getElem?_set_self (lt_of_get hd)] at b; cases b; exact ho
      · rcases get_set b with ⟨rfl, rfl⟩ | b'
        · rw [List.getElem?_set_self (lt_of_get hv0)] at a; cases a; exact ho
        · exact h.envOwn j u e a' b'
    · rw [List.nodup_iff_count]
      intro t
      have h1 := hn t
      have h2 := count_ownL_set (vals := vals) (env := env) t (v' := v) (d' := d) hv0 hd
      rw [List.count_append]
      rw [count_claims] at h1 ⊢
      omega

theorem mem_count {l : List Nat} {t : Nat} : t ∈ l ↔ 0 < l.count t := List.count_pos_iff.symm

theorem claims_put_sub (h : vals.length = env.length) (i : Nat) {v : Value} {d : AV} {t : Nat} (ht : t ∈ claims g (vals.set i v) (env.set i d) mem) : t ∈ own v d ∨ t ∈ claims g vals env mem := by
  cases hd : env[i]? with
  | none =>
    have hv : vals[i]? = none := by
      rw [List.getElem?_eq_none_iff] at *; rw [h]; exact hd
    rw [set_of_none hd, set_of_none hv] at ht; exact .inr ht
  | some d0 =>
    obtain ⟨v0, hv0⟩ := get_of_len h hd
    have h2 := count_ownL_set (vals := vals) (env := env) t (v' := v) (d' := d) hv0 hd
    rw [mem_count, count_claims] at ht
    rw [mem_count, mem_count, count_claims]
    omega

/-- A slot gives up its rights. -/
theorem Inv.clear (h : Inv g w vals env mem fr) {i : Nat} {v : Value} {d : AV} (hv : vals[i]? = some v) (hd : env[i]? = some d) :
    Inv g w vals (env.set i d.plain) mem fr ∧ (∀ t, (own v d).count t + (claims g vals (env.set i d.plain) mem).count t + fr.count t ≤ 1) ∧
    (∀ t, (claims g vals (env.set i d.plain) mem).count t + (own v d).count t = (claims g vals env mem).count t) := by
  have hvs : vals = vals.set i v := by
    apply List.ext_getElem?; intro j; rw [List.getElem?_set]; split
    · rename_i e; subst e; rw [if_pos (lt_of_get hv), hv]
    · rfl
  have key : ∀ t, (claims g vals (env.set i d.plain) mem).count t + (own v d).count t = (claims g vals env mem).count t := by
    intro t
    have h2 := count_ownL_set (vals := vals) (env := env) t (v' := v) (d' := d.plain) hv hd
    rw [own_plain, ← hvs] at h2
    rw [count_claims, count_claims]
    simp at h2
    omega
  have hnd := nd_count h
  refine ⟨⟨⟨by simpa using h.envRep.1, fun j u e a b => ?_⟩, fun j u e a b => ?_, h.blLen, h.mvLen, h.persOk, h.memOk, ?_, h.frLt, h.memPtr⟩, fun t => ?_, key⟩
  · rcases get_set b with ⟨rfl, rfl⟩ | b'
    · rw [hv] at a; cases a; exact (h.envRep.2 _ _ _ hv hd).plain
    · exact h.envRep.2 j u e a b'
  · rcases get_set b with ⟨rfl, rfl⟩ | b'
    · exact ok_plain w g.pers u d
    · exact h.envOwn j u e a b'
  · rw [List.nodup_iff_count]
    intro t
    have := key t; have := hnd t
    rw [List.count_append]; omega
  · have := key t; have := hnd t; omega
 end
end Go.Eng
 end

 section
set_option linter.unusedVariables false
set_option linter.unusedSimpArgs false
namespace Go.Eng

def szOf (P : Program) (t : TypeId) : Nat := ((P.info? t).map (·.size)).getD 0
def aggT (P : Program) (t : TypeId) : Bool := match P.underlying t with | some (.struct _) | some (.array _ _) => true | _ => false
def known (P : Program) (t : TypeId) : Bool := (P.info? t).isSome && (P.underlying t).isSome
/-- Where a field lies: its offset, its cells, is it a struct or an array. -/
def fieldOf (P : Program) (s : TypeId) (f : Nat) : Option (Nat × Nat × Bool) :=
  match P.underlying s with
  | some (.struct fs) => match fs[f]? with
    | some fd => if known P fd.type then some (fd.offset, szOf P fd.type, aggT P fd.type) else none
    | none => none
  | _ => none

inductive CK where
  | i
  | s
  | b
 deriving Inhabited
inductive POp where
  | bin (op : BinOp)
  | binB (op : BinOp)
  | un (op : UnOp)
  | pick
  | cvInt (k : IntKind)
  | cvStr
  | field (off n : Nat) (agg : Bool)
  | extract (i : Nat)
  | idxStr
  | idxArr (len z : Nat) (agg : Bool)
  | sliceStr (lo hi : Bool)
  | sliceSl (z : Nat) (lo hi : Bool)
  | lenS
  | lenSl
  | iaddr (z : Nat)
  | faddr (off : Nat)
  | nilck
  | mkif (t : TypeId)
  | mkfn (f : FuncId)
  | eqS (neg : Bool) (ks : List CK)
  | eqIf (neg : Bool) (const : Bool)
  | nilPtr (neg : Bool)
  | minI
  | maxI
 deriving Inhabited

def byte (b : UInt8) : AV := .int .u8 (b.toNat : Int)

def binI (op : BinOp) (k : IntKind) (a b : Int) : Option AV :=
  match op with
  | .add => some (.int k (k.wrap (a + b)))
  | .sub => some (.int k (k.wrap (a - b)))
  | .mul => some (.int k (k.wrap (a * b)))
  | .quo => if b = 0 then none else some (.int k (k.wrap (a.tdiv b)))
  | .rem => if b = 0 then none else some (.int k (a.tmod b))
  | .and | .or | .xor | .andNot => some (.int k (bits op k a b))
  | .eql => some (.bool (a == b))
  | .neq => some (.bool (a != b))
  | .lss => some (.bool (decide (a < b)))
  | .leq => some (.bool (decide (a ≤ b)))
  | .gtr => some (.bool (decide (b < a)))
  | .geq => some (.bool (decide (b ≤ a)))
  | _ => none

def binS (op : BinOp) (a b : List UInt8) : Option AV :=
  match op with
  | .add => if a.length + b.length ≤ 4611686018427387904 then some (.str (a ++ b)) else none
  | .eql => some (.bool (a == b))
  | .neq => some (.bool (!(a == b)))
  | .lss => some (.bool (Op.bytesLess a b))
  | .leq => some (.bool (Op.bytesLess a b || a == b))
  | .gtr => some (.bool (!(Op.bytesLess a b || a == b)))
  | .geq => some (.bool (!(Op.bytesLess a b)))
  | _ => none

def cellsEqK : List CK → List AV → List AV → Option Bool
  | [], [], [] => some true
  | .i :: ks, .int k a :: cs, .int k' b :: ds => if k = k' then (match cellsEqK ks cs ds with | some c => some (a == b && c) | none => none) else none
  | .s :: ks, .str a :: cs, .str b :: ds => match cellsEqK ks cs ds with | some c => some (a == b && c) | none => none
  | .b :: ks, .bool a :: cs, .bool b :: ds => match cellsEqK ks cs ds with | some c => some (a == b && c) | none => none
  | _, _, _ => none

def bounds (lo hi : Bool) (n : Nat) (rest : List AV) : Option (Nat × Nat) :=
  match lo, hi, rest with
  | false, false, [] => some (0, n)
  | true, false, [.int _ a] => if 0 ≤ a ∧ a ≤ (n : Int) then some (a.toNat, n) else none
  | false, true, [.int _ b] => if 0 ≤ b ∧ b ≤ (n : Int) then some (0, b.toNat) else none
  | true, true, [.int _ a, .int _ b] => if 0 ≤ a ∧ a ≤ b ∧ b ≤ (n : Int) then some (a.toNat, b.toNat) else none
  | _, _, _ => none

def mmI (mx : Bool) (k : IntKind) : Int → List AV → Option AV
  | a, [] => some (.int k a)
  | a, .int k' b :: rest => if k = k' then mmI mx k (if mx then (if a < b then b else a) else (if b < a then b else a)) rest else none
  | _, _ => none
def minmaxI (mx : Bool) : List AV → Option AV
  | .int k a :: rest => mmI mx k a rest
  | _ => none

def binB (op : BinOp) (a b : Bool) : Option AV :=
  match op with
  | .eql => some (.bool (a == b))
  | .neq => some (.bool (!(a == b)))
  | _ => none
def binX (op : BinOp) (k : IntKind) (a : Int) (k' : IntKind) (b : Int) : Option AV :=
  match op with
  | .shl => if 0 ≤ b then some (.int k (k.wrap (a * 2 ^ (min b.toNat k.bits)))) else none
  | .shr => if 0 ≤ b then some (.int k (a.fdiv (2 ^ (min b.toNat k.bits)))) else none
  | _ => if k = k' then binI op k a b else none
def binA (op : BinOp) : AV → AV → Option AV
  | .int k a, .int k' b => binX op k a k' b
  | .str a, .str b => binS op a b
  | _, _ => none

def eqIfA (neg c : Bool) : AV → AV → Option AV
  | .iface _ _, .nili => some (.bool neg)
  | .nili, .iface _ _ => some (.bool neg)
  | .nili, .nili => if c then some (.bool (!neg)) else none
  | _, _ => none
def nilPtrA (neg : Bool) : AV → AV → Option AV
  | .ptr _ _, .nilp => some (.bool neg)
  | .nilp, .ptr _ _ => some (.bool neg)
  | .pel _, .nilp => some (.bool neg)
  | .nilp, .nilp => some (.bool (!neg))
  | _, _ => none

def binBA (op : BinOp) : AV → AV → Option AV
  | .bool a, .bool b => binB op a b
  | _, _ => none

def pureOp : POp → List AV → Option AV
  | .bin op, [x, y] => binA op x y
  | .binB op, [x, y] => binBA op x y
  | .un .neg, [.int k n] => some (.int k (k.wrap (0 - n)))
  | .un .xor, [.int k n] => some (.int k (bits .xor k (if k.signed then -1 else k.max) n))
  | .un .not, [.bool b] => some (.bool (!b))
  | .pick, [.bool c, x, y] => some (if c then x else y)
  | .cvInt k, [.int _ n] => some (.int k (k.wrap n))
  | .cvStr, [.str s] => some (.str s)
  | .field off n agg, [.agg cs] => if off + n ≤ cs.length then (if agg then some (.agg ((cs.drop off).take n)) else cs[off]?) else none
  | .extract i, [.tup ds] => ds[i]?
  | .idxStr, [.str s, .int _ i] => if 0 ≤ i ∧ i < (s.length : Int) then (match s[i.toNat]? with | some b => some (byte b) | none => none) else none
  | .idxArr len z agg, [.agg cs, .int _ i] => if 0 ≤ i ∧ i < (len : Int) ∧ len * z ≤ cs.length then (if agg then some (.agg ((cs.drop (i.toNat * z)).take z)) else cs[i.toNat * z]?) else none
  | .sliceStr lo hi, .str s :: rest => match bounds lo hi s.length rest with
    | some (a, b) => some (.str ((s.take b).drop a))
    | none => none
  | .sliceSl z lo hi, .sl _ z' xs :: rest => if 0 < z ∧ (z' = z ∨ xs = []) then (match bounds lo hi xs.length rest with
    | some (a, b) => some (.sl false z ((xs.take b).drop a))
    | none => none) else none
  | .lenS, [.str s] => some (.int .i64 (s.length : Int))
  | .lenSl, [.sl _ _ xs] => some (.int .i64 (xs.length : Int))
  | .iaddr z, [.sl _ z' xs, .int _ i] => if z' = z ∧ 0 < z ∧ 0 ≤ i ∧ i < (xs.length : Int) then (match xs[i.toNat]? with | some x => if x.noPtr then some (.pel x.cells) else none | none => none) else none
  | .faddr off, [.ptr b o] => some (.ptr b (o + off))
  | .faddr off, [.pel cs] => if off ≤ cs.length then some (.pel (cs.drop off)) else none
  | .nilck, [.ptr b o] => some (.ptr b o)
  | .nilck, [.pel cs] => some (.pel cs)
  | .nilck, [.fn f cs] => some (.fn f cs)
  | .nilck, [.iface t d] => some (.iface t d)
  | .mkif t, [d] => some (.iface t d)
  | .mkfn f, ds => some (.fn f ds)
  | .eqS neg ks, [.agg cs, .agg ds] => match cellsEqK ks cs ds with
    | some b => some (.bool (if neg then !b else b))
    | none => none
  | .eqIf neg c, [x, y] => eqIfA neg c x y
  | .nilPtr neg, [x, y] => nilPtrA neg x y
  | .minI, ds => minmaxI false ds
  | .maxI, ds => minmaxI true ds
  | _, _ => none

/-! ### Which operation of the machine is which -/
def fieldsK (K : TypeId → Option (List CK)) : List Field → Nat → Option (List CK)
  | [], _ => some []
  | f :: fs, off => if f.name == "_" || f.offset != off then none else match K f.type with
    | some ks => if ks.length = 0 then none else (match fieldsK K fs (off + ks.length) with
      | some r => some (ks ++ r)
      | none => none)
    | none => none
/-- The kinds of a type's cells, of which all count where two values are held against each other. -/
def kindsOf (P : Program) : Nat → TypeId → Option (List CK)
  | 0, _ => none
  | n + 1, t => if !known P t then none else match P.underlying t with
    | some .bool => if szOf P t = 1 then some [.b] else none
    | some (.int _) => if szOf P t = 1 then some [.i] else none
    | some .string => if szOf P t = 1 then some [.s] else none
    | some (.struct fs) => if P.stoodInHeld t then none else match fieldsK (kindsOf P n) fs.toList 0 with
      | some ks => if ks.length = szOf P t then some ks else none
      | none => none
    | _ => none

def binKind (P : Program) (op : BinOp) (t : TypeId) (x y : Operand) : Option POp :=
  let cmp := op == .eql || op == .neq
  match P.underlying t with
  | some (.int _) | some .string => some (.bin op)
  | some .bool => some (.binB op)
  | some (.interface _) => if cmp then some (.eqIf (op == .neq) ((x matches .const _) || (y matches .const _))) else none
  | some (.pointer _) => if cmp then some (.nilPtr (op == .neq)) else none
  | some (.struct _) => if cmp && !P.eqGuardType P.depth t then (kindsOf P 20 t).map (.eqS (op == .neq)) else none
  | _ => none

def convPure (P : Program) (o : Oper) : Option (POp × List Operand) :=
  match o.op with
  | .binOp op t x y _ => (binKind P op t x y).map fun p => (p, [x, y])
  | .unOp op _ x => some (.un op, [x])
  | .pick c a b => some (.pick, [c, a, b])
  | .convert s d x => match P.underlying s, P.underlying d with
    | some (.int _), some (.int k) => some (.cvInt k, [x])
    | some .string, some .string => some (.cvStr, [x])
    | _, _ => none
  | .field t x f => (fieldOf P t f).map fun (off, n, agg) => (.field off n agg, [x])
  | .extract x i => some (.extract i, [x])
  | .index t x i => match P.underlying t with
    | some .string => some (.idxStr, [x, i])
    | some (.array len e) => if known P e then some (.idxArr len (szOf P e) (aggT P e), [x, i]) else none
    | _ => none
  | .slice t x lo hi mx => if mx.isSome then none else match P.underlying t with
    | some .string => some (.sliceStr lo.isSome hi.isSome, x :: (lo.toList ++ hi.toList))
    | some (.slice e) => if known P e then some (.sliceSl (szOf P e) lo.isSome hi.isSome, x :: (lo.toList ++ hi.toList)) else none
    | _ => none
  | .indexAddr t x i => match P.underlying t with
    | some (.slice e) => if known P e then some (.iaddr (szOf P e), [x, i]) else none
    | _ => none
  | .fieldAddr s x f => match fieldOf P s f with
    | some (off, n, _) => if n = 0 then none else some (.faddr off, [x])
    | none => none
  | .nilCheck x => some (.nilck, [x])
  | .makeInterface t x => match P.underlying t with
    | some (.interface _) | none => none
    | _ => some (.mkif t, [x])
  | .makeFunc fn first cap => match fn with
    | .func f => if first.toList.isEmpty then some (.mkfn f, cap.toList) else none
    | _ => none
  | .call c => match c.callee with
    | .builtin .len => match c.args.toList, c.argTypes.toList with
      | [x], [t] => match P.underlying t with
        | some .string => some (.lenS, [x])
        | some (.slice _) => some (.lenSl, [x])
        | _ => none
      | _, _ => none
    | .builtin .min => some (.minI, c.args.toList)
    | .builtin .max => some (.maxI, c.args.toList)
    | _ => none
  | _ => none

end Go.Eng
 end

 section
set_option linter.unusedVariables false
set_option linter.unusedSimpArgs false
namespace Go.Eng
 section
variable {p : Pers} {bl : List Nat}

theorem rep_int {v : Value} {k : IntKind} {n : Int} (h : Rep p bl v (.int k n)) : v = .int k n := by cases h; rfl
theorem rep_bool {v : Value} {b : Bool} (h : Rep p bl v (.bool b)) : v = .bool b := by cases h; rfl
theorem rep_str {v : Value} {l : List UInt8} (h : Rep p bl v (.str l)) : v = .string ⟨⟨l⟩⟩ := by cases h; rfl
theorem rep_nilp {v : Value} (h : Rep p bl v .nilp) : v = .pointer none := by cases h; rfl
theorem rep_nili {v : Value} (h : Rep p bl v .nili) : v = .nilIface := by cases h; rfl
theorem rep_ptr {v : Value} {b o : Nat} (h : Rep p bl v (.ptr b o)) : ∃ blk, bl[b]? = some blk ∧ v = .pointer (some ⟨blk, o, none⟩) := by cases h; exact ⟨_, by assumption, rfl⟩
theorem rep_pel {v : Value} {cs : List AV} (h : Rep p bl v (.pel cs)) : ∃ ad vs, v = .pointer (some ad) ∧ Holds p ad vs ∧ RepL p bl vs cs := by cases h; exact ⟨_, _, rfl, by assumption, by assumption, by assumption⟩
theorem rep_iface {v : Value} {t : TypeId} {d : AV} (h : Rep p bl v (.iface t d)) : ∃ u, v = .iface t u ∧ Rep p bl u d := by cases h; exact ⟨_, rfl, by assumption⟩
theorem rep_agg {v : Value} {cs : List AV} (h : Rep p bl v (.agg cs)) : ∃ vs, v = .agg ⟨vs⟩ ∧ RepL p bl vs cs := by cases h; exact ⟨_, rfl, by assumption, by assumption⟩
theorem rep_tup {v : Value} {cs : List AV} (h : Rep p bl v (.tup cs)) : ∃ vs, v = .tuple ⟨vs⟩ ∧ RepL p bl vs cs := by cases h; exact ⟨_, rfl, by assumption, by assumption⟩
theorem rep_fn {v : Value} {f : FuncId} {cs : List AV} (h : Rep p bl v (.fn f cs)) : ∃ vs, v = .func (.func f) #[] ⟨vs⟩ ∧ RepL p bl vs cs := by cases h; exact ⟨_, rfl, by assumption, by assumption⟩
theorem rep_sl {v : Value} {q : Bool} {z : Nat} {xs : List AV} (h : Rep p bl v (.sl q z xs)) : ∃ a c vs, v = .slice a xs.length c ∧ xs.length ≤ c ∧
    (∀ x ∈ xs, x.cells.length = z) ∧ vs.length = xs.length * z ∧ (vs = [] ∨ ∃ ad, a = some ad ∧ Holds p ad vs) ∧ (q = true ∨ c ≠ 0 → ∀ ad, a = some ad → ad.spot = none) ∧ (a = none → c = 0) ∧ (∀ v ∈ vs, oneCell v = true) ∧ (z = 0 → a = none) ∧
    (∀ (i : Nat) v d, vs[i]? = some v → (flat xs)[i]? = some d → Rep p [] v d) := by
  cases h with
  | sl a n c own z xs vs hz hn hc hvs ha hs h0 h1 h2 hr => subst hn; exact ⟨a, c, vs, rfl, hc, hz, hvs, ha, hs, h0, h1, h2, hr⟩

theorem repL_cons {v : Value} {vs : List Value} {d : AV} {ds : List AV} (h : RepL p bl (v :: vs) (d :: ds)) : Rep p bl v d ∧ RepL p bl vs ds :=
  ⟨h.2 0 v d rfl rfl, by simpa using h.1, fun i u e a b => h.2 (i + 1) u e (by simpa using a) (by simpa using b)⟩
theorem repL_mk {v : Value} {vs : List Value} {d : AV} {ds : List AV} (h : Rep p bl v d) (k : RepL p bl vs ds) : RepL p bl (v :: vs) (d :: ds) := by
  refine ⟨by simpa using k.1, fun i u e a b => ?_⟩
  cases i with
  | zero => simp at a b; subst a; subst b; exact h
  | succ i => exact k.2 i u e (by simpa using a) (by simpa using b)
theorem repL_nil : RepL p bl [] [] := ⟨rfl, fun i v d h => by simp at h⟩
theorem RepL.drop {vs : List Value} {ds : List AV} (h : RepL p bl vs ds) (n : Nat) : RepL p bl (vs.drop n) (ds.drop n) :=
  ⟨by simp [h.1], fun i v d a b => h.2 (n + i) v d (by simpa [List.getElem?_drop] using a) (by simpa [List.getElem?_drop] using b)⟩
theorem RepL.take {vs : List Value} {ds : List AV} (h : RepL p bl vs ds) (n : Nat) : RepL p bl (vs.take n) (ds.take n) :=
  ⟨by simp [h.1], fun i v d a b => by
    rw [List.getElem?_take] at a b
    split at a
    · rename_i hi; rw [if_pos hi] at b; exact h.2 i v d a b
    · cases a⟩

theorem flat_len {z : Nat} : ∀ {xs : List AV}, (∀ x ∈ xs, x.cells.length = z) → (flat xs).length = xs.length * z
  | [], _ => by simp [flat]
  | x :: xs, h => by
    have ih := flat_len (xs := xs) fun y hy => h y (List.mem_cons_of_mem _ hy)
    have hx := h x List.mem_cons_self
    simp only [flat, List.flatMap_cons, List.length_append, List.length_cons] at *
    rw [ih, hx, Nat.add_mul]; omega
theorem flat_drop {z : Nat} : ∀ {xs : List AV} (i : Nat), (∀ x ∈ xs, x.cells.length = z) → (flat xs).drop (i * z) = flat (xs.drop i)
  | xs, 0, _ => by simp
  | [], i + 1, _ => by simp [flat]
  | x :: xs, i + 1, h => by
    have ih := flat_drop (xs := xs) i fun y hy => h y (List.mem_cons_of_mem _ hy)
    have hx := h x List.mem_cons_self
    simp only [flat, List.flatMap_cons, List.drop_succ_cons] at *
    rw [List.drop_append, List.drop_eq_nil_of_le (by rw [hx, Nat.add_mul]; omega), List.nil_append, hx, ← ih]
    congr 1; rw [Nat.add_mul]; omega
theorem flat_take {z : Nat} : ∀ {xs : List AV} (i : Nat), (∀ x ∈ xs, x.cells.length = z) → (flat xs).take (i * z) = flat (xs.take i)
  | xs, 0, _ => by simp [flat]
  | [], i + 1, _ => by simp [flat]
  | x :: xs, i + 1, h => by
    have ih := flat_take (xs := xs) i fun y hy => h y (List.mem_cons_of_mem _ hy)
    have hx := h x List.mem_cons_self
    simp only [flat, List.flatMap_cons, List.take_succ_cons] at *
    rw [List.take_append, List.take_of_length_le (by rw [hx, Nat.add_mul]; omega), hx, ← ih]
    congr 2; rw [Nat.add_mul]; omega
theorem flat_append (xs ys : List AV) : flat (xs ++ ys) = flat xs ++ flat ys := by simp [flat]

theorem add_none {ad : Addr} (h : ad.spot = none) (n : Nat) : ad.add n = ⟨ad.block, ad.off + n, none⟩ := by
  unfold Addr.add; split
  · rename_i h0; subst h0; cases ad; simp_all
  · rfl
theorem Holds.drop {ad : Addr} {vs : List Value} (h : Holds p ad vs) (n : Nat) : Holds p (ad.add n) (vs.drop n) := by
  rw [add_none h.1]
  exact ⟨rfl, fun i v hv => by rw [List.getElem?_drop] at hv; have := h.2 _ v hv; simpa [Nat.add_assoc] using this⟩
theorem Holds.take {ad : Addr} {vs : List Value} (h : Holds p ad vs) (n : Nat) : Holds p ad (vs.take n) :=
  ⟨h.1, fun i v hv => by
    rw [List.getElem?_take] at hv
    split at hv
    · exact h.2 i v hv
    · cases hv⟩

/-- An element of a row: its cells. -/
theorem elem_rep {z : Nat} {xs : List AV} {vs : List Value} (hz : ∀ x ∈ xs, x.cells.length = z) (hvs : vs.length = xs.length * z)
    (hr : ∀ (i : Nat) v d, vs[i]? = some v → (flat xs)[i]? = some d → Rep p [] v d) {i : Nat} {x : AV} (hx : xs[i]? = some x) :
    RepL p [] ((vs.drop (i * z)).take z) x.cells := by
  have hfl := flat_len hz
  have hl : RepL p [] vs (flat xs) := ⟨by rw [hvs, hfl], hr⟩
  have h1 := (hl.drop (i * z)).take z
  rw [flat_drop i hz] at h1
  have hd : xs.drop i = x :: xs.drop (i + 1) := by
    have hlt := lt_of_get hx
    rw [List.drop_eq_getElem_cons hlt]
    rw [List.getElem?_eq_getElem hlt] at hx; cases hx; rfl
  have hxm : x ∈ xs := List.mem_of_getElem? hx
  rw [hd] at h1
  simp only [flat, List.flatMap_cons] at h1
  rw [List.take_append_of_le_length (by rw [hz x hxm]; exact Nat.le_refl _)] at h1
  have e : List.take z x.cells = x.cells := List.take_of_length_le (by rw [hz x hxm]; exact Nat.le_refl _)
  rwa [e] at h1

/-! ### One operation after the other -/
variable {P : Program} {w : World} {t : TypeId}

theorem run_value {s : Sem Value} {v : Value} {w' : World} (h : s.run P w = .ok v w') : (do pure (.value (← s)) : Sem Next).run P w = .ok (.value v) w' := by
  simp [h]
theorem str_get (l : List UInt8) (i : Nat) : (⟨⟨l⟩⟩ : ByteArray)[i]? = l[i]? := by
  rcases Nat.lt_or_ge i l.length with h | h
  · rw [List.getElem?_eq_getElem h]
    rw [getElem?_pos _ i (by simpa [ByteArray.size] using h)]
    rfl
  · rw [List.getElem?_eq_none h, getElem?_neg _ i (by simpa [ByteArray.size] using h)]
theorem str_size (l : List UInt8) : (⟨⟨l⟩⟩ : ByteArray).size = l.length := by simp [ByteArray.size]
theorem str_append (l m : List UInt8) : (⟨⟨l⟩⟩ : ByteArray) ++ ⟨⟨m⟩⟩ = ⟨⟨l ++ m⟩⟩ := by apply ByteArray.ext; simp [ByteArray.data_append]
theorem str_extract (l : List UInt8) (a b : Nat) : (⟨⟨l⟩⟩ : ByteArray).extract a b = ⟨⟨(l.take b).drop a⟩⟩ := by
  apply ByteArray.ext; simp [ByteArray.data_extract]; rw [List.drop_take]
theorem str_toList (l : List UInt8) : (⟨⟨l⟩⟩ : ByteArray).toList = l := by simp

theorem binI_ok {op : BinOp} {k : IntKind} {a b : Int} {d : AV} (h : binI op k a b = some d) : ∃ v, (binOp op t (.int k a) (.int k b)).run P w = .ok v w ∧ Rep p bl v d := by
  cases op <;> simp only [binI, Option.some.injEq, reduceCtorEq, ite_eq_left_iff, if_neg, Option.ite_none_left_eq_some] at h
  case quo => obtain ⟨h0, rfl⟩ := h; exact ⟨_, by simp [binOp, Op.intDiv, h0], .int ..⟩
  case rem => obtain ⟨h0, rfl⟩ := h; exact ⟨_, by simp [binOp, Op.intDiv, h0], .int ..⟩
  case and => subst h; exact ⟨_, by rw [binOp_and, intBits_and]; rfl, .int ..⟩
  case or => subst h; exact ⟨_, by rw [binOp_or, intBits_or]; rfl, .int ..⟩
  case xor => subst h; exact ⟨_, by rw [binOp_xor, intBits_xor]; rfl, .int ..⟩
  case andNot => subst h; exact ⟨_, by rw [binOp_andNot, intBits_andNot]; rfl, .int ..⟩
  case add => subst h; exact ⟨_, by rw [binOp_add]; rfl, .int ..⟩
  case sub => subst h; exact ⟨_, by rw [binOp_sub]; rfl, .int ..⟩
  case mul => subst h; exact ⟨_, by rw [binOp_mul]; rfl, .int ..⟩
  case eql => subst h; exact ⟨_, by rw [binOp_eql]; rfl, .bool _⟩
  case neq => subst h; exact ⟨_, by rw [binOp_neq]; rfl, .bool _⟩
  case lss => subst h; exact ⟨_, by rw [binOp_lss]; rfl, .bool _⟩
  case leq => subst h; exact ⟨_, by rw [binOp_leq]; rfl, .bool _⟩
  case gtr => subst h; exact ⟨_, by rw [binOp_gtr]; rfl, .bool _⟩
  case geq => subst h; exact ⟨_, by rw [binOp_geq]; rfl, .bool _⟩

theorem binS_ok {op : BinOp} {a b : List UInt8} {d : AV} (h : binS op a b = some d) : ∃ v, (binOp op t (.string ⟨⟨a⟩⟩) (.string ⟨⟨b⟩⟩)).run P w = .ok v w ∧ Rep p bl v d := by
  have hb : binOp op t (.string ⟨⟨a⟩⟩) (.string ⟨⟨b⟩⟩) = Op.stringOp op ⟨⟨a⟩⟩ ⟨⟨b⟩⟩ := by cases op <;> rfl
  rw [hb]
  cases op <;> simp only [binS, Option.some.injEq, reduceCtorEq, Option.ite_none_right_eq_some] at h
  case add =>
    obtain ⟨h0, rfl⟩ := h
    refine ⟨.string ⟨⟨a ++ b⟩⟩, ?_, .str _⟩
    simp only [Op.stringOp, str_size, str_append]
    rw [if_neg (by have : IntKind.i64.max = 9223372036854775807 := rfl; omega)]; rfl
  all_goals (subst h; exact ⟨_, by simp only [Op.stringOp, str_toList]; rfl, .bool _⟩)
 end
end Go.Eng
 end
