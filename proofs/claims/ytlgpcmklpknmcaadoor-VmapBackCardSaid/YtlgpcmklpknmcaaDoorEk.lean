/- The run in continuations: in this form a function's text is printed in plain Lean.
   The run in continuations: instructions, groups, code. -/
import Derived.Test.YtlgpcmklpknmcaaDoorEj
 section
set_option linter.unusedVariables false
set_option linter.unusedSimpArgs false
set_option linter.unusedSectionVars false
namespace Go.Eng

/-! ### Values of a known form -/
/-- How a form's values are written as abstract values, and read; 'fr': no pointer to a variable is in them. -/
structure Cod (α : Type) where
  enc : α → AV
  dec : AV → Option α
  fr : Bool
  ok : ∀ d v, dec d = some v → d = enc v
  free : fr = true → ∀ v, (enc v).noPtr = true
structure CodL (α : Type) where
  enc : α → List AV
  dec : List AV → Option α
  fr : Bool
  ok : ∀ d v, dec d = some v → d = enc v
  free : fr = true → ∀ v, noPtrL (enc v) = true

 mutual
def AV.same : AV → AV → Bool
  | .int k n, .int k' n' => k == k' && n == n'
  | .bool b, .bool b' => b == b'
  | .ptr b o, .ptr b' o' => b == b' && o == o'
  | .nilp, .nilp => true
  | .fn f cs, .fn f' cs' => f == f' && sameL cs cs'
  | .nilfn, .nilfn => true
  | .nili, .nili => true
  | .bld t e, .bld t' e' => t == t' && e == e'
  | .tup cs, .tup cs' => sameL cs cs'
  | _, _ => false
def sameL : List AV → List AV → Bool
  | [], [] => true
  | d :: ds, e :: es => d.same e && sameL ds es
  | _, _ => false
 end
 mutual
theorem same_eq : ∀ (d e : AV), d.same e = true → d = e
  | .int k n, e, h => by cases e <;> simp [AV.same] at h; obtain ⟨rfl, rfl⟩ := h; rfl
  | .bool b, e, h => by cases e <;> simp [AV.same] at h; subst h; rfl
  | .str s, e, h => by cases e <;> simp [AV.same] at h
  | .sl o z xs, e, h => by cases e <;> simp [AV.same] at h
  | .ptr b o, e, h => by cases e <;> simp [AV.same] at h; obtain ⟨rfl, rfl⟩ := h; rfl
  | .nilp, e, h => by cases e <;> simp [AV.same] at h; rfl
  | .pel cs, e, h => by cases e <;> simp [AV.same] at h
  | .fn f cs, e, h => by cases e <;> simp [AV.same] at h; obtain ⟨rfl, h⟩ := h; rw [sameL_eq _ _ h]
  | .nilfn, e, h => by cases e <;> simp [AV.same] at h; rfl
  | .iface t d, e, h => by cases e <;> simp [AV.same] at h
  | .nili, e, h => by cases e <;> simp [AV.same] at h; rfl
  | .agg cs, e, h => by cases e <;> simp [AV.same] at h
  | .tup cs, e, h => by cases e <;> simp [AV.same] at h; rw [sameL_eq _ _ h]
  | .junk, e, h => by cases e <;> simp [AV.same] at h
  | .bld t e', e, h => by cases e <;> simp [AV.same] at h; obtain ⟨rfl, rfl⟩ := h; rfl
theorem sameL_eq : ∀ (ds es : List AV), sameL ds es = true → ds = es
  | [], es, h => by cases es <;> simp [sameL] at h; rfl
  | d :: ds, es, h => by
    cases es <;> simp [sameL] at h
    rw [same_eq _ _ h.1, sameL_eq _ _ h.2]
 end

def Cod.int (k : IntKind) : Cod Int where
  enc n := .int k n
  dec d := match d with
    | .int k' n => if k' = k then some n else none
    | _ => none
  fr := true
  ok d v h := by
    cases d <;> simp only [reduceCtorEq, Option.ite_none_right_eq_some, Option.some.injEq] at h
    obtain ⟨rfl, rfl⟩ := h; rfl
  free _ v := rfl
def Cod.bool : Cod Bool where
  enc n := .bool n
  dec d := match d with
    | .bool n => some n
    | _ => none
  fr := true
  ok d v h := by cases d <;> simp only [reduceCtorEq, Option.some.injEq] at h; subst h; rfl
  free _ v := rfl
def Cod.str : Cod (List UInt8) where
  enc n := .str n
  dec d := match d with
    | .str n => some n
    | _ => none
  fr := true
  ok d v h := by cases d <;> simp only [reduceCtorEq, Option.some.injEq] at h; subst h; rfl
  free _ v := rfl
def Cod.sl (o : Bool) (z : Nat) : Cod (List AV) where
  enc n := .sl o z n
  dec d := match d with
    | .sl o' z' n => if o' = o ∧ z' = z then some n else none
    | _ => none
  fr := true
  ok d v h := by
    cases d <;> simp only [reduceCtorEq, Option.ite_none_right_eq_some, Option.some.injEq] at h
    obtain ⟨⟨rfl, rfl⟩, rfl⟩ := h; rfl
  free _ v := rfl
/-- Whatever has no pointer in it. -/
def Cod.any : Cod {d : AV // d.noPtr = true} where
  enc v := v.1
  dec d := if h : d.noPtr = true then some ⟨d, h⟩ else none
  fr := true
  ok d v h := by
    split at h
    · cases h; rfl
    · cases h
  free _ v := v.2
/-- The one value. -/
def Cod.fix (e : AV) : Cod Unit where
  enc _ := e
  dec d := if d.same e = true then some () else none
  fr := e.noPtr
  ok d v h := by
    split at h
    · rename_i hs; exact same_eq _ _ hs
    · cases h
  free h v := h
def Cod.agg {α : Type} (c : CodL α) : Cod α where
  enc v := .agg (c.enc v)
  dec d := match d with
    | .agg cs => c.dec cs
    | _ => none
  fr := c.fr
  ok d v h := by cases d <;> simp only [reduceCtorEq] at h; rw [c.ok _ _ h]
  free h v := c.free h v
def Cod.tup {α : Type} (c : CodL α) : Cod α where
  enc v := .tup (c.enc v)
  dec d := match d with
    | .tup cs => c.dec cs
    | _ => none
  fr := c.fr
  ok d v h := by cases d <;> simp only [reduceCtorEq] at h; rw [c.ok _ _ h]
  free h v := c.free h v
def Cod.fn {α : Type} (f : FuncId) (c : CodL α) : Cod α where
  enc v := .fn f (c.enc v)
  dec d := match d with
    | .fn f' cs => if f' = f then c.dec cs else none
    | _ => none
  fr := c.fr
  ok d v h := by
    cases d <;> simp only [reduceCtorEq, Option.ite_none_right_eq_some] at h
    obtain ⟨rfl, h⟩ := h; rw [c.ok _ _ h]
  free h v := c.free h v
def Cod.iface {α : Type} (t : TypeId) (c : Cod α) : Cod α where
  enc v := .iface t (c.enc v)
  dec d := match d with
    | .iface t' d' => if t' = t then c.dec d' else none
    | _ => none
  fr := c.fr
  ok d v h := by
    cases d <;> simp only [reduceCtorEq, Option.ite_none_right_eq_some] at h
    obtain ⟨rfl, h⟩ := h; rw [c.ok _ _ h]
  free h v := c.free h v
def CodL.nil : CodL Unit where
  enc _ := []
  dec ds := match ds with
    | [] => some ()
    | _ => none
  fr := true
  ok d v h := by cases d <;> simp only [reduceCtorEq] at h; rfl
  free _ v := rfl
def CodL.one {α : Type} (c : Cod α) : CodL α where
  enc v := [c.enc v]
  dec ds := match ds with
    | [d] => c.dec d
    | _ => none
  fr := c.fr
  ok d v h := by
    match d, h with
    | [d], h => rw [c.ok _ _ h]
    | [], h => cases h
    | _ :: _ :: _, h => cases h
  free h v := by simp only [noPtrL, c.free h, Bool.and_self]
def CodL.cons {α β : Type} (c : Cod α) (l : CodL β) : CodL (α × β) where
  enc v := c.enc v.1 :: l.enc v.2
  dec ds := match ds with
    | d :: ds => (c.dec d).bind fun v => (l.dec ds).bind fun w => some (v, w)
    | [] => none
  fr := c.fr && l.fr
  ok d v h := by
    cases d with
    | nil => cases h
    | cons d ds =>
      simp only at h
      cases h1 : c.dec d with
      | none => rw [h1] at h; cases h
      | some a =>
        rw [h1] at h
        simp only [Option.bind_some] at h
        cases h2 : l.dec ds with
        | none => rw [h2] at h; cases h
        | some b =>
          rw [h2] at h
          simp only [Option.bind_some, Option.some.injEq] at h
          subst h
          rw [c.ok _ _ h1, l.ok _ _ h2]
  free h v := by
    rw [Bool.and_eq_true] at h
    simp only [noPtrL, c.free h.1, l.free h.2, Bool.and_self]
/-- One that varies, and known values behind it. -/
def CodL.lasts {α : Type} (c : Cod α) (es : List AV) : CodL α where
  enc v := c.enc v :: es
  dec ds := match ds with
    | d :: ds => if sameL ds es = true then c.dec d else none
    | [] => none
  fr := c.fr && noPtrL es
  ok d v h := by
    cases d with
    | nil => cases h
    | cons d ds =>
      simp only [Option.ite_none_right_eq_some] at h
      rw [sameL_eq _ _ h.1, c.ok _ _ h.2]
  free h v := by
    rw [Bool.and_eq_true] at h
    simp only [noPtrL, h.2, c.free h.1, Bool.and_self]
/-- A known value ahead. -/
def CodL.fix {β : Type} (e : AV) (l : CodL β) : CodL β where
  enc v := e :: l.enc v
  dec ds := match ds with
    | d :: ds => if d.same e = true then l.dec ds else none
    | [] => none
  fr := e.noPtr && l.fr
  ok d v h := by
    cases d with
    | nil => cases h
    | cons d ds =>
      simp only [Option.ite_none_right_eq_some] at h
      rw [same_eq _ _ h.1, l.ok _ _ h.2]
  free h v := by
    rw [Bool.and_eq_true] at h
    simp only [noPtrL, h.1, l.free h.2, Bool.and_self]

/-! ### Decoding in continuations -/
 section
variable {R : Type}
def dInt (k : IntKind) (x : AV) (K : Int → Option R) : Option R := match x with
  | .int k' n => if k' = k then K n else none
  | _ => none
def dBool (x : AV) (K : Bool → Option R) : Option R := match x with
  | .bool b => K b
  | _ => none
def dStr (x : AV) (K : List UInt8 → Option R) : Option R := match x with
  | .str s => K s
  | _ => none
def dSl (o : Bool) (z : Nat) (x : AV) (K : List AV → Option R) : Option R := match x with
  | .sl o' z' xs => if o' = o ∧ z' = z then K xs else none
  | _ => none
def dAgg (x : AV) (K : List AV → Option R) : Option R := match x with
  | .agg cs => K cs
  | _ => none
def dCons (cs : List AV) (K : AV → List AV → Option R) : Option R := match cs with
  | c :: cs => K c cs
  | [] => none
def dNil (cs : List AV) (K : Option R) : Option R := match cs with
  | [] => K
  | _ => none
 mutual
def dk : Sh → AV → (AV → Option R) → Option R
  | .any, x, K => K x
  | .int k, x, K => dInt k x fun n => K (.int k n)
  | .bool, x, K => dBool x fun b => K (.bool b)
  | .str, x, K => dStr x fun s => K (.str s)
  | .sl o z, x, K => dSl o z x fun xs => K (.sl o z xs)
  | .agg l, x, K => dAgg x fun cs => dkL l cs fun ds => K (.agg ds)
  | _, x, K => none
def dkL : List Sh → List AV → (List AV → Option R) → Option R
  | [], cs, K => dNil cs (K [])
  | s :: l, cs, K => dCons cs fun c cs' => dk s c fun d => dkL l cs' fun ds => K (d :: ds)
 end
 mutual
theorem dk_sound : ∀ (s : Sh) (x : AV) (K : AV → Option R) (r : R), dk s x K = some r → K x = some r
  | .any, x, K, r, h => h
  | .int k, x, K, r, h => by
    cases x <;> simp only [dk, dInt, reduceCtorEq, Option.ite_none_right_eq_some] at h
    obtain ⟨rfl, h⟩ := h; exact h
  | .bool, x, K, r, h => by cases x <;> simp only [dk, dBool, reduceCtorEq] at h; exact h
  | .str, x, K, r, h => by cases x <;> simp only [dk, dStr, reduceCtorEq] at h; exact h
  | .sl o z, x, K, r, h => by
    cases x <;> simp only [dk, dSl, reduceCtorEq, Option.ite_none_right_eq_some] at h
    obtain ⟨⟨rfl, rfl⟩, h⟩ := h; exact h
  | .agg l, x, K, r, h => by
    cases x <;> simp only [dk, dAgg, reduceCtorEq] at h
    exact dkL_sound l _ _ r h
  | .nilp, x, K, r, h => by simp only [dk, reduceCtorEq] at h
  | .nilfn, x, K, r, h => by simp only [dk, reduceCtorEq] at h
  | .nili, x, K, r, h => by simp only [dk, reduceCtorEq] at h
  | .bld t e, x, K, r, h => by simp only [dk, reduceCtorEq] at h
  | .ptr t e, x, K, r, h => by simp only [dk, reduceCtorEq] at h
  | .tup l, x, K, r, h => by simp only [dk, reduceCtorEq] at h
  | .fn f l, x, K, r, h => by simp only [dk, reduceCtorEq] at h
theorem dkL_sound : ∀ (l : List Sh) (cs : List AV) (K : List AV → Option R) (r : R), dkL l cs K = some r → K cs = some r
  | [], cs, K, r, h => by cases cs <;> simp only [dkL, dNil, reduceCtorEq] at h; exact h
  | s :: l, cs, K, r, h => by
    cases cs with
    | nil => simp only [dkL, dCons, reduceCtorEq] at h
    | cons c cs =>
      simp only [dkL, dCons] at h
      exact dkL_sound l cs _ r (dk_sound s c _ r h)
 end

/-! ### Operations whose answers hang on what isn't known -/
def catS (a b : List UInt8) (K : List UInt8 → Option R) : Option R := if a.length + b.length ≤ 4611686018427387904 then K (a ++ b) else none
def idxS (s : List UInt8) (i : Int) (K : UInt8 → Option R) : Option R := if 0 ≤ i ∧ i < (s.length : Int) then (match s[i.toNat]? with | some b => K b | none => none) else none
def cutS (s : List UInt8) (lo hi : Int) (K : List UInt8 → Option R) : Option R := if 0 ≤ lo ∧ lo ≤ hi ∧ hi ≤ (s.length : Int) then K ((s.take hi.toNat).drop lo.toNat) else none
def cutL (s : List AV) (lo hi : Int) (K : List AV → Option R) : Option R := if 0 ≤ lo ∧ lo ≤ hi ∧ hi ≤ (s.length : Int) then K ((s.take hi.toNat).drop lo.toNat) else none
def getL (xs : List AV) (i : Int) (K : AV → Option R) : Option R := if 0 ≤ i ∧ i < (xs.length : Int) then (match xs[i.toNat]? with | some x => K x | none => none) else none
def divI (k : IntKind) (a b : Int) (K : Int → Option R) : Option R := if b = 0 then none else K (k.wrap (a.tdiv b))
def remI (a b : Int) (K : Int → Option R) : Option R := if b = 0 then none else K (a.tmod b)
def shlI (k : IntKind) (a b : Int) (K : Int → Option R) : Option R := if 0 ≤ b then K (k.wrap (a * 2 ^ (min b.toNat k.bits))) else none
def shrI (k : IntKind) (a b : Int) (K : Int → Option R) : Option R := if 0 ≤ b then K (a.fdiv (2 ^ (min b.toNat k.bits))) else none
def roomL (n bytes : Nat) (K : Option R) : Option R := if (2 * n + 1024) * bytes ≤ 140737488355328 ∧ n ≤ 4611686018427387904 then K else none

def pickK (c : Bool) : AV → AV → (AV → Option R) → Option R
  | .bool a, .bool b, K => K (.bool (cond c a b))
  | .int k a, .int k' b, K => if k = k' then K (.int k (cond c a b)) else none
  | .str a, .str b, K => K (.str (cond c a b))
  | x, y, K => cond c (K x) (K y)
theorem pickK_sound {c : Bool} {x y : AV} {K : AV → Option R} {r : R} (h : pickK c x y K = some r) : K (if c then x else y) = some r := by
  unfold pickK at h
  split at h
  · cases c <;> exact h
  · simp only [Option.ite_none_right_eq_some] at h
    obtain ⟨rfl, h⟩ := h
    cases c <;> exact h
  · cases c <;> exact h
  · cases c <;> exact h

def binK (op : BinOp) (x y : AV) (K : AV → Option R) : Option R :=
  match x, y with
  | .int k a, .int k' b => (match op with
    | .quo => if k = k' then divI k a b fun n => K (.int k n) else none
    | .rem => if k = k' then remI a b fun n => K (.int k n) else none
    | .shl => shlI k a b fun n => K (.int k n)
    | .shr => shrI k a b fun n => K (.int k n)
    | op => match binX op k a k' b with
      | some d => K d
      | none => none)
  | .str a, .str b => (match op with
    | .add => catS a b fun s => K (.str s)
    | op => match binS op a b with
      | some d => K d
      | none => none)
  | _, _ => none
theorem binK_sound {op : BinOp} {x y : AV} {K : AV → Option R} {r : R} (h : binK op x y K = some r) : ∃ d, binA op x y = some d ∧ K d = some r := by
  unfold binK at h
  split at h
  · rename_i k a k' b
    split at h
    · simp only [Option.ite_none_right_eq_some] at h
      obtain ⟨rfl, h⟩ := h
      simp only [divI, Option.ite_none_left_eq_some] at h
      exact ⟨_, by simp only [binA, binX, binI, if_true, if_neg h.1], h.2⟩
    · simp only [Option.ite_none_right_eq_some] at h
      obtain ⟨rfl, h⟩ := h
      simp only [remI, Option.ite_none_left_eq_some] at h
      exact ⟨_, by simp only [binA, binX, binI, if_true, if_neg h.1], h.2⟩
    · simp only [shlI, Option.ite_none_right_eq_some] at h
      exact ⟨_, by simp only [binA, binX, if_pos h.1], h.2⟩
    · simp only [shrI, Option.ite_none_right_eq_some] at h
      exact ⟨_, by simp only [binA, binX, if_pos h.1], h.2⟩
    · split at h
      · rename_i d hd; exact ⟨d, hd, h⟩
      · cases h
  · split at h
    · simp only [catS, Option.ite_none_right_eq_some] at h
      exact ⟨_, by simp only [binA, binS, if_pos h.1], h.2⟩
    · split at h
      · rename_i d hd; exact ⟨d, hd, h⟩
      · cases h
  · cases h

/-- Bounds of a cut: what was left out is 0, or the length. -/
def boundsK (lo hi : Bool) (n : Int) (rest : List AV) (K : Int → Int → Option R) : Option R :=
  match lo, hi, rest with
  | false, false, [] => K 0 n
  | true, false, [.int _ a] => K a n
  | false, true, [.int _ b] => K 0 b
  | true, true, [.int _ a, .int _ b] => K a b
  | _, _, _ => none
theorem boundsK_sound {α : Type} {lo hi : Bool} {n : Nat} {rest : List AV} {l : List α} (hl : l.length = n) {K : List α → Option R} {r : R}
    (h : boundsK lo hi (n : Int) rest (fun a b => if 0 ≤ a ∧ a ≤ b ∧ b ≤ (n : Int) then K ((l.take b.toNat).drop a.toNat) else none) = some r) : ∃ a b, bounds lo hi n rest = some (a, b) ∧ K ((l.take b).drop a) = some r := by
  unfold boundsK at h
  split at h
  · simp only [Option.ite_none_right_eq_some] at h
    exact ⟨0, n, rfl, by simpa using h.2⟩
  · rename_i k a
    simp only [Option.ite_none_right_eq_some] at h
    exact ⟨a.toNat, n, by simp only [bounds, if_pos (And.intro h.1.1 h.1.2.1)], by simpa using h.2⟩
  · rename_i k b
    simp only [Option.ite_none_right_eq_some] at h
    exact ⟨0, b.toNat, by simp only [bounds, if_pos (And.intro h.1.2.1 h.1.2.2)], by simpa using h.2⟩
  · rename_i k a k' b
    simp only [Option.ite_none_right_eq_some] at h
    exact ⟨a.toNat, b.toNat, by simp only [bounds, if_pos h.1], h.2⟩
  · cases h

def pureK (s : Sh) (q : POp) (ds : List AV) (K : AV → Option R) : Option R :=
  match q with
  | .bin op => (match ds with
    | [x, y] => binK op x y K
    | _ => none)
  | .pick => (match ds with
    | [.bool c, x, y] => pickK c x y K
    | _ => none)
  | .idxStr => (match ds with
    | [.str s, .int _ i] => idxS s i fun b => K (byte b)
    | _ => none)
  | .sliceStr lo hi => (match ds with
    | .str s :: rest => boundsK lo hi (s.length : Int) rest fun a b => cutS s a b fun t => K (.str t)
    | _ => none)
  | .sliceSl z lo hi => (match ds with
    | .sl _ z' xs :: rest => if 0 < z ∧ z' = z then boundsK lo hi (xs.length : Int) rest fun a b => cutL xs a b fun t => K (.sl false z t) else none
    | _ => none)
  | .iaddr z => (match ds with
    | [.sl _ z' xs, .int _ i] => if z' = z ∧ 0 < z then getL xs i fun x => dk s x fun x => if x.noPtr then K (.pel x.cells) else none else none
    | _ => none)
  | q => match pureOp q ds with
    | some d => K d
    | none => none

theorem pureK_sound {s : Sh} {q : POp} {ds : List AV} {K : AV → Option R} {r : R} (h : pureK s q ds K = some r) : ∃ d, pureOp q ds = some d ∧ K d = some r := by
  unfold pureK at h
  split at h
  · split at h
    · obtain ⟨d, h1, h2⟩ := binK_sound h; exact ⟨d, h1, h2⟩
    · cases h
  · split at h
    · exact ⟨_, rfl, pickK_sound h⟩
    · cases h
  · split at h
    · simp only [idxS, Option.ite_none_right_eq_some] at h
      obtain ⟨hc, h⟩ := h
      split at h
      · rename_i b hb; exact ⟨byte b, by simp only [pureOp, if_pos hc, hb], h⟩
      · cases h
    · cases h
  · split at h
    · rename_i s rest
      obtain ⟨a, b, h1, h2⟩ := boundsK_sound (l := s) rfl (K := fun t => K (.str t)) h
      exact ⟨_, by simp only [pureOp, h1], h2⟩
    · cases h
  · split at h
    · rename_i o z' xs rest
      simp only [Option.ite_none_right_eq_some] at h
      obtain ⟨⟨hz, rfl⟩, h⟩ := h
      obtain ⟨a, b, h1, h2⟩ := boundsK_sound (l := xs) rfl (K := fun t => K (.sl false z' t)) h
      exact ⟨_, by simp only [pureOp]; rw [if_pos ⟨hz, .inl trivial⟩, h1], h2⟩
    · cases h
  · split at h
    · rename_i o z' xs k i
      simp only [Option.ite_none_right_eq_some, getL] at h
      obtain ⟨⟨rfl, hz⟩, hc, h⟩ := h
      split at h
      · rename_i x hx
        have h2 := dk_sound s x _ r h
        simp only [Option.ite_none_right_eq_some] at h2
        exact ⟨_, by simp only [pureOp]; rw [if_pos ⟨trivial, hz, hc⟩, hx]; exact if_pos h2.1, h2.2⟩
      · cases h
    · cases h
  · split at h
    · rename_i d hd; exact ⟨d, hd, h⟩
    · cases h

/-- What is told of calls and of loops. -/
structure Hd where
  call : FuncId → List AV → Mem → {R : Type} → (AV → Mem → Option R) → Option R
  loop : Nat → Env → Mem → {R : Type} → (RExit → Env → Mem → Option R) → Option R
  quiet : FuncId → Bool

def appendK (z bytes : Nat) (str : Bool) (x y : AV) (K : AV → Option R) : Option R :=
  match x, y with
  | .sl true z1 xs, .sl _ z2 ys => if str = false ∧ 0 < z ∧ z1 = z ∧ z2 = z then roomL (xs.length + ys.length) bytes (K (.sl true z (xs ++ ys))) else none
  | .sl true z1 xs, .str ys => if str = true ∧ z = 1 ∧ z1 = z then roomL (xs.length + ys.length) bytes (K (.sl true z (xs ++ ys.map byte))) else none
  | _, _ => none
theorem appendK_sound {z bytes : Nat} {str : Bool} {x y : AV} {K : AV → Option R} {r : R} (h : appendK z bytes str x y K = some r) : ∃ d, appendA z bytes str x y = some d ∧ K d = some r := by
  unfold appendK at h
  split at h
  · simp only [Option.ite_none_right_eq_some, roomL] at h
    obtain ⟨⟨h1, h2, h3, h4⟩, ⟨h5, h6⟩, h⟩ := h
    exact ⟨_, by simp only [appendA]; rw [if_pos ⟨h1, h2, .inl h3, .inl h4, h5, h6⟩], h⟩
  · simp only [Option.ite_none_right_eq_some, roomL] at h
    obtain ⟨⟨h1, h2, h3⟩, ⟨h5, h6⟩, h⟩ := h
    exact ⟨_, by simp only [appendA]; rw [if_pos ⟨h1, h2, .inl h3, h5, h6⟩], h⟩
  · cases h
def appendZK (z bytes : Nat) (agg : Bool) (ds : List AV) (K : AV → Option R) : Option R :=
  match ds with
  | [.sl _ z2 [_], .int _ n, .sl true z1 xs, x] => if 0 < z ∧ z1 = z ∧ z2 = z ∧ okElem z agg x = true then (if n = (xs.length : Int) then roomL (xs.length + 1) bytes (K (.sl true z (xs ++ [x.plain]))) else none) else none
  | _ => none
theorem appendZK_sound {z bytes : Nat} {agg : Bool} {ds : List AV} {K : AV → Option R} {r : R} (h : appendZK z bytes agg ds K = some r) : ∃ d, appendZA z bytes agg ds = some d ∧ K d = some r := by
  unfold appendZK at h
  split at h
  · simp only [Option.ite_none_right_eq_some, roomL] at h
    obtain ⟨⟨h1, h2, h3, h4⟩, h7, ⟨h5, h6⟩, h⟩ := h
    exact ⟨_, by simp only [appendZA]; rw [if_pos ⟨h7, h1, .inl h2, h3, h4, h5, h6⟩], h⟩
  · cases h

def bytesK {R : Type} (xs : List AV) (K : List UInt8 → Option R) : Option R := if xs.length ≤ 9223372036854775807 then (bytesL xs).bind K else none
def noOr : Oracle := ⟨fun _ _ _ => none, fun _ _ _ _ => none⟩

def opK (H : Hd) (s : Sh) (k : OpK) (ds : List AV) (mem : Mem) (K : AV → Mem → Option R) : Option R :=
  match k with
  | .pure q => pureK s q ds fun d => K d.plain mem
  | .append z bytes str => (match ds with
    | [x, y] => appendK z bytes str x y fun d => K d mem
    | _ => none)
  | .appendZ z bytes agg => appendZK z bytes agg ds fun d => K d mem
  | .call f => H.call f ds mem K
  | .callv => (match ds with
    | .fn f caps :: rest => H.call f (rest ++ caps.map AV.plain) mem K
    | _ => none)
  | .cvBS => (match ds with
    | [.sl _ z xs] => if z = 1 then bytesK xs fun l => K (.str l) mem else none
    | _ => none)
  | .cvSB => (match ds with
    | [.str s] => if s.length ≤ 4611686018427387904 then K (.sl true 1 (s.map byte)) mem else none
    | _ => none)
  | k => match opA noOr k ds mem with
    | some (d, m) => K d m
    | none => none

/-- What is told of calls is so. -/
def HdCalls (Q : Prog) (H : Hd) : Prop :=
  ∀ f ds mem (R : Type) (K : AV → Mem → Option R) r, H.call f ds mem K = some r → ∃ d mem', (lim Q).call f ds mem = some (d, mem') ∧ (H.quiet f = true → mem' = mem) ∧ K d mem' = some r

/-- Does the operation leave the memory alone? -/
def OpK.quiet (H : Hd) : OpK → Bool
  | .load _ _ tk => !tk
  | .call f => H.quiet f
  | k => k.memFree

def OpK.quietD (H : Hd) (k : OpK) (ds : List AV) : Bool :=
  match k with
  | .callv => (match ds with
    | .fn f _ :: _ => H.quiet f
    | _ => false)
  | k => k.quiet H
theorem OpK.quietD_of {H : Hd} {k : OpK} {ds : List AV} (hk : k.memFree = true ∨ (∃ n ag tk, k = .load n ag tk) ∨ (∃ f, k = .call f) ∨ (∃ n, k = .store n) ∨ (∃ n, k = .new n) ∨ (∃ t e, k = .newB t e)) : k.quietD H ds = k.quiet H := by
  cases k <;> first | rfl | (exfalso; rcases hk with h | ⟨_, _, _, h⟩ | ⟨_, h⟩ | ⟨_, h⟩ | ⟨_, h⟩ | ⟨_, _, h⟩ <;> cases h)

theorem opK_sound {Q : Prog} {H : Hd} (hH : HdCalls Q H) {s : Sh} {k : OpK} {ds : List AV} {mem : Mem} {K : AV → Mem → Option R} {r : R} (h : opK H s k ds mem K = some r) :
    ∃ d mem', opA (lim Q) k ds mem = some (d, mem') ∧ (k.quietD H ds = true → mem' = mem) ∧ K d mem' = some r := by
  have gen : ∀ (k : OpK), (∀ Φ : Oracle, opA Φ k ds mem = opA noOr k ds mem) → (k.quiet H = true → ∀ d m, opA noOr k ds mem = some (d, m) → m = mem) → (match opA noOr k ds mem with | some (d, m) => K d m | none => none) = some r →
      ∃ d mem', opA (lim Q) k ds mem = some (d, mem') ∧ (k.quiet H = true → mem' = mem) ∧ K d mem' = some r := by
    intro k he hq h
    split at h
    · rename_i d m hd; exact ⟨d, m, by rw [he, hd], fun hk => hq hk d m hd, h⟩
    · cases h
  have free : ∀ k : OpK, k.memFree = true → ∀ d m, opA noOr k ds mem = some (d, m) → m = mem := fun k hk d m hd => (opA_free hk hd).1
  cases k with
  | pure q =>
    obtain ⟨d, h1, h2⟩ := pureK_sound h
    exact ⟨_, _, by simp only [opA, h1], fun _ => rfl, h2⟩
  | append z b st =>
    simp only [opK] at h
    split at h
    · obtain ⟨d, h1, h2⟩ := appendK_sound h
      exact ⟨d, mem, by simp only [opA, h1], fun _ => rfl, h2⟩
    · cases h
  | appendZ z b ag =>
    simp only [opK] at h
    obtain ⟨d, h1, h2⟩ := appendZK_sound h
    exact ⟨d, mem, by simp only [opA, h1], fun _ => rfl, h2⟩
  | call f =>
    obtain ⟨d, m, h1, h2, h3⟩ := hH f ds mem R K r h
    exact ⟨d, m, h1, h2, h3⟩
  | callv =>
    simp only [opK] at h
    split at h
    · obtain ⟨d, m, h1, h2, h3⟩ := hH _ _ mem R K r h
      exact ⟨d, m, h1, h2, h3⟩
    · cases h
  | mov => exact gen .mov (fun _ => rfl) (fun hk => free _ hk) h
  | ext i => exact gen (.ext i) (fun _ => rfl) (fun hk => free _ hk) h
  | load n ag tk =>
    refine gen (.load n ag tk) (fun _ => rfl) (fun hk d m hd => ?_) h
    simp only [OpK.quiet, Bool.not_eq_true'] at hk
    subst hk
    simp only [opA, Bool.false_eq_true, if_false] at hd
    split at hd
    · split at hd
      · split at hd
        · cases hd; rfl
        · cases hd
      · cases hd
    · split at hd
      · cases hd; rfl
      · cases hd
    · cases hd
  | store n => exact gen (.store n) (fun _ => rfl) (fun hk => by cases hk) h
  | new n => exact gen (.new n) (fun _ => rfl) (fun hk => by cases hk) h
  | newB t e => exact gen (.newB t e) (fun _ => rfl) (fun hk => by cases hk) h
  | build z p => exact gen (.build z p) (fun _ => rfl) (fun hk => free _ hk) h
  | bslice z ag l => exact gen (.bslice z ag l) (fun _ => rfl) (fun hk => free _ hk) h
  | cvBS =>
    simp only [opK] at h
    split at h
    · rename_i o z xs
      simp only [Option.ite_none_right_eq_some, bytesK] at h
      obtain ⟨hz, hl, h⟩ := h
      cases hb : bytesL xs with
      | none => rw [hb] at h; cases h
      | some l =>
        rw [hb] at h
        exact ⟨.str l, mem, by simp only [opA, if_pos (And.intro hz hl), hb], fun _ => rfl, h⟩
    · cases h
  | cvSB =>
    simp only [opK] at h
    split at h
    · rename_i s
      simp only [Option.ite_none_right_eq_some] at h
      exact ⟨_, mem, by simp only [opA, if_pos h.1], fun _ => rfl, h.2⟩
    · cases h
  | chk => exact gen .chk (fun _ => rfl) (fun hk => free _ hk) h
  | bad => cases h
 end
end Go.Eng
 end

 section
set_option linter.unusedVariables false
set_option linter.unusedSimpArgs false
set_option linter.unusedSectionVars false
namespace Go.Eng
 section
variable {R : Type}

def quietE (H : Hd) (o : RInst) (env : Env) : Bool := o.op.quietD H (evs env o.xs).1
def goK (H : Hd) (s : Sh) (o : RInst) (env : Env) (mem : Mem) (K : Env → Mem → Option R) : Option R :=
  opK H s o.op (evs env o.xs).1 mem fun d mem' => K (putDst (evs env o.xs).2 o.dst d) mem'
def passK (o : RInst) (env : Env) (mem : Mem) (K : Env → Mem → Option R) : Option R := K (putDst env o.dst (.tup [])) mem
def instK (H : Hd) (s : Sh) (o : RInst) (env : Env) (mem : Mem) (K : Env → Mem → Option R) : Option R :=
  match o.guard with
  | none => goK H s o env mem K
  | some (t, want) => match env.getD t .junk with
    | .bool b => cond b (cond want (goK H s o (env.set t (.bool true)) mem K) (passK o (env.set t (.bool true)) mem K))
        (cond want (passK o (env.set t (.bool false)) mem K) (goK H s o (env.set t (.bool false)) mem K))
    | .tup [] => passK o env mem K
    | _ => none

theorem goK_sound {Q : Prog} {H : Hd} (hH : HdCalls Q H) {s : Sh} {o : RInst} {env : Env} {mem : Mem} {K : Env → Mem → Option R} {r : R} (h : goK H s o env mem K = some r) :
    ∃ e m, stepGo (lim Q) o env mem = some (e, m) ∧ (quietE H o env = true → m = mem) ∧ K e m = some r := by
  obtain ⟨d, m, h1, h2, h3⟩ := opK_sound hH h
  exact ⟨_, m, by simp only [stepGo, h1], h2, h3⟩
theorem set_getD {env : Env} {t : Nat} {d : AV} (h : env.getD t .junk = d) : env.set t d = env := by
  rw [List.getD_eq_getElem?_getD] at h
  cases he : env[t]? with
  | none => exact set_of_none he d
  | some x => rw [he] at h; simp at h; subst h; exact set_self he
theorem instK_sound {Q : Prog} {H : Hd} (hH : HdCalls Q H) {s : Sh} {o : RInst} {env : Env} {mem : Mem} {K : Env → Mem → Option R} {r : R} (h : instK H s o env mem K = some r) :
    ∃ e m, stepInst (lim Q) o env mem = some (e, m) ∧ (quietE H o env = true → m = mem) ∧ K e m = some r := by
  unfold instK at h
  unfold stepInst
  split at h
  · rename_i hg; simp only [hg]; exact goK_sound hH h
  · rename_i t want hg
    simp only [hg]
    split at h
    · rename_i b hb
      rw [hb]
      simp only [gOk]
      cases b with
      | true =>
        rw [set_getD hb] at h
        cases want with
        | true => exact goK_sound hH h
        | false => exact ⟨_, mem, rfl, fun _ => rfl, h⟩
      | false =>
        rw [set_getD hb] at h
        cases want with
        | true => exact ⟨_, mem, rfl, fun _ => rfl, h⟩
        | false => exact goK_sound hH h
    · rename_i hb
      rw [hb]
      exact ⟨_, mem, rfl, fun _ => rfl, h⟩
    · cases h

/-! ### Groups -/
/-- What an instruction reads isn't forgotten. -/
def rdOk (F : List Nat) (o : RInst) : Bool := (o.reads ++ o.writes).all fun t => !F.contains t

/-- May the writer at place k stand there (a region that draws)? -/
def stabK (sx : List (Nat × List Nat)) (all : List RInst) (F : List Nat) (k : Nat) (o : RInst) (env : Env) (mem : Mem) : Bool :=
  match sx.lookup k with
  | none => true
  | some l => match o.op, (evs env o.xs).1 with
    | .store _, .ptr b _ :: _ => l.all fun i => match all[i]? with
      | some r => (r.xs.flatMap Opd.slots).all (fun t => !F.contains t) && (match (evs env r.xs).1 with
        | [.ptr b' _] => b' != b && decide (b' < mem.length)
        | [.pel _] => true
        | _ => false)
      | none => false
    | _, _ => false
def drK (H : Hd) (dr : Option (List Nat × List (Nat × List Nat))) (all : List RInst) (F : List Nat) (k : Nat) (o : RInst) (env : Env) (mem : Mem) : Bool :=
  match dr with
  | none => true
  | some (wl, sx) => (quietE H o env || wl.contains k) && (quietE H o env || stabK sx all F k o env mem)

def opsK (H : Hd) : List (RInst × Sh) → Env → Mem → (Env → Option R) → Option R
  | [], env, mem, K => K env
  | (o, s) :: os, env, mem, K => if quietE H o env then instK H s o env mem fun env' _ => opsK H os env' mem K else none

def forget (F : List Nat) (env : Env) : Env := env.zipIdx.map fun (d, i) => if F.contains i then .junk else d

def grpK (H : Hd) (dr : Option (List Nat × List (Nat × List Nat))) (all : List RInst) : List Grp → Nat → List Nat → Env → Mem → (List Nat → Env → Mem → Option R) → Option R
  | [], k, F, env, mem, K => K F env mem
  | .one o s :: gs, k, F, env, mem, K => if rdOk F o && drK H dr all F k o env mem then instK H s o env mem fun env' mem' => grpK H dr all gs (k + 1) F env' mem' K else none
  | .sub os t :: gs, k, F, env, mem, K => if os.all (fun o => rdOk F o.1) then
      (opsK H os env mem fun env' => match env'.getD t .junk with | .bool b => some b | _ => none).bind fun b =>
        grpK H dr all gs (k + os.length) (((os.flatMap fun o => o.1.writes).filter fun x => x != t) ++ F) ((forget ((os.flatMap fun o => o.1.writes).filter fun x => x != t) env).set t (.bool b)) mem K
    else none

/-- The same but for what was forgotten. -/
structure SameF (F : List Nat) (e e' : Env) : Prop where
  len : e.length = e'.length
  get : ∀ t, t ∉ F → e.getD t .junk = e'.getD t .junk

theorem SameF.agree {F : List Nat} {e e' : Env} (h : SameF F e e') {S : List Nat} (hs : S.all (fun t => !F.contains t) = true) : agree e e' S := by
  intro t ht
  have := List.all_eq_true.1 hs t ht
  exact h.get t (by simpa using this)

/-- The run of a region: in the text's order, checked where it draws. -/
def execX (Φ : Oracle) (dr : Option (List Nat × List (Nat × List Nat))) (all os : List RInst) (k : Nat) (env : Env) (mem : Mem) : Option (Env × Mem) :=
  match dr with
  | none => execOps Φ os env mem
  | some (wl, sx) => execDraw Φ wl sx all os k env mem
def chkX (dr : Option (List Nat × List (Nat × List Nat))) (all : List RInst) (k : Nat) (o : RInst) (env : Env) (mem mem' : Mem) : Bool :=
  match dr with
  | none => true
  | some (wl, sx) => (o.op.memFree || wl.contains k || eqbM mem' mem) && stabAt sx all k env mem mem'
theorem execX_cons {Φ : Oracle} {dr : Option (List Nat × List (Nat × List Nat))} {all os : List RInst} {k : Nat} {o : RInst} {env e1 : Env} {mem m1 : Mem} (h : stepInst Φ o env mem = some (e1, m1)) (hc : chkX dr all k o env mem m1 = true) :
    execX Φ dr all (o :: os) k env mem = execX Φ dr all os (k + 1) e1 m1 := by
  cases dr with
  | none => simp only [execX, execOps, h]
  | some p =>
    obtain ⟨wl, sx⟩ := p
    simp only [execX, execDraw, h]
    simp only [chkX] at hc
    rw [if_pos hc]
theorem chkX_same {dr : Option (List Nat × List (Nat × List Nat))} {all : List RInst} {k : Nat} {o : RInst} {env : Env} {mem : Mem} : chkX dr all k o env mem mem = true := by
  cases dr with
  | none => rfl
  | some p =>
    obtain ⟨wl, sx⟩ := p
    simp only [chkX, eqbM_refl, Bool.or_true, Bool.true_and]
    unfold stabAt
    split
    · rfl
    · simp [eqbM_refl]

/-- A store changes its own variable alone. -/
theorem store_step {Φ : Oracle} {o : RInst} {e e1 : Env} {mem m1 : Mem} {n b off : Nat} {ds : List AV} (hop : o.op = .store n) (hx : (evs e o.xs).1 = .ptr b off :: ds) (h : stepInst Φ o e mem = some (e1, m1)) : m1 = mem ∨ ∃ cs, m1 = mem.set b cs := by
  have go : ∀ e1 m1, stepGo Φ o e mem = some (e1, m1) → m1 = mem ∨ ∃ cs, m1 = mem.set b cs := by
    intro e1 m1 h
    unfold stepGo at h
    rw [hop, hx] at h
    simp only [opA] at h
    split at h
    · rename_i d m hd
      cases h
      split at hd
      · rename_i b' o' x heq
        cases heq
        split at hd
        · simp only [Option.ite_none_right_eq_some, Option.some.injEq, Prod.mk.injEq] at hd
          exact .inr ⟨_, hd.2.2.symm⟩
        · cases hd
      · cases hd
    · cases h
  unfold stepInst at h
  split at h
  · exact go _ _ h
  · split at h
    · exact go _ _ h
    · cases h; exact .inl rfl
    · cases h

theorem drK_chk {H : Hd} {dr : Option (List Nat × List (Nat × List Nat))} {all : List RInst} {F : List Nat} {k : Nat} {o : RInst} {e e' e1 : Env} {mem m1 : Mem} {Φ : Oracle} (hF : SameF F e e') (hr : rdOk F o = true)
    (h : drK H dr all F k o e mem = true) (hq : quietE H o e = true → m1 = mem) (hs : stepInst Φ o e' mem = some (e1, m1)) : chkX dr all k o e' mem m1 = true := by
  cases dr with
  | none => rfl
  | some p =>
    obtain ⟨wl, sx⟩ := p
    by_cases hqt : quietE H o e = true
    · rw [hq hqt]; exact chkX_same
    · simp only [drK, hqt, Bool.false_or, Bool.and_eq_true] at h
      simp only [chkX, Bool.and_eq_true]
      refine ⟨by rw [h.1]; simp, ?_⟩
      have h2 := h.2
      unfold stabK at h2
      unfold stabAt
      split at h2
      · rename_i hl; rw [hl]
      · rename_i l hl
        rw [hl]
        simp only
        split at h2
        · rename_i n b ds off hop hx
          have hxs : (evs e' o.xs).1 = (evs e o.xs).1 := (evs_local o.xs e' e hF.len.symm (fun t ht => (hF.get t (by
            have := List.all_eq_true.1 hr t (by simp only [RInst.reads, List.mem_append]; exact .inl (.inr ht))
            simpa using this)).symm)).1
          rw [Bool.or_eq_true]
          rcases store_step hop (hxs.trans hx) hs with rfl | ⟨cs, rfl⟩
          · exact .inl (eqbM_refl _)
          · right
            unfold stable
            rw [List.all_eq_true] at h2 ⊢
            intro i hi
            have := h2 i hi
            split at this
            · rename_i r hri
              simp only [Bool.and_eq_true] at this
              obtain ⟨t1, t2⟩ := this
              rw [hri]
              have hrx : (evs e' r.xs).1 = (evs e r.xs).1 := (evs_local r.xs e' e hF.len.symm (fun t ht => (hF.get t (by
                have := List.all_eq_true.1 t1 t ht
                simpa using this)).symm)).1
              simp only [hrx]
              split at t2
              · rename_i b' o' hb'
                simp only [Bool.and_eq_true, bne_iff_ne, ne_eq, decide_eq_true_eq] at t2
                rw [hb']
                simp only
                rw [List.getElem?_set_ne (Ne.symm t2.1), List.getElem?_eq_getElem t2.2]
                exact eqbL_refl _
              · rename_i cs' hb'; rw [hb']
              · cases t2
            · cases this
        · cases h2

theorem sameF_step {Φ : Oracle} {F : List Nat} {o : RInst} {e e' e1 : Env} {mem m1 : Mem} (hF : SameF F e e') (hr : rdOk F o = true) (h : stepInst Φ o e mem = some (e1, m1)) :
    ∃ e1', stepInst Φ o e' mem = some (e1', m1) ∧ SameF F e1 e1' := by
  have hag : agree e' e (o.reads ++ o.writes) := fun t ht => (hF.agree hr t ht).symm
  obtain ⟨e1', g1, g2, g3, g4, g5, g6⟩ := step_local hF.len.symm hag h
  refine ⟨e1', g1, ⟨by rw [g3, g2, hF.len], fun t ht => ?_⟩⟩
  by_cases hm : t ∈ o.writes
  · exact (g4 t hm).symm
  · rw [g6 t hm, g5 t hm]; exact hF.get t ht

theorem opsK_sound {Q : Prog} {H : Hd} (hH : HdCalls Q H) {dr : Option (List Nat × List (Nat × List Nat))} {all rest : List RInst} : ∀ {os : List (RInst × Sh)} {F : List Nat} {k : Nat} {e e' : Env} {mem : Mem} {K : Env → Option R} {r : R}, SameF F e e' →
    os.all (fun o => rdOk F o.1) = true → opsK H os e mem K = some r →
    ∃ e1 e1', execX (lim Q) dr all (os.map (·.1) ++ rest) k e' mem = execX (lim Q) dr all rest (k + os.length) e1' mem ∧ SameF F e1 e1' ∧ K e1 = some r ∧ (∀ t, t ∉ (os.flatMap fun o => o.1.writes) → e1.getD t .junk = e.getD t .junk) ∧ e1.length = e.length
  | [], F, k, e, e', mem, K, r, hF, h1, h => ⟨e, e', rfl, hF, h, fun t _ => rfl, rfl⟩
  | (o, s) :: os, F, k, e, e', mem, K, r, hF, h1, h => by
    simp only [opsK, Option.ite_none_right_eq_some] at h
    obtain ⟨hq, h⟩ := h
    obtain ⟨ea, ma, a1, a2, a3⟩ := instK_sound hH h
    have := a2 hq
    subst this
    simp only [List.all_cons, Bool.and_eq_true] at h1
    obtain ⟨eb, b1, b2⟩ := sameF_step hF h1.1 a1
    obtain ⟨e1, e1', c1, c2, c3, c4, c5⟩ := opsK_sound (rest := rest) (k := k + 1) hH b2 h1.2 a3
    obtain ⟨_, _, d2, d3, d4, d5, d6⟩ := step_local (e := e) (f := e) rfl (fun t _ => rfl) a1
    refine ⟨e1, e1', ?_, c2, c3, fun t ht => ?_, by rw [c5, d3]⟩
    · simp only [List.map_cons, List.cons_append, List.length_cons]
      rw [execX_cons b1 chkX_same, c1]
      congr 1; omega
    · simp only [List.flatMap_cons, List.mem_append, not_or] at ht
      rw [c4 t ht.2]; exact d6 t ht.1

theorem forget_get {F : List Nat} {e : Env} {t : Nat} : (forget F e).getD t .junk = if F.contains t then .junk else e.getD t .junk := by
  unfold forget
  rw [List.getD_eq_getElem?_getD, List.getD_eq_getElem?_getD, List.getElem?_map, List.getElem?_zipIdx]
  cases e[t]? <;> simp
theorem forget_len {F : List Nat} {e : Env} : (forget F e).length = e.length := by simp [forget]

theorem grpK_sound {Q : Prog} {H : Hd} (hH : HdCalls Q H) {dr : Option (List Nat × List (Nat × List Nat))} {all : List RInst} : ∀ {gs : List Grp} {F : List Nat} {k : Nat} {e e' : Env} {mem : Mem} {K : List Nat → Env → Mem → Option R} {r : R}, SameF F e e' →
    grpK H dr all gs k F e mem K = some r → ∃ F1 e1 e1' m1, execX (lim Q) dr all (flatG gs) k e' mem = some (e1', m1) ∧ SameF F1 e1 e1' ∧ K F1 e1 m1 = some r
  | [], F, k, e, e', mem, K, r, hF, h => ⟨F, e, e', mem, by cases dr <;> rfl, hF, h⟩
  | .one o s :: gs, F, k, e, e', mem, K, r, hF, h => by
    simp only [grpK, Option.ite_none_right_eq_some, Bool.and_eq_true] at h
    obtain ⟨⟨h1, h2⟩, h⟩ := h
    obtain ⟨ea, ma, a1, a2, a3⟩ := instK_sound hH h
    obtain ⟨eb, b1, b2⟩ := sameF_step hF h1 a1
    obtain ⟨F1, e1, e1', m1, c1, c2, c3⟩ := grpK_sound hH b2 a3
    refine ⟨F1, e1, e1', m1, ?_, c2, c3⟩
    simp only [flatG, List.flatMap_cons, Grp.flat, List.singleton_append]
    rw [execX_cons b1 (drK_chk hF h1 h2 a2 b1)]
    exact c1
  | .sub os t :: gs, F, k, e, e', mem, K, r, hF, h => by
    simp only [grpK, Option.ite_none_right_eq_some] at h
    obtain ⟨h1, h⟩ := h
    cases hb : (opsK H os e mem fun env' => match env'.getD t .junk with | .bool b => some b | _ => none) with
    | none => rw [hb] at h; cases h
    | some b =>
      rw [hb] at h
      simp only [Option.bind_some] at h
      obtain ⟨ea, ea', a1, a2, a3, a4, a5⟩ := opsK_sound (rest := flatG gs) (dr := dr) (all := all) (k := k) hH hF h1 hb
      have hba : ea.getD t .junk = .bool b := by
        split at a3
        · rename_i b' hb'; cases a3; exact hb'
        · cases a3
      have hS : SameF (((os.flatMap fun o => o.1.writes).filter fun x => x != t) ++ F) ((forget ((os.flatMap fun o => o.1.writes).filter fun x => x != t) e).set t (.bool b)) ea' := by
        refine ⟨by rw [List.length_set, forget_len, ← a5, a2.len], fun x hx => ?_⟩
        simp only [List.mem_append, not_or] at hx
        rw [← a2.get x hx.2]
        by_cases hxt : t = x
        · subst hxt
          rw [hba, getD_set]
          · simp
          · rw [forget_len, ← a5]
            rcases Nat.lt_or_ge t ea.length with hlt | hge
            · exact hlt
            · rw [List.getD_eq_getElem?_getD, List.getElem?_eq_none hge] at hba; cases hba
        · rw [getD_set_ne hxt, forget_get]
          have hn : x ∉ (os.flatMap fun o => o.1.writes).filter fun x => x != t := hx.1
          rw [if_neg (by simpa using hn)]
          refine (a4 x fun hm => hn (List.mem_filter.2 ⟨hm, by simpa using fun e => hxt e.symm⟩)).symm
      obtain ⟨F1, e1, e1', m1, c1, c2, c3⟩ := grpK_sound hH hS h
      refine ⟨F1, e1, e1', m1, ?_, c2, c3⟩
      simp only [flatG, List.flatMap_cons, Grp.flat] at a1 c1 ⊢
      rw [a1, c1]
 end
end Go.Eng
 end
