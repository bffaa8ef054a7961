/- Regions that draw their order: the text's order tells what every order gives.
   Regions that draw: the theorem.
   The tail of a region behind append's macro, in every order: the theorem. -/
import Derived.Test.YtlgpcmklpknmcaaDoorEe
 section
set_option linter.unusedVariables false
set_option linter.unusedSimpArgs false
namespace Go.Eng

/-! ### Who comes before whom -/
inductive Anc (ops : Array Oper) : Nat → Nat → Prop
  | edge {j i : Nat} {o : Oper} {e : Edge} (ho : ops[j]? = some o) (he : e ∈ o.after) (hb : Region.binds .any e = true) (hi : e.on = i) : Anc ops j i
  | step {j i k : Nat} (h1 : Anc ops j k) (h2 : Anc ops k i) : Anc ops j i

def maskOf (acc : List Nat) (o : Oper) : Nat := o.after.toList.foldl (fun s e => if Region.binds .any e then s ||| 2 ^ e.on ||| acc.getD e.on 0 else s) 0
def masks (ops : List Oper) (acc : List Nat) : List Nat := match ops with
  | [] => acc
  | o :: os => masks os (acc ++ [maskOf acc o])
/-- Is i before j? -/
def befB (ms : List Nat) (i j : Nat) : Bool := (ms.getD j 0).testBit i

theorem mask_anc {ops : Array Oper} {j : Nat} {o : Oper} (ho : ops[j]? = some o) {acc : List Nat} (hacc : ∀ k i, (acc.getD k 0).testBit i = true → Anc ops k i) {i : Nat} (h : (maskOf acc o).testBit i = true) : Anc ops j i := by
  unfold maskOf at h
  have key : ∀ (l : List Edge) (s : Nat), (∀ e ∈ l, e ∈ o.after) → (l.foldl (fun s e => if Region.binds .any e then s ||| 2 ^ e.on ||| acc.getD e.on 0 else s) s).testBit i = true → s.testBit i = true ∨ Anc ops j i := by
    intro l
    induction l with
    | nil => intro s _ h; exact .inl h
    | cons e l ih =>
      intro s hm h
      rw [List.foldl_cons] at h
      rcases ih _ (fun e' he' => hm e' (List.mem_cons_of_mem _ he')) h with h1 | h1
      · split at h1
        · rename_i hb
          simp only [Nat.testBit_or, Bool.or_eq_true] at h1
          rcases h1 with (h1 | h1) | h1
          · exact .inl h1
          · right
            have : e.on = i := by
              rw [Nat.testBit_two_pow] at h1; simpa using h1
            exact .edge ho (hm e List.mem_cons_self) hb this
          · exact .inr (.step (.edge ho (hm e List.mem_cons_self) hb rfl) (hacc _ _ h1))
        · exact .inl h1
      · exact .inr h1
  rcases key _ 0 (fun e he => Array.mem_toList_iff.1 he) h with h1 | h1
  · simp at h1
  · exact h1

theorem masks_anc {ops : Array Oper} : ∀ (os : List Oper) (acc : List Nat), (∀ j : Nat, os[j]? = ops[acc.length + j]?) → (∀ k i, (acc.getD k 0).testBit i = true → Anc ops k i) →
    ∀ k i, ((masks os acc).getD k 0).testBit i = true → Anc ops k i
  | [], acc, _, hacc => hacc
  | o :: os, acc, hj, hacc => by
    unfold masks
    refine masks_anc os _ (fun j => by have := hj (j + 1); simp only [List.getElem?_cons_succ] at this; rw [this]; simp [Nat.add_assoc, Nat.add_comm 1 j]) fun k i h => ?_
    have ho : ops[acc.length]? = some o := by have := hj 0; simpa using this.symm
    rcases Nat.lt_trichotomy k acc.length with hk | hk | hk
    · have : (acc ++ [maskOf acc o]).getD k 0 = acc.getD k 0 := by simp [List.getD_eq_getElem?_getD, List.getElem?_append_left hk]
      rw [this] at h; exact hacc k i h
    · subst hk
      have : (acc ++ [maskOf acc o]).getD acc.length 0 = maskOf acc o := by simp [List.getD_eq_getElem?_getD]
      rw [this] at h; exact mask_anc ho hacc h
    · have : (acc ++ [maskOf acc o]).getD k 0 = 0 := by
        simp only [List.getD_eq_getElem?_getD]
        rw [List.getElem?_eq_none (by simp; omega)]; rfl
      rw [this] at h; simp at h

/-- What has come up is closed under 'before'. -/
theorem anc_closed {ops : Array Oper} {E : Nat → Prop} (hE : ∀ j o e, E j → ops[j]? = some o → e ∈ o.after → Region.binds .any e = true → E e.on) {j i : Nat} (h : Anc ops j i) : E j → E i := by
  induction h with
  | edge ho he hb hi => intro hj; exact hi ▸ hE _ _ _ hj ho he hb
  | step _ _ ih1 ih2 => exact fun hj => ih2 (ih1 hj)

/-! ### What an instruction reads and writes -/
def Opd.slots : Opd → List Nat
  | .t i _ => [i]
  | .c _ => []
def Opd.taken : Opd → List Nat
  | .t i true => [i]
  | _ => []
def RInst.reads (r : RInst) : List Nat := (match r.guard with | some (s, _) => [s] | none => []) ++ r.xs.flatMap Opd.slots
def RInst.writes (r : RInst) : List Nat := (match r.dst with | some i => [i] | none => []) ++ r.xs.flatMap Opd.taken

def agree (e f : Env) (S : List Nat) : Prop := ∀ t ∈ S, e.getD t .junk = f.getD t .junk

theorem getD_set {e : Env} {i t : Nat} {d : AV} (hl : i < e.length) : (e.set i d).getD t .junk = if i = t then d else e.getD t .junk := by
  simp only [List.getD_eq_getElem?_getD, List.getElem?_set]
  split
  · rename_i h; subst h; simp [hl]
  · rfl
theorem getD_set_ne {e : Env} {i t : Nat} {d : AV} (h : i ≠ t) : (e.set i d).getD t .junk = e.getD t .junk := by
  simp only [List.getD_eq_getElem?_getD, List.getElem?_set_ne h]
theorem getD_set_len {e f : Env} {i t : Nat} {d : AV} (hl : e.length = f.length) (h : e.getD t .junk = f.getD t .junk) : (e.set i d).getD t .junk = (f.set i d).getD t .junk := by
  by_cases hi : i = t
  · subst hi
    by_cases hlt : i < e.length
    · rw [getD_set hlt, getD_set (by omega)]; simp
    · rw [set_of_none (by simp; omega), set_of_none (by simp; omega)]; exact h
  · rw [getD_set_ne hi, getD_set_ne hi]; exact h

/-- Operands: what they read decides. -/
theorem evs_local : ∀ (xs : List Opd) (e f : Env), e.length = f.length → agree e f (xs.flatMap Opd.slots) →
    (evs e xs).1 = (evs f xs).1 ∧ (∀ t ∈ xs.flatMap Opd.taken, (evs e xs).2.getD t .junk = (evs f xs).2.getD t .junk) ∧ (∀ t, t ∉ xs.flatMap Opd.taken → (evs e xs).2.getD t .junk = e.getD t .junk) ∧ (evs e xs).2.length = e.length ∧
    (∀ t, e.getD t .junk = f.getD t .junk → (evs e xs).2.getD t .junk = (evs f xs).2.getD t .junk)
  | [], e, f, hl, h => ⟨rfl, fun t ht => by simp at ht, fun t _ => rfl, rfl, fun t h => h⟩
  | x :: xs, e, f, hl, h => by
    have hx : ∀ t ∈ x.slots, e.getD t .junk = f.getD t .junk := fun t ht => h t (by simp [ht])
    have hev : x.ev e = x.ev f := by
      cases x with
      | c d => rfl
      | t i tk => have := hx i (by simp [Opd.slots]); cases tk <;> simp only [Opd.ev, this]
    have hcl : (x.clr e).length = (x.clr f).length := by
      cases x with
      | c d => exact hl
      | t i tk => cases tk <;> simp [Opd.clr, hl]
    have hcle : (x.clr e).length = e.length := by
      cases x with
      | c d => rfl
      | t i tk => cases tk <;> simp [Opd.clr]
    have hkeep : ∀ t, e.getD t .junk = f.getD t .junk → (x.clr e).getD t .junk = (x.clr f).getD t .junk := by
      intro t ht
      cases x with
      | c d => exact ht
      | t i tk =>
        cases tk with
        | false => exact ht
        | true =>
          have := hx i (by simp [Opd.slots])
          simp only [Opd.clr, this]
          exact getD_set_len hl ht
    have hout : ∀ t, t ∉ x.taken → (x.clr e).getD t .junk = e.getD t .junk := by
      intro t ht
      cases x with
      | c d => rfl
      | t i tk =>
        cases tk with
        | false => rfl
        | true => exact getD_set_ne (by simp [Opd.taken] at ht; exact fun h => ht h.symm)
    obtain ⟨a1, a2, a3, a4, a5⟩ := evs_local xs (x.clr e) (x.clr f) hcl fun t ht => hkeep t (h t (by simp only [List.flatMap_cons, List.mem_append]; exact .inr ht))
    refine ⟨by simp only [evs, hev, a1], fun t ht => ?_, fun t ht => ?_, by simp only [evs]; rw [a4, hcle], fun t ht => by simp only [evs]; exact a5 t (hkeep t ht)⟩
    · simp only [evs]
      simp only [List.flatMap_cons, List.mem_append] at ht
      by_cases h2 : t ∈ xs.flatMap Opd.taken
      · exact a2 t h2
      · have h1 : t ∈ x.taken := ht.resolve_right h2
        refine a5 t (hkeep t (hx t ?_))
        cases x with
        | c d => simp [Opd.taken] at h1
        | t i tk => cases tk <;> simp [Opd.taken, Opd.slots] at h1 ⊢; exact h1
    · simp only [evs]
      simp only [List.flatMap_cons, List.mem_append, not_or] at ht
      rw [a3 t ht.2]; exact hout t ht.1

/-- **Locality**: what an instruction reads decides what it writes; the rest stays. -/
theorem step_local {Φ : Oracle} {r : RInst} {e f : Env} {mem mem1 : Mem} {f' : Env} (hl : e.length = f.length) (hag : agree e f (r.reads ++ r.writes)) (hs : stepInst Φ r f mem = some (f', mem1)) :
    ∃ e', stepInst Φ r e mem = some (e', mem1) ∧ e'.length = e.length ∧ f'.length = f.length ∧ agree e' f' r.writes ∧ (∀ t, t ∉ r.writes → e'.getD t .junk = e.getD t .junk) ∧ (∀ t, t ∉ r.writes → f'.getD t .junk = f.getD t .junk) := by
  have hagx : agree e f (r.xs.flatMap Opd.slots) := fun t ht => hag t (by simp only [RInst.reads, List.mem_append]; exact .inl (.inr ht))
  obtain ⟨a1, a2, a3, a4, a5⟩ := evs_local r.xs e f hl hagx
  obtain ⟨_, _, b3, b4, _⟩ := evs_local r.xs f e hl.symm (fun t ht => (hagx t ht).symm)
  have put : ∀ d, (putDst (evs e r.xs).2 r.dst d).length = e.length ∧ (putDst (evs f r.xs).2 r.dst d).length = f.length ∧ agree (putDst (evs e r.xs).2 r.dst d) (putDst (evs f r.xs).2 r.dst d) r.writes ∧
      (∀ t, t ∉ r.writes → (putDst (evs e r.xs).2 r.dst d).getD t .junk = e.getD t .junk) ∧ (∀ t, t ∉ r.writes → (putDst (evs f r.xs).2 r.dst d).getD t .junk = f.getD t .junk) := by
    intro d
    unfold RInst.writes agree
    cases hdst : r.dst with
    | none =>
      simp only [putDst, List.nil_append]
      exact ⟨a4, b4, a2, a3, b3⟩
    | some i =>
      simp only [putDst, List.length_set, List.singleton_append, List.mem_cons, not_or]
      refine ⟨a4, b4, fun t ht => ?_, fun t ht => by rw [getD_set_ne (Ne.symm ht.1)]; exact a3 t ht.2, fun t ht => by rw [getD_set_ne (Ne.symm ht.1)]; exact b3 t ht.2⟩
      refine getD_set_len (by rw [a4, b4, hl]) ?_
      rcases ht with rfl | ht
      · exact a5 t (hag t (by unfold RInst.writes; rw [hdst]; simp))
      · exact a2 t ht
  have go : ∀ f' mem1, stepGo Φ r f mem = some (f', mem1) → ∃ e', stepGo Φ r e mem = some (e', mem1) ∧ e'.length = e.length ∧ f'.length = f.length ∧ agree e' f' r.writes ∧ (∀ t, t ∉ r.writes → e'.getD t .junk = e.getD t .junk) ∧ (∀ t, t ∉ r.writes → f'.getD t .junk = f.getD t .junk) := by
    intro f' mem1 hs
    unfold stepGo at hs ⊢
    rw [a1]
    split at hs
    · rename_i d m hd
      cases hs
      exact ⟨_, rfl, put d⟩
    · cases hs
  unfold stepInst at hs ⊢
  cases hg : r.guard with
  | none => rw [hg] at hs; exact go _ _ hs
  | some p =>
    obtain ⟨s, want⟩ := p
    rw [hg] at hs
    simp only at hs ⊢
    rw [hag s (by simp [RInst.reads, hg])]
    split at hs
    · rename_i hq; exact go _ _ hs
    · rename_i hq
      cases hs
      -- passed by: the destination alone
      refine ⟨_, rfl, ?_, ?_, ?_, ?_, ?_⟩
      · cases r.dst <;> simp [putDst]
      · cases r.dst <;> simp [putDst]
      · intro t ht
        have h0 := hag t (List.mem_append_right _ ht)
        cases r.dst with
        | none => exact h0
        | some i => exact getD_set_len hl h0
      · intro t ht
        unfold RInst.writes at ht
        cases hd : r.dst with
        | none => rfl
        | some i => rw [hd] at ht; simp at ht; exact getD_set_ne (Ne.symm ht.1)
      · intro t ht
        unfold RInst.writes at ht
        cases hd : r.dst with
        | none => rfl
        | some i => rw [hd] at ht; simp at ht; exact getD_set_ne (Ne.symm ht.1)
    · cases hs
end Go.Eng
 end

 section
set_option linter.unusedVariables false
set_option linter.unusedSimpArgs false
namespace Go.Eng

def OpK.isLoad : OpK → Bool
  | .load _ _ false => true
  | _ => false
def OpK.isTake : OpK → Bool
  | .load _ _ true => true
  | _ => false
def OpK.isNew : OpK → Bool
  | .new _ => true
  | _ => false

def disj (a b : List Nat) : Bool := a.all fun x => !b.contains x
/-- i < j by text: ordered, or apart. -/
def pairOk (ms : List Nat) (ri rj : RInst) (i j : Nat) : Bool :=
  befB ms i j || (disj ri.writes rj.reads && disj ri.writes rj.writes && disj ri.reads rj.writes)
def ordered (ms : List Nat) (i j : Nat) : Bool := if i < j then befB ms i j else befB ms j i
/-- May an instruction that reads memory stand among the writers? -/
def stillOk (rs : List RInst) (sx : List (Nat × List Nat)) (ri : RInst) (i j : Nat) : Bool :=
  decide (j < rs.length) && (match sx.lookup j with | some l => l.contains i | none => false) && rs.zipIdx.all fun (r, k) => decide (k < i) || decide (j ≤ k) || disj ri.reads r.writes
def readerOk (ms : List Nat) (rs : List RInst) (wl : List Nat) (sx : List (Nat × List Nat)) (ri : RInst) (i : Nat) : Bool :=
  ri.op.memFree || wl.contains i || wl.all (ordered ms i) ||
  (wl.any fun j => ri.op.isLoad && ((match rs[j]? with | some rj => rj.op.isNew | none => false) || stillOk rs sx ri i j) && decide (i < j) && (wl.all fun j' => j' == j || ordered ms i j') && (wl.all fun j' => decide (j' < i) || decide (j ≤ j'))) ||
  (wl.any fun j => ri.op.isLoad && (match rs[j]? with | some rj => rj.op.isTake | none => false) && decide (j < i) && (wl.all fun j' => j' == j || ordered ms i j') && (wl.all fun j' => decide (j' ≤ j) || decide (i < j')))
def drawOk (ops : Array Oper) (rs : List RInst) (wl : List Nat) (sx : List (Nat × List Nat)) (bnd : Nat) : Bool :=
  let ms := masks ops.toList []
  (ops.toList.zipIdx.all fun (o, j) => o.after.toList.all fun e => !Region.binds .any e || decide (e.on < j)) &&
  (rs.zipIdx.all fun (rj, j) => (rs.take j).zipIdx.all fun (ri, i) => decide (bnd ≤ i) || pairOk ms ri rj i j) &&
  (wl.all fun j => wl.all fun i => decide (j ≤ i) || befB ms i j) &&
  (rs.zipIdx.all fun (ri, i) => readerOk ms rs wl sx ri i)

theorem all_zipIdx {α : Type} {l : List α} {p : α × Nat → Bool} (h : l.zipIdx.all p = true) {i : Nat} {x : α} (hx : l[i]? = some x) : p (x, i) = true := by
  rw [List.all_eq_true] at h
  refine h (x, i) (List.mem_of_getElem? (i := i) ?_)
  rw [List.getElem?_zipIdx, hx]; simp

 mutual
theorem eqb_eq : ∀ (d e : AV), d.eqb e = true → d = e
  | .int k n, e, h => by cases e <;> simp [AV.eqb] at h; obtain ⟨rfl, rfl⟩ := h; rfl
  | .bool b, e, h => by cases e <;> simp [AV.eqb] at h; subst h; rfl
  | .str s, e, h => by cases e <;> simp [AV.eqb] at h; subst h; rfl
  | .sl o z xs, e, h => by
    cases e <;> simp [AV.eqb] at h
    obtain ⟨⟨rfl, rfl⟩, h⟩ := h; rw [eqbL_eq _ _ h]
  | .ptr b o, e, h => by cases e <;> simp [AV.eqb] at h; obtain ⟨rfl, rfl⟩ := h; rfl
  | .nilp, e, h => by cases e <;> simp [AV.eqb] at h; rfl
  | .pel cs, e, h => by cases e <;> simp [AV.eqb] at h; rw [eqbL_eq _ _ h]
  | .fn f cs, e, h => by cases e <;> simp [AV.eqb] at h; obtain ⟨rfl, h⟩ := h; rw [eqbL_eq _ _ h]
  | .nilfn, e, h => by cases e <;> simp [AV.eqb] at h; rfl
  | .iface t d, e, h => by cases e <;> simp [AV.eqb] at h; obtain ⟨rfl, h⟩ := h; rw [eqb_eq _ _ h]
  | .nili, e, h => by cases e <;> simp [AV.eqb] at h; rfl
  | .agg cs, e, h => by cases e <;> simp [AV.eqb] at h; rw [eqbL_eq _ _ h]
  | .tup cs, e, h => by cases e <;> simp [AV.eqb] at h; rw [eqbL_eq _ _ h]
  | .junk, e, h => by cases e <;> simp [AV.eqb] at h; rfl
  | .bld t e', e, h => by cases e <;> simp [AV.eqb] at h; obtain ⟨rfl, rfl⟩ := h; rfl
theorem eqbL_eq : ∀ (ds es : List AV), eqbL ds es = true → ds = es
  | [], es, h => by cases es <;> simp [eqbL] at h; rfl
  | d :: ds, es, h => by
    cases es <;> simp [eqbL] at h
    rw [eqb_eq _ _ h.1, eqbL_eq _ _ h.2]
 end
theorem eqbM_eq : ∀ (ds es : Mem), eqbM ds es = true → ds = es
  | [], es, h => by cases es <;> simp [eqbM] at h; rfl
  | d :: ds, es, h => by
    cases es <;> simp [eqbM] at h
    rw [eqbL_eq _ _ h.1, eqbM_eq _ _ h.2]
 mutual
theorem eqb_refl : ∀ (d : AV), d.eqb d = true
  | .int k n => by simp [AV.eqb]
  | .bool b => by simp [AV.eqb]
  | .str s => by simp [AV.eqb]
  | .sl o z xs => by simp [AV.eqb, eqbL_refl xs]
  | .ptr b o => by simp [AV.eqb]
  | .nilp => rfl
  | .pel cs => by simp [AV.eqb, eqbL_refl cs]
  | .fn f cs => by simp [AV.eqb, eqbL_refl cs]
  | .nilfn => rfl
  | .iface t d => by simp [AV.eqb, eqb_refl d]
  | .nili => rfl
  | .agg cs => by simp [AV.eqb, eqbL_refl cs]
  | .tup cs => by simp [AV.eqb, eqbL_refl cs]
  | .junk => rfl
  | .bld t e => by simp [AV.eqb]
theorem eqbL_refl : ∀ (ds : List AV), eqbL ds ds = true
  | [] => rfl
  | d :: ds => by simp [eqbL, eqb_refl d, eqbL_refl ds]
 end
theorem eqbM_refl : ∀ (m : Mem), eqbM m m = true
  | [] => rfl
  | d :: m => by simp [eqbM, eqbL_refl d, eqbM_refl m]

theorem opA_free {Φ : Oracle} {k : OpK} {ds : List AV} {mem mem' : Mem} {d : AV} (hf : k.memFree = true) (h : opA Φ k ds mem = some (d, mem')) : mem' = mem ∧ ∀ m, opA Φ k ds m = some (d, m) := by
  cases k <;> simp [OpK.memFree] at hf <;> simp only [opA] at h ⊢
  case pure q => split at h <;> simp_all
  case mov => split at h <;> simp_all
  case ext i =>
    split at h
    · split at h <;> simp_all
    · cases h
  case build zero parts =>
    split at h
    · split at h <;> simp_all
    · cases h
  case bslice z ag len => split at h <;> simp_all
  case append z b s =>
    split at h
    · split at h <;> simp_all
    · cases h
  case appendZ z b s => split at h <;> simp_all
  case chk => split at h <;> simp_all
  case cvBS =>
    split at h
    · split at h
      · split at h <;> simp_all
      · cases h
    · cases h
  case cvSB =>
    split at h
    · split at h <;> simp_all
    · cases h

theorem inst_free {Φ : Oracle} {r : RInst} {e e' : Env} {mem mem' : Mem} (hf : r.op.memFree = true) (h : stepInst Φ r e mem = some (e', mem')) : mem' = mem ∧ ∀ m, stepInst Φ r e m = some (e', m) := by
  have go : ∀ e' mem', stepGo Φ r e mem = some (e', mem') → mem' = mem ∧ ∀ m, stepGo Φ r e m = some (e', m) := by
    clear h
    intro e' mem' h
    unfold stepGo at h
    split at h
    · rename_i d m1 hd
      obtain ⟨rfl, h2⟩ := opA_free hf hd
      cases h
      exact ⟨rfl, fun m => by unfold stepGo; rw [h2 m]⟩
    · cases h
  cases hg : r.guard with
  | none => simp only [stepInst, hg] at h ⊢; exact go _ _ h
  | some p =>
    obtain ⟨s, want⟩ := p
    simp only [stepInst, hg] at h ⊢
    cases hb : gOk want (e.getD s .junk) with
    | none => rw [hb] at h; cases h
    | some q =>
      cases q with
      | true => simp only [hb] at h ⊢; exact go _ _ h
      | false =>
        simp only [hb, Option.some.injEq, Prod.mk.injEq] at h ⊢
        obtain ⟨rfl, rfl⟩ := h
        exact ⟨rfl, fun m => by simp⟩

/-- A load, with a new variable more in the memory. -/
theorem inst_load {Φ : Oracle} {r : RInst} {e e' : Env} {mem mem' : Mem} (hf : r.op.isLoad = true) (h : stepInst Φ r e mem = some (e', mem')) : mem' = mem ∧ ∀ b, stepInst Φ r e (mem ++ [b]) = some (e', mem ++ [b]) := by
  have go : ∀ e' mem', stepGo Φ r e mem = some (e', mem') → mem' = mem ∧ ∀ b, stepGo Φ r e (mem ++ [b]) = some (e', mem ++ [b]) := by
    clear h
    intro e' mem' h
    unfold stepGo at h
    split at h
    · rename_i d m1 hd
      simp only [Option.some.injEq, Prod.mk.injEq] at h
      obtain ⟨rfl, rfl⟩ := h
      cases hk : r.op <;> rw [hk] at hf <;> simp [OpK.isLoad] at hf
      rename_i n ag tk
      cases tk <;> simp at hf
      rw [hk] at hd
      have key : m1 = mem ∧ ∀ b, opA Φ (.load n ag false) (evs e r.xs).1 (mem ++ [b]) = some (d, mem ++ [b]) := by
        simp only [opA] at hd ⊢
        split at hd
        · rename_i b o
          split at hd
          · rename_i cs hcs
            split at hd
            · rename_i d0 hd0
              simp only [Bool.false_eq_true, if_false, Option.some.injEq, Prod.mk.injEq] at hd
              obtain ⟨rfl, rfl⟩ := hd
              refine ⟨rfl, fun bb => ?_⟩
              rw [List.getElem?_append_left (lt_of_get hcs), hcs]
              simp only [hd0, Bool.false_eq_true, if_false]
            · cases hd
          · cases hd
        · split at hd
          · rename_i d0 hd0
            cases hd
            exact ⟨rfl, fun bb => rfl⟩
          · cases hd
        · cases hd
      exact ⟨key.1, fun b => by unfold stepGo; rw [hk]; rw [key.2 b]⟩
    · cases h
  cases hg : r.guard with
  | none => simp only [stepInst, hg] at h ⊢; exact go _ _ h
  | some p =>
    obtain ⟨s, want⟩ := p
    simp only [stepInst, hg] at h ⊢
    cases hb : gOk want (e.getD s .junk) with
    | none => rw [hb] at h; cases h
    | some q =>
      cases q with
      | true => simp only [hb] at h ⊢; exact go _ _ h
      | false =>
        simp only [hb, Option.some.injEq, Prod.mk.injEq] at h ⊢
        obtain ⟨rfl, rfl⟩ := h
        exact ⟨rfl, fun m => by simp⟩
/-- A load, where what it reads is the same. -/
theorem inst_load_eq {Φ : Oracle} {r : RInst} {e e' : Env} {mem m2 : Mem} (hf : r.op.isLoad = true) (h : stepInst Φ r e mem = some (e', mem)) (hst : ∀ b o, (evs e r.xs).1 = [.ptr b o] → m2[b]? = mem[b]?) : stepInst Φ r e m2 = some (e', m2) := by
  have go : ∀ e' mem', stepGo Φ r e mem = some (e', mem') → stepGo Φ r e m2 = some (e', m2) := by
    clear h
    intro e' mem' h
    unfold stepGo at h
    split at h
    · rename_i d m1 hd
      simp only [Option.some.injEq, Prod.mk.injEq] at h
      obtain ⟨rfl, rfl⟩ := h
      cases hk : r.op <;> rw [hk] at hf <;> simp [OpK.isLoad] at hf
      rename_i n ag tk
      cases tk <;> simp at hf
      rw [hk] at hd
      have key : opA Φ (.load n ag false) (evs e r.xs).1 m2 = some (d, m2) := by
        simp only [opA] at hd ⊢
        split at hd
        · rename_i b o hds
          rw [hst b o hds]
          split at hd
          · rename_i cs hcs
            split at hd
            · rename_i d0 hd0
              simp only [Bool.false_eq_true, if_false, Option.some.injEq, Prod.mk.injEq] at hd
              obtain ⟨rfl, rfl⟩ := hd
              simp only [hcs, hd0, Bool.false_eq_true, if_false]
            · cases hd
          · cases hd
        · split at hd
          · rename_i d0 hd0
            cases hd
            rfl
          · cases hd
        · cases hd
      unfold stepGo; rw [hk]; rw [key]
    · cases h
  cases hg : r.guard with
  | none => simp only [stepInst, hg] at h ⊢; exact go _ _ h
  | some p =>
    obtain ⟨s, want⟩ := p
    simp only [stepInst, hg] at h ⊢
    cases hb : gOk want (e.getD s .junk) with
    | none => rw [hb] at h; cases h
    | some q =>
      cases q with
      | true => simp only [hb] at h ⊢; exact go _ _ h
      | false =>
        simp only [hb, Option.some.injEq, Prod.mk.injEq] at h ⊢
        rw [h.1]; simp
theorem inst_new {Φ : Oracle} {r : RInst} {e e' : Env} {mem mem' : Mem} (hf : r.op.isNew = true) (h : stepInst Φ r e mem = some (e', mem')) : mem' = mem ∨ ∃ b, mem' = mem ++ [b] := by
  have go : ∀ e' mem', stepGo Φ r e mem = some (e', mem') → mem' = mem ∨ ∃ b, mem' = mem ++ [b] := by
    clear h
    intro e' mem' h
    unfold stepGo at h
    split at h
    · rename_i d m1 hd
      cases h
      cases hk : r.op <;> rw [hk] at hf <;> simp [OpK.isNew] at hf
      rw [hk] at hd
      simp only [opA] at hd
      split at hd
      · simp only [Option.ite_none_right_eq_some, Option.some.injEq, Prod.mk.injEq] at hd
        exact .inr ⟨_, hd.2.2.symm⟩
      · cases hd
    · cases h
  unfold stepInst at h
  split at h
  · exact go _ _ h
  · split at h
    · exact go _ _ h
    · cases h; exact .inl rfl
    · cases h

/-! ### A load beside a load that takes a right -/
def flat1 (m : Mem) : Mem := m.map fun cs => cs.map AV.plain1

theorem plain_of_plain1 {c c' : AV} (h : c.plain1 = c'.plain1) : c.plain = c'.plain := by
  cases c <;> cases c' <;> simp [AV.plain1] at h <;> first | rfl | (subst h; rfl) | (obtain ⟨rfl, rfl⟩ := h; rfl)

theorem load_flat {cs cs' : List AV} {o n : Nat} {ag : Bool} {d : AV} (h : cs'.map AV.plain1 = cs.map AV.plain1) (hd : loadAV cs o n ag = some d) : ∃ d', loadAV cs' o n ag = some d' ∧ d'.plain = d.plain := by
  have hl : cs'.length = cs.length := by have := congrArg List.length h; simpa using this
  unfold loadAV at hd ⊢
  simp only [Option.ite_none_right_eq_some] at hd
  obtain ⟨hle, hd⟩ := hd
  rw [if_pos (by omega)]
  split at hd
  · rename_i hag
    cases hd
    rw [if_pos hag]
    refine ⟨_, rfl, ?_⟩
    show AV.agg _ = AV.agg _
    rw [List.map_take, List.map_drop, h, ← List.map_drop, ← List.map_take]
  · rename_i hag
    rw [if_neg hag]
    have := congrArg (fun l => l[o]?) h
    simp only [List.getElem?_map, hd, Option.map_some] at this
    cases hc : cs'[o]? with
    | none => rw [hc] at this; cases this
    | some c =>
      rw [hc] at this
      simp only [Option.map_some, Option.some.injEq] at this
      exact ⟨c, rfl, plain_of_plain1 this⟩

theorem inst_load_flat {Φ : Oracle} {r : RInst} {e e' : Env} {mem m2 : Mem} (hf : r.op.isLoad = true) (h : stepInst Φ r e mem = some (e', mem)) (hm : flat1 m2 = flat1 mem) : stepInst Φ r e m2 = some (e', m2) := by
  have go : ∀ e' mem', stepGo Φ r e mem = some (e', mem') → stepGo Φ r e m2 = some (e', m2) := by
    clear h
    intro e' mem' h
    unfold stepGo at h
    split at h
    · rename_i d m1 hd
      simp only [Option.some.injEq, Prod.mk.injEq] at h
      obtain ⟨rfl, rfl⟩ := h
      cases hk : r.op <;> rw [hk] at hf <;> simp [OpK.isLoad] at hf
      rename_i n ag tk
      cases tk <;> simp at hf
      rw [hk] at hd
      have key : opA Φ (.load n ag false) (evs e r.xs).1 m2 = some (d, m2) := by
        simp only [opA] at hd ⊢
        split at hd
        · rename_i b o hds
          split at hd
          · rename_i cs hcs
            have hb := congrArg (fun l => l[b]?) hm
            simp only [flat1, List.getElem?_map, hcs, Option.map_some] at hb
            cases hc2 : m2[b]? with
            | none => rw [hc2] at hb; cases hb
            | some cs' =>
              rw [hc2] at hb
              simp only [Option.map_some, Option.some.injEq] at hb
              split at hd
              · rename_i d0 hd0
                simp only [Bool.false_eq_true, if_false, Option.some.injEq, Prod.mk.injEq] at hd
                obtain ⟨rfl, rfl⟩ := hd
                obtain ⟨d', h1, h2⟩ := load_flat hb hd0
                simp only [h1, Bool.false_eq_true, if_false, h2]
              · cases hd
          · cases hd
        · split at hd
          · rename_i d0 hd0
            cases hd
            rfl
          · cases hd
        · cases hd
      unfold stepGo; rw [hk]; rw [key]
    · cases h
  cases hg : r.guard with
  | none => simp only [stepInst, hg] at h ⊢; exact go _ _ h
  | some p =>
    obtain ⟨s, want⟩ := p
    simp only [stepInst, hg] at h ⊢
    cases hb : gOk want (e.getD s .junk) with
    | none => rw [hb] at h; cases h
    | some q =>
      cases q with
      | true => simp only [hb] at h ⊢; exact go _ _ h
      | false =>
        simp only [hb, Option.some.injEq, Prod.mk.injEq] at h ⊢
        rw [h.1]; simp
theorem inst_take {Φ : Oracle} {r : RInst} {e e' : Env} {mem mem' : Mem} (hf : r.op.isTake = true) (h : stepInst Φ r e mem = some (e', mem')) : flat1 mem' = flat1 mem := by
  have go : ∀ e' mem', stepGo Φ r e mem = some (e', mem') → flat1 mem' = flat1 mem := by
    clear h
    intro e' mem' h
    unfold stepGo at h
    split at h
    · rename_i d m1 hd
      cases h
      cases hk : r.op <;> rw [hk] at hf <;> simp [OpK.isTake] at hf
      rename_i n ag tk
      cases tk <;> simp at hf
      rw [hk] at hd
      simp only [opA] at hd
      split at hd
      · rename_i b o hds
        split at hd
        · rename_i cs hcs
          split at hd
          · rename_i d0 hd0
            simp only [if_true] at hd
            split at hd
            · cases hd
            · split at hd
              · rename_i q z xs
                cases hd
                unfold flat1
                rw [List.map_set]
                refine set_self ?_
                rw [List.getElem?_map, hcs, Option.map_some]
                congr 1
                rw [List.map_set]
                symm
                refine set_self ?_
                unfold loadAV at hd0
                simp only [Option.ite_none_right_eq_some] at hd0
                obtain ⟨_, hd0⟩ := hd0
                split at hd0
                · cases hd0
                · rw [List.getElem?_map, hd0]; rfl
              · cases hd
          · cases hd
        · cases hd
      · split at hd <;> cases hd
        rfl
      · cases hd
    · cases h
  unfold stepInst at h
  split at h
  · exact go _ _ h
  · split at h
    · exact go _ _ h
    · cases h; rfl
    · cases h
end Go.Eng
 end

 section
set_option linter.unusedVariables false
set_option linter.unusedSimpArgs false
namespace Go.Eng
 section
variable {P : Program} {nz : List Nat} {nk : Nat → List Nat} {g : Gh} {w : World} {fr : List Nat} {a : Act} {Φ : Oracle}

theorem step_len {r : RInst} {e e1 : Env} {m m1 : Mem} (h : stepInst Φ r e m = some (e1, m1)) : e1.length = e.length := by
  obtain ⟨_, _, _, h3, _⟩ := step_local (e := e) rfl (fun t _ => rfl) h
  exact h3
theorem eval_put_ne {b : Act} {d : Nat} {v : Value} {i : Nat} (h : i ≠ d) : (b.put (some d) v).eval (.tmp i) = b.eval (.tmp i) := eval_put (by simpa [notTmp] using h)
theorem put_len {b : Act} {d : Option Nat} {v : Value} : (b.put d v).tmps.toList.length = b.tmps.toList.length := by
  rw [(put_toList (a := b) (dst := d) (v := v)).1]; cases d <;> simp

def aTail (a1 : Act) (d1 d3 d4 : Nat) (pA pv pf : Value) (i j : Nat) : Act :=
  let b1 := if 1 ≤ i then a1.put (some d1) pA else a1
  let b2 := if 1 ≤ j then b1.put (some d3) pv else b1
  if 2 ≤ j then b2.put (some d4) pf else b2
def wTail (w1 : World) (rb vb : Nat) (R V : Obj) (i j : Nat) : World :=
  let u := if 2 ≤ i then World.setBlk w1 rb R else w1
  if 3 ≤ j then World.setBlk u vb V else u

theorem aTail_eval {a1 : Act} {d1 d3 d4 : Nat} {pA pv pf : Value} {i j : Nat} {x : Operand} (h1 : notTmp x d1 = true) (h3 : notTmp x d3 = true) (h4 : notTmp x d4 = true) : (aTail a1 d1 d3 d4 pA pv pf i j).eval x = a1.eval x := by
  unfold aTail
  simp only
  split <;> split <;> split <;> simp only [eval_put h1, eval_put h3, eval_put h4]
theorem aTail_len {a1 : Act} {d1 d3 d4 : Nat} {pA pv pf : Value} {i j : Nat} : (aTail a1 d1 d3 d4 pA pv pf i j).tmps.toList.length = a1.tmps.toList.length := by
  unfold aTail
  simp only
  split <;> split <;> split <;> simp only [put_len]
theorem setBlk_other {W : World} {x y : Nat} {O : Obj} (hxy : x ≠ y) : (World.setBlk W x O).heap[y]? = W.heap[y]? := by
  show (W.heap.setIfInBounds x O)[y]? = _
  rw [Array.getElem?_setIfInBounds, if_neg hxy]
theorem wTail_row {w1 : World} {rb vb : Nat} {R V : Obj} {i j : Nat} (hne : rb ≠ vb) (hi : i < 2) : (wTail w1 rb vb R V i j).heap[rb]? = w1.heap[rb]? := by
  unfold wTail
  simp only [if_neg (show ¬ 2 ≤ i by omega)]
  split
  · rw [setBlk_other (Ne.symm hne)]
  · rfl
theorem wTail_var {w1 : World} {rb vb : Nat} {R V : Obj} {i j : Nat} (hne : rb ≠ vb) (hj : j < 3) : (wTail w1 rb vb R V i j).heap[vb]? = w1.heap[vb]? := by
  unfold wTail
  simp only [if_neg (show ¬ 3 ≤ j by omega)]
  split
  · rw [setBlk_other hne]
  · rfl
theorem aTail_eval0 {a1 : Act} {d1 d3 d4 : Nat} {pA pv pf : Value} {j : Nat} {x : Operand} (h3 : notTmp x d3 = true) (h4 : notTmp x d4 = true) : (aTail a1 d1 d3 d4 pA pv pf 0 j).eval x = a1.eval x := by
  unfold aTail
  simp only [if_neg (show ¬ (1 ≤ 0) by omega)]
  split <;> split <;> simp only [eval_put h3, eval_put h4]

theorem rep_snd {env : Env} {mem : Mem} (h : St g w a env mem fr) {x y : Nat} {k1 k2 : Bool} {e1 e2 : AV} (he : (evs env [.t x k1, .t y k2]).1 = [e1, e2]) : Rep g.pers g.bl (a.eval (.tmp y)) e2 := by
  have hl := h.inv.envRep.1
  have tk := take_all (zs := []) (g := g) (w := w) (mem := mem) (fr := fr) (vals := a.tmps.toList) (vs := []) (ds := []) (os := [.tmp x, .tmp y]) (ts := [k1, k2]) (xs := [.t x k1, .t y k2]) (a := a) rfl hl (by simp [conOpds, conOpd]) (by simpa using h.inv)
  simp only [List.nil_append, List.map_cons, List.map_nil, he] at tk
  have hl2 : a.tmps.toList.length = (evs env [.t x k1, .t y k2]).2.length := by rw [tk.2.1]; exact hl
  exact (tk.1.right hl2).envRep.2 1 _ _ rfl rfl

set_option maxHeartbeats 2000000 in
theorem tail_sound (hC : CallOk P Φ) {ops : Array Oper} {m : Nat} {nz1 nz3 nz4 nz5 : List Nat} {ts0 ts1 ts3 ts4 ts5 : List Bool} {o o1 o2 o3 o4 o5 : Oper} {r r1 r2 r3 r4 r5 : RInst}
    (ho : ops[m]? = some o) (ho1 : ops[m + 1]? = some o1) (ho2 : ops[m + 2]? = some o2) (ho3 : ops[m + 3]? = some o3) (ho4 : ops[m + 4]? = some o4) (ho5 : ops[m + 5]? = some o5)
    (c0 : convMac P nz ts0 ops m = some r) (c1 : convInst P nz1 ts1 ops o1 = some r1) (c2 : ∃ d1, o1.dst = some d1 ∧ r2 = ⟨none, .chk, [.t d1 false], none⟩) (c3 : convInst P nz3 ts3 ops o3 = some r3) (c4 : convInst P nz4 ts4 ops o4 = some r4) (c5 : convInst P nz5 ts5 ops o5 = some r5)
    {d d1 d3 d4 f : Nat} {sT t5 : TypeId} {x3 : Operand} (hd : o.dst = some d) (hd1 : o1.dst = some d1) (h3 : o3.op = .nilCheck x3) (hd3 : o3.dst = some d3) (g3 : o3.guard = none)
    (h4 : o4.op = .fieldAddr sT (.tmp d3) f) (hd4 : o4.dst = some d4) (g4 : o4.guard = none) (h5 : o5.op = .store t5 (.tmp d4) (.tmp d)) (hd5 : o5.dst = none) (g5 : o5.guard = none)
    (n1 : d ≠ d1) (n2 : d ≠ d3) (n3 : d ≠ d4) (n4 : d1 ≠ d3) (n5 : d1 ≠ d4) (n6 : d3 ≠ d4) (nx3 : notTmp x3 d = true ∧ notTmp x3 d1 = true)
    (nix : ∀ t y ix, o1.op = .indexAddr t y ix → notTmp ix d3 = true ∧ notTmp ix d4 = true) (nx : ∀ t y x, o2.op = .store t y x → notTmp x d3 = true ∧ notTmp x d4 = true)
    {e0 e1 e2 e3 e4 e5 e6 : Env} {m0 m1 m2 m3 m4 m5 m6 : Mem} (hs0 : stepInst Φ r e0 m0 = some (e1, m1)) (hs1 : stepInst Φ r1 e1 m1 = some (e2, m2)) (hs2 : stepInst Φ r2 e2 m2 = some (e3, m3))
    (hs3 : stepInst Φ r3 e3 m3 = some (e4, m4)) (hs4 : stepInst Φ r4 e4 m4 = some (e5, m5)) (hs5 : stepInst Φ r5 e5 m5 = some (e6, m6)) (h : St g w a e0 m0 fr)
    {Q : Exit → Act → World → Prop} (K : ∀ a' w' g', St g' w' a' e6 m6 fr → Goes (clm g a e0 m0) g w (clm g' a' e6 m6) g' w' → Q .normal a' w')
    (hn : ops.size = m + 6) (hdep : ∀ k, m + 1 < k → k < ops.size → k ≠ m + 3 → ∃ o e, ops[k]? = some o ∧ e ∈ o.after ∧ Region.binds .any e = true ∧ e.on = k - 1)
    (hback : ∀ (k : Nat) o e, ops[k]? = some o → e ∈ o.after → Region.binds .any e = true → e.on < k ∧ (m + 3 ≤ k → e.on ≤ m ∨ m + 3 ≤ e.on))
    {fuel : Nat} (hfu : 5 ≤ fuel) {listed : Array Bool} (hsz : listed.size = ops.size) (hL : ∀ k, k < ops.size → (listed.getD k false = true ↔ k < m + 1)) :
    wpOp P ops Q m (wpAny P .any ops Q fuel listed) a w := by
  obtain ⟨d', d1', ix, x, v, w1, A, R, g', z, xs, M, s1, G1, henv⟩ := mac_core c0 ho ho1 ho2 hs0 h
  have ed : d' = d := by have := M.dst; rw [hd] at this; exact (Option.some.inj this).symm
  have ed1 : d1' = d1 := by have := M.dst1; rw [hd1] at this; exact (Option.some.inj this).symm
  subst ed; subst ed1
  obtain ⟨tA, hopA⟩ := M.op1
  obtain ⟨tB, hopB⟩ := M.op2
  obtain ⟨nix3, nix4⟩ := nix _ _ _ hopA
  obtain ⟨nxx3, nxx4⟩ := nx _ _ _ hopB
  -- the forms of the last three
  obtain ⟨y3, hy3, e_r3⟩ := conv1 c3 g3 (q := .nilck) (x := x3) (by unfold convOp; rw [h3]; simp [convPure, h3])
  obtain ⟨off, n, ag, hfo, hn0⟩ : ∃ off n ag, fieldOf P sT f = some (off, n, ag) ∧ n ≠ 0 := by
    unfold convInst at c4
    split at c4
    · rename_i k xs' hk
      unfold convOp at hk
      rw [h4] at hk
      simp only [convPure, h4] at hk
      cases hfo : fieldOf P sT f with
      | none => rw [hfo] at hk; simp at hk
      | some q =>
        obtain ⟨off, n, ag⟩ := q
        rw [hfo] at hk
        by_cases hn0 : n = 0
        · simp [hn0] at hk
        · exact ⟨off, n, ag, rfl, hn0⟩
    · cases c4
  obtain ⟨y4, hy4, e_r4⟩ := conv1 c4 g4 (q := .faddr off) (x := .tmp d3) (by unfold convOp; rw [h4]; simp [convPure, h4, hfo, hn0])
  have hk5 : known P t5 = true := by
    unfold convInst at c5
    split at c5
    · rename_i k xs' hk
      unfold convOp at hk
      rw [h5] at hk
      simp only [Option.ite_none_right_eq_some] at hk
      exact hk.1
    · cases c5
  obtain ⟨y5, y6, hy5, hy6, e_r5⟩ := conv2 c5 g5 (k := .store (szOf P t5)) (x := .tmp d4) (y := .tmp d') (by unfold convOp; rw [h5]; simp [hk5])
  have hy4' := conTmp hy4
  have hy5' := conTmp hy5
  have hy6' := conTmp hy6
  subst hy4' hy5' hy6' e_r3 e_r4 e_r5
  -- lengths
  have l0 := h.inv.envRep.1
  have k1 := step_len hs0; have k2 := step_len hs1; have k3 := step_len hs2; have k4 := step_len hs3; have k5 := step_len hs4; have k6 := step_len hs5
  -- what the steps told
  rw [hd3] at hs3
  rw [hd4] at hs4
  rw [hd5] at hs5
  obtain ⟨q3, p3, rfl, rfl⟩ := pure1 hs3
  obtain ⟨q4, p4, rfl, rfl⟩ := pure1 hs4
  have hst := hs5
  simp only [stepInst, stepGo, opA] at hst
  split at hst
  rotate_left
  · cases hst
  rename_i dv mm hdv
  split at hdv
  rotate_left
  · cases hdv
  rename_i b off' xv hev
  split at hdv
  rotate_left
  · cases hdv
  rename_i cs hcs
  simp only [Option.ite_none_right_eq_some, Option.some.injEq, Prod.mk.injEq] at hdv
  obtain ⟨⟨hxn, hle, hcell, hnb⟩, _, _⟩ := hdv
  simp only [evs, List.cons.injEq, and_true] at hev
  obtain ⟨hv1, hv2⟩ := hev
  have clr_len : ∀ (y : Opd) (e : Env), (y.clr e).length = e.length := by
    intro y e; cases y with
    | c d => rfl
    | t i tk => cases tk <;> simp [Opd.clr]
  have ev_ptr : ∀ {t b o : Nat} {tk : Bool} {e : Env}, (Opd.t t tk).ev e = .ptr b o → e[t]? = some (.ptr b o) := by
    intro t b o tk e he
    have hp : ∀ q : AV, q.plain = .ptr b o → q = .ptr b o := by
      intro q hq; cases q <;> simp [AV.plain, AV.plain2, AV.plain1] at hq ⊢
      exact hq
    cases hq : e[t]? with
    | none =>
      rcases ev_tmp (e := e) (d := t) (tk := tk) with h1 | h1 <;> rw [h1] at he <;> simp [List.getD_eq_getElem?_getD, hq] at he
      cases he
    | some q =>
      rcases ev_tmp (e := e) (d := t) (tk := tk) with h1 | h1 <;> rw [h1] at he <;> simp [List.getD_eq_getElem?_getD, hq] at he
      · rw [he]
      · rw [hp q he]
  have pl_ptr : ∀ {q : AV} {b o : Nat}, q.plain = .ptr b o → q = .ptr b o := by
    intro q b o hq; cases q <;> simp [AV.plain, AV.plain2, AV.plain1] at hq ⊢
    exact hq
  -- the address, backwards
  have a5 := ev_ptr hv1
  have b4 : d4 < e3.length := by
    have := lt_of_get a5
    simp only [List.length_set, clr_len] at this; exact this
  rw [List.getElem?_set_self (by simp only [clr_len, List.length_set]; exact b4)] at a5
  have hq4 := pl_ptr (Option.some.inj a5)
  rw [hq4] at p4
  obtain ⟨o3', hz4, hoff⟩ : ∃ o', (Opd.t d3 (ts4.headD false)).ev ((y3.clr e3).set d3 q3.plain) = .ptr b o' ∧ off' = o' + off := by
    generalize (Opd.t d3 (ts4.headD false)).ev ((y3.clr e3).set d3 q3.plain) = z at p4
    cases z <;> simp only [pureOp, reduceCtorEq, Option.some.injEq, AV.ptr.injEq, Option.ite_none_right_eq_some, and_false] at p4
    obtain ⟨rfl, rfl⟩ := p4
    exact ⟨_, rfl, rfl⟩
  have a4 := ev_ptr hz4
  have b3 : d3 < e3.length := by
    have := lt_of_get a4
    simp only [List.length_set, clr_len] at this; exact this
  rw [List.getElem?_set_self (by simp only [clr_len]; exact b3)] at a4
  have hq3 := pl_ptr (Option.some.inj a4)
  rw [hq3] at p3
  have hz3 : y3.ev e3 = .ptr b o3' := by
    generalize y3.ev e3 = z at p3
    cases z <;> simp only [pureOp, reduceCtorEq, Option.some.injEq] at p3
    exact p3
  have bd : d' < e3.length := by
    refine Classical.byContradiction fun hge => ?_
    have hnone : ((Opd.t d4 (ts5.headD false)).clr ((((Opd.t d3 (ts4.headD false)).clr ((y3.clr e3).set d3 q3.plain)).set d4 q4.plain)))[d']? = none := by
      rw [List.getElem?_eq_none_iff]; simp only [clr_len, List.length_set]; omega
    have : xv = .junk := by
      rw [← hv2]
      rcases ev_tmp (e := (Opd.t d4 (ts5.headD false)).clr ((((Opd.t d3 (ts4.headD false)).clr ((y3.clr e3).set d3 q3.plain)).set d4 q4.plain))) (d := d') (tk := ts5.tail.headD false) with h1 | h1 <;> rw [h1] <;> simp only [List.getD_eq_getElem?_getD, hnone] <;> rfl
    rw [this] at hcell
    simp [AV.cells, AV.isCell] at hcell
  have hdl : d' < a.tmps.toList.length := by omega
  -- the states in the text's order
  have ev1 : (a.put (some d') v).eval (.tmp d') = v := eval_put_same hdl
  have t1 : (execOp (a.put (some d') v).eval o1).run P (World.setBlk w1 A.block R) = .ok (.value (.pointer (some A))) (World.setBlk w1 A.block R) := M.run1 _ _ ev1 (eval_put M.hix)
  obtain ⟨g2, s2, G2⟩ := go_known hC c1 M.g1 hs1 s1 t1
  rw [hd1] at s2 G2
  obtain ⟨d1'', hd1'', e_r2⟩ := c2
  rw [hd1] at hd1''; cases hd1''
  subst e_r2
  have hchk : e3 = e2 ∧ m5 = m2 ∧ d1' < e2.length := by
    simp only [stepInst, stepGo, evs, opA] at hs2
    split at hs2
    · rename_i dd mm hdd
      split at hdd
      · rename_i cs' hcs'
        cases hdd; cases hs2
        refine ⟨rfl, rfl, Classical.byContradiction fun hge => ?_⟩
        simp only [List.cons.injEq, and_true, Opd.ev, List.getD_eq_getElem?_getD, List.getElem?_eq_none (Nat.le_of_not_lt hge)] at hcs'
        cases hcs'
      · cases hdd
    · cases hs2
  obtain ⟨rfl, rfl, b1⟩ := hchk
  -- the field's variable
  have hl2 := s2.inv.envRep.1
  have htk := take_one (g := g2) (w := World.setBlk w1 A.block R) (mem := m5) (fr := fr) (vs := []) (ds := []) hl2 (by simpa using s2.inv) hy3 (a := (a.put (some d') v).put (some d1') (.pointer (some A))) rfl
  simp only [List.nil_append] at htk
  have r3 : Rep g2.pers g2.bl (((a.put (some d') v).put (some d1') (.pointer (some A))).eval x3) (y3.ev e3) := htk.1.envRep.2 ((a.put (some d') v).put (some d1') (.pointer (some A))).tmps.toList.length _ _ (by simp) (by rw [hl2, ← htk.2.1]; simp)
  rw [hz3] at r3
  obtain ⟨blk, hblk, hx3v⟩ := rep_ptr r3
  rw [eval_put nx3.2, eval_put nx3.1] at hx3v
  -- the row lies elsewhere
  have hfree1 : r1.op.memFree = true := by
    unfold convInst at c1
    split at c1
    · rename_i k xs' hk
      split at c1
      · cases c1
        unfold convOp at hk
        rw [hopA] at hk
        simp only at hk
        obtain ⟨qq, _, hqq⟩ := Option.map_eq_some_iff.1 hk
        rw [← (Prod.mk.inj hqq).1]; rfl
      · cases c1
    · cases c1
  have hm12 : m5 = m1 := (inst_free hfree1 hs1).1
  obtain ⟨rn, rc, rad, hrow, hrb⟩ := M.row
  have hbl' : g'.bl = g2.bl := by
    obtain ⟨t, ht⟩ := G2.ext.bl
    have la := s1.inv.blLen
    have lb := s2.inv.blLen
    rw [hm12] at lb
    have : t = [] := by
      have := congrArg List.length ht
      rw [List.length_append] at this
      exact List.length_eq_zero_iff.1 (by omega)
    rw [this, List.append_nil] at ht; exact ht
  have hne : A.block ≠ blk := by
    intro hEq
    have hc := nd_count s1.inv blk
    rw [count_claims, hbl'] at hc
    have h1 := mem_count.1 (List.mem_of_getElem? hblk)
    have h2 : blk ∈ ownL (a.put (some d') v).tmps.toList e1 := by
      have hv0 : (a.put (some d') v).tmps.toList[d']? = some v := by
        rw [(put_toList (a := a) (dst := some d') (v := v)).1]
        simp only
        rw [List.getElem?_set_self hdl]
      refine mem_ownL hv0 (henv hdl) ?_
      rw [hrow, own_sl, hrb, hEq]; simp
    have := mem_count.1 h2
    omega
  obtain ⟨us, eT, fz, _, hob, hfz, hrepb, _⟩ := mem_cells s2.inv hblk hcs
  have hsetne : ∀ (W : World) (x y : Nat) (O : Obj), x ≠ y → (World.setBlk W x O).heap[y]? = W.heap[y]? := by
    intro W x y O hxy
    show (W.heap.setIfInBounds x O)[y]? = _
    rw [Array.getElem?_setIfInBounds, if_neg hxy]
  have hob1 : w1.heap[blk]? = some (.cells ⟨us⟩ eT fz) := by rw [← hsetne w1 A.block blk R hne]; exact hob
  have hpf : ((⟨blk, o3', none⟩ : Addr).add off) = ⟨blk, off', none⟩ := by rw [add_none rfl, hoff]
  -- the value that is stored
  have evv : ∀ b : Act, b.eval (.tmp d') = v → (b.eval (.tmp d')).cells.toList = [v] := by
    intro b hb; rw [hb, hrow]; rfl
  -- the states behind the field's address
  have t3 : ∀ (b : Act) (W : World), b.eval x3 = .pointer (some ⟨blk, o3', none⟩) → (execOp b.eval o3).run P W = .ok (.value (.pointer (some ⟨blk, o3', none⟩))) W := fun b W hb => run_nilCheck h3 hb
  have t4 : ∀ (b : Act) (W : World), b.eval (.tmp d3) = .pointer (some ⟨blk, o3', none⟩) → (execOp b.eval o4).run P W = .ok (.value (.pointer (some ⟨blk, off', none⟩))) W := fun b W hb => by
    rw [← hpf]; exact run_fieldAddr h4 hfo hn0 hb
  have la : a.tmps.toList.length = e3.length := by omega
  obtain ⟨g4', s4, G4⟩ := go_known (o := o3) hC c3 g3 (by rw [hd3]; exact hs3) s2 (t3 _ _ (by rw [eval_put nx3.2, eval_put nx3.1]; exact hx3v))
  rw [hd3] at s4 G4
  obtain ⟨g5', s5, G5⟩ := go_known (o := o4) hC c4 g4 (by rw [hd4]; exact hs4) s4 (t4 _ _ (eval_put_same (by rw [put_len, put_len]; omega)))
  rw [hd4] at s5 G5
  have hrepv : Rep g5'.pers g5'.bl v xv := by
    have := rep_snd s5 (x := d4) (y := d') (k1 := ts5.headD false) (k2 := ts5.tail.headD false) (e1 := .ptr b off') (e2 := xv) (by simp only [evs, hv1, hv2])
    rw [eval_put_ne n3, eval_put_ne n2, eval_put_ne n1, ev1] at this
    exact this
  have hsz1 : szOf P t5 = 1 := by
    rw [← hxn]
    rw [hrow] at hrepv
    cases hrepv with
    | sl => rfl
    | junk => simp [AV.cells, AV.isCell] at hcell
    | bld => simp [AV.cells, AV.isCell] at hcell
  have t5' : ∀ (b : Act) (W : World), b.eval (.tmp d4) = .pointer (some ⟨blk, off', none⟩) → b.eval (.tmp d') = v → W.heap[blk]? = w1.heap[blk]? →
      (execOp b.eval o5).run P W = .ok .skip (World.setBlk W blk (.cells ⟨us.take off' ++ [v] ++ us.drop (off' + 1)⟩ eT fz)) := by
    intro b W hb1 hb2 hW
    have hrun := run_storeVar (P := P) (w := W) hk5 (b := blk) (off := off') (hW.trans hob1) hfz (v := v) (by rw [hrow, hsz1]; rfl) (by rw [hrepb.1]; exact hle) (by rw [hrow]; intro u hu; simp [Value.cells] at hu; subst hu; rfl)
    have hvc : v.cells.toList = [v] := by rw [hrow]; rfl
    rw [hvc] at hrun
    unfold execOp; rw [h5]
    simp only [Instr.storeAt, hb1, hb2, Sem.run_bind, run_sure, Result.andThen_ok, hrun, Sem.run_pure]
    rfl
  have e4v : ∀ b : Act, d4 < b.tmps.toList.length → (b.put (some d4) (.pointer (some ⟨blk, off', none⟩))).eval (.tmp d4) = .pointer (some ⟨blk, off', none⟩) := fun b hb => eval_put_same hb
  obtain ⟨g6', s6, G6⟩ := go_known_skip (o := o5) hC c5 g5 (by rw [hd5]; exact hs5) s5 (t5' _ _ (e4v _ (by rw [put_len, put_len, put_len]; omega)) (by
    rw [eval_put_ne n3, eval_put_ne n2, eval_put_ne n1]; exact ev1) (hsetne _ _ _ _ hne))
  rw [hd5] at s6 G6
  -- the grid
  let pA : Value := .pointer (some A)
  let pv : Value := .pointer (some ⟨blk, o3', none⟩)
  let pf : Value := .pointer (some ⟨blk, off', none⟩)
  let V : Obj := .cells ⟨us.take off' ++ [v] ++ us.drop (off' + 1)⟩ eT fz
  let aG := aTail (a.put (some d') v) d1' d3 d4 pA pv pf
  let wG := wTail w1 A.block blk R V
  have hvlt : blk < w1.heap.size := (Array.getElem?_eq_some_iff.1 hob1).1
  have alen : ∀ i j, (aG i j).tmps.toList.length = e3.length := fun i j => by
    show (aTail _ _ _ _ _ _ _ i j).tmps.toList.length = _
    rw [aTail_len, put_len]; omega
  have nT : ∀ {p q : Nat}, p ≠ q → notTmp (.tmp p) q = true := fun h => by simpa [notTmp] using h
  have evd : ∀ i j, (aG i j).eval (.tmp d') = v := fun i j => by
    show (aTail _ _ _ _ _ _ _ i j).eval _ = _
    rw [aTail_eval (nT n1) (nT n2) (nT n3)]; exact ev1
  refine wpOp_value ho M.g0 M.run0 ?_
  rw [hd]
  have hgrid := grid_any (P := P) (ops := ops) (Q := Q) (m := m) (na := 2) (nb := 3) (aG := aG) (wG := wG) (by omega) ?_ ?_ ?_ (fun k p q r => hdep k p q (by omega)) (fun k o e p q r => ⟨(hback k o e p q r).1, fun hk => by have := (hback k o e p q r).2 (by omega); omega⟩) fuel 0 0 listed hsz (by omega) (by omega) (fun k hk => by rw [hL k hk]; omega) (by omega)
  · exact hgrid
  · -- the element's chain
    intro i j K0 hi hj hK
    match i, hi with
    | 0, _ =>
      refine wpOp_value ho1 M.g1 (M.run1 _ _ (evd 0 j) ?_) ?_
      · show (aTail _ _ _ _ _ _ _ 0 j).eval ix = _
        rw [aTail_eval0 nix3 nix4]; exact eval_put M.hix
      · rw [hd1]
        have e1 : (aG 0 j).put (some d1') (.pointer (some A)) = aG 1 j := by
          show (aTail _ _ _ _ _ _ _ 0 j).put _ _ = aTail _ _ _ _ _ _ _ 1 j
          unfold aTail
          simp only [if_neg (show ¬ (1 ≤ 0) by omega), if_pos (Nat.le_refl 1)]
          by_cases hj2 : 2 ≤ j
          · simp only [if_pos hj2, if_pos (show 1 ≤ j by omega)]
            rw [put_comm (Ne.symm n5), put_comm (Ne.symm n4)]
          · by_cases hj1 : 1 ≤ j
            · simp only [if_neg hj2, if_pos hj1]
              rw [put_comm (Ne.symm n4)]
            · simp only [if_neg hj2, if_neg hj1]; rfl
        rw [e1]
        exact hK
    | 1, _ =>
      refine wpOp_skip ho2 M.g2 (M.run2 _ _ ?_ ?_ ?_) ?_
      · show (aTail _ _ _ _ _ _ _ 1 j).eval _ = _
        unfold aTail
        simp only [if_pos (Nat.le_refl 1)]
        have hb : ((a.put (some d') v).put (some d1') pA).eval (.tmp d1') = pA := eval_put_same (by rw [put_len]; omega)
        split <;> split <;> first | exact hb | (simp only [eval_put_ne n4, eval_put_ne n5]; exact hb)
      · show (aTail _ _ _ _ _ _ _ 1 j).eval _ = _
        rw [aTail_eval M.hx.2 nxx3 nxx4, eval_put M.hx.1]
      · exact wTail_row hne (by omega)
      · rw [M.dst2]
        have e1 : (aG 1 j).put none undef = aG 2 j := by
          show aTail _ _ _ _ _ _ _ 1 j = aTail _ _ _ _ _ _ _ 2 j
          unfold aTail
          simp only [if_pos (Nat.le_refl 1), if_pos (show 1 ≤ 2 by omega)]
        have e2 : World.setBlk (wG 1 j) A.block R = wG 2 j := by
          show World.setBlk (wTail _ _ _ _ _ 1 j) _ _ = wTail _ _ _ _ _ 2 j
          unfold wTail
          simp only [if_neg (show ¬ 2 ≤ 1 by omega), if_pos (Nat.le_refl 2)]
          split
          · rw [setBlk_comm (Ne.symm hne)]
          · rfl
        rw [e1, e2]
        exact hK
  · intro i j K0 hi hj hK
    match j, hj with
    | 0, _ =>
      refine wpOp_value (by simpa using ho3) g3 (t3 _ _ ?_) ?_
      · show (aTail _ _ _ _ _ _ _ i 0).eval x3 = _
        unfold aTail
        simp only [if_neg (show ¬ (1 ≤ 0) by omega), if_neg (show ¬ (2 ≤ 0) by omega)]
        split
        · rw [eval_put nx3.2, eval_put nx3.1]; exact hx3v
        · rw [eval_put nx3.1]; exact hx3v
      · rw [hd3]
        have e1 : (aG i 0).put (some d3) pv = aG i 1 := by
          show (aTail _ _ _ _ _ _ _ i 0).put _ _ = aTail _ _ _ _ _ _ _ i 1
          unfold aTail
          simp only [if_neg (show ¬ (1 ≤ 0) by omega), if_neg (show ¬ (2 ≤ 0) by omega), if_pos (Nat.le_refl 1), if_neg (show ¬ (2 ≤ 1) by omega)]
        rw [e1]; exact hK
    | 1, _ =>
      refine wpOp_value (by simpa using ho4) g4 (t4 _ _ ?_) ?_
      · show (aTail _ _ _ _ _ _ _ i 1).eval _ = _
        unfold aTail
        simp only [if_pos (Nat.le_refl 1), if_neg (show ¬ (2 ≤ 1) by omega)]
        split
        · exact eval_put_same (by rw [put_len, put_len]; omega)
        · exact eval_put_same (by rw [put_len]; omega)
      · rw [hd4]
        have e1 : (aG i 1).put (some d4) pf = aG i 2 := by
          show (aTail _ _ _ _ _ _ _ i 1).put _ _ = aTail _ _ _ _ _ _ _ i 2
          unfold aTail
          simp only [if_pos (Nat.le_refl 1), if_neg (show ¬ (2 ≤ 1) by omega), if_pos (show 1 ≤ 2 by omega), if_pos (Nat.le_refl 2)]
        rw [e1]; exact hK
    | 2, _ =>
      refine wpOp_skip (by simpa using ho5) g5 (t5' _ _ ?_ (evd i 2) ?_) ?_
      · show (aTail _ _ _ _ _ _ _ i 2).eval _ = _
        unfold aTail
        simp only [if_pos (show 1 ≤ 2 by omega), if_pos (Nat.le_refl 2)]
        split
        · exact eval_put_same (by rw [put_len, put_len, put_len]; omega)
        · exact eval_put_same (by rw [put_len, put_len]; omega)
      · exact wTail_var hne (by omega)
      · rw [hd5]
        have e1 : (aG i 2).put none undef = aG i 3 := by
          show aTail _ _ _ _ _ _ _ i 2 = aTail _ _ _ _ _ _ _ i 3
          unfold aTail
          simp only [if_pos (show 1 ≤ 2 by omega), if_pos (Nat.le_refl 2), if_pos (show 1 ≤ 3 by omega), if_pos (show 2 ≤ 3 by omega)]
        have e2 : World.setBlk (wG i 2) blk V = wG i 3 := by
          show World.setBlk (wTail _ _ _ _ _ i 2) _ _ = wTail _ _ _ _ _ i 3
          unfold wTail
          simp only [if_neg (show ¬ 3 ≤ 2 by omega), if_pos (Nat.le_refl 3)]
        rw [e1]
        show K0 (aG i 3) (World.setBlk (wG i 2) blk V)
        rw [e2]; exact hK
  · exact K _ _ g6' s6 ((((G1.trans G2).trans G4).trans G5).trans G6)
 end
end Go.Eng
 end
