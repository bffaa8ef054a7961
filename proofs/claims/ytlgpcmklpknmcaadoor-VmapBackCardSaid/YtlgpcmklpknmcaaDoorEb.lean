/- One theorem over all operations that leave the world alone.
   The engine's code and its run.
   Operands taken out of the slots, results put into them, and the frame rule. -/
import Derived.Test.YtlgpcmklpknmcaaDoorEa
import Derived.Laws.StructEq
 section
set_option linter.unusedVariables false
set_option linter.unusedSimpArgs false
namespace Go.Eng
 section
variable {p : Pers} {bl : List Nat} {P : Program} {w : World} {t : TypeId}

theorem info_of_known {P : Program} {t : TypeId} (h : known P t = true) : ∃ i, P.info? t = some i ∧ i.size = szOf P t := by
  simp only [known, Bool.and_eq_true] at h
  obtain ⟨i, hi⟩ := Option.isSome_iff_exists.1 h.1
  exact ⟨i, hi, by simp [szOf, hi]⟩
theorem run_sizeOf (h : known P t = true) : (sizeOf t).run P w = .ok (szOf P t) w := by
  obtain ⟨i, hi, hs⟩ := info_of_known h
  simp [sizeOf, typeInfo, hi, hs]
theorem run_und {d : TypeDesc} (h : P.underlying t = some d) : (underlying t).run P w = .ok d w := run_underlying h w
theorem und_of_known (h : known P t = true) : ∃ d, P.underlying t = some d := by
  simp only [known, Bool.and_eq_true] at h
  exact Option.isSome_iff_exists.1 h.2
theorem run_isAgg {d : TypeDesc} (h : P.underlying t = some d) : (isAgg t).run P w = .ok (aggT P t) w := by
  unfold isAgg aggT
  simp only [Sem.run_bind, run_und h, Result.andThen_ok, h]
  cases d <;> rfl

theorem run_sure {a : Addr} : (Instr.sureAddr (.pointer (some a))).run P w = .ok a w := rfl
theorem run_asIntOf {k : IntKind} {n : Int} : (asIntOf (.int k n)).run P w = .ok (k, n) w := rfl
theorem run_asInt {k : IntKind} {n : Int} : (asInt (.int k n)).run P w = .ok n w := by simp [asInt, run_asIntOf]

theorem run_part {d : TypeDesc} (hu : P.underlying t = some d) (hk : known P t = true) {vs : List Value} {cs : List AV} (hr : RepL p bl vs cs) {off : Nat} {e : AV}
    (h : (if aggT P t then some (.agg ((cs.drop off).take (szOf P t))) else cs[off]?) = some e) (hle : off + szOf P t ≤ cs.length) :
    ∃ v, (part t ⟨vs⟩ off).run P w = .ok v w ∧ Rep p bl v e := by
  unfold part
  simp only [Sem.run_bind, run_isAgg hu, Result.andThen_ok]
  split at h
  · rename_i ha
    simp only [ha, if_true, Sem.run_bind, run_sizeOf hk, Result.andThen_ok]
    cases h
    refine ⟨.agg ⟨(vs.drop off).take (szOf P t)⟩, ?_, ?_⟩
    · simp only [Sem.run_pure, List.extract_toArray, Result.ok.injEq, Value.agg.injEq, and_true]
      rw [List.extract_eq_take_drop]; simp
    · have := (hr.drop off).take (szOf P t)
      exact .agg _ _ this.1 this.2
  · rename_i ha
    obtain ⟨v, hv⟩ := get_of_len hr.1 h
    refine ⟨v, ?_, hr.2 off v e hv h⟩
    simp only [ha, if_false, Bool.false_eq_true]
    have : (⟨vs⟩ : Array Value)[off]? = some v := by simpa using hv
    rw [this]; rfl

theorem bounds_ok {lo hi : Option Value} {n : Nat} {rest : List AV} {a b : Nat} {isS : Bool} {cap : Nat} (hcap : n ≤ cap)
    (hr : RepL p bl (lo.toList ++ hi.toList) rest) (h : bounds lo.isSome hi.isSome n rest = some (a, b)) :
    (Instr.sliceBounds isS n cap lo hi none).run P w = .ok (a, b, cap) w ∧ a ≤ b ∧ b ≤ n := by
  cases lo with
  | none =>
    cases hi with
    | none =>
      have : rest = [] := by have := hr.1; simp at this; exact List.length_eq_zero_iff.1 this.symm
      subst this
      simp [bounds] at h; obtain ⟨rfl, rfl⟩ := h
      refine ⟨?_, Nat.zero_le _, Nat.le_refl _⟩
      simp [Instr.sliceBounds]
    | some u =>
      match rest, hr, h with
      | [.int k x], hr, h =>
        have e := rep_int (repL_cons (by simpa using hr)).1
        simp only [bounds, Option.isSome_none, Option.isSome_some, Option.ite_none_right_eq_some, Option.some.injEq, Prod.mk.injEq] at h
        obtain ⟨⟨h0, h1⟩, rfl, rfl⟩ := h
        refine ⟨?_, Nat.zero_le _, by omega⟩
        subst e
        have hc : 0 ≤ x ∧ x ≤ (cap : Int) := ⟨h0, by omega⟩
        simp [Instr.sliceBounds, Instr.sliceBound, run_asIntOf, hc]
  | some l =>
    cases hi with
    | none =>
      match rest, hr, h with
      | [.int k x], hr, h =>
        have e := rep_int (repL_cons (by simpa using hr)).1
        simp only [bounds, Option.isSome_none, Option.isSome_some, Option.ite_none_right_eq_some, Option.some.injEq, Prod.mk.injEq] at h
        obtain ⟨⟨h0, h1⟩, rfl, rfl⟩ := h
        refine ⟨?_, by omega, by omega⟩
        subst e
        have hc : 0 ≤ x ∧ x ≤ (n : Int) := ⟨h0, h1⟩
        simp [Instr.sliceBounds, Instr.sliceBound, run_asIntOf, hc]
    | some u =>
      match rest, hr, h with
      | [.int k x, .int k' y], hr, h =>
        have e := rep_int (repL_cons (by simpa using hr)).1
        have e' := rep_int (repL_cons (repL_cons (by simpa using hr)).2).1
        simp only [bounds, Option.isSome_none, Option.isSome_some, Option.ite_none_right_eq_some, Option.some.injEq, Prod.mk.injEq] at h
        obtain ⟨⟨h0, h1, h2⟩, rfl, rfl⟩ := h
        refine ⟨?_, by omega, by omega⟩
        subst e; subst e'
        have hc : 0 ≤ y ∧ y ≤ (cap : Int) := ⟨by omega, by omega⟩
        have hl : 0 ≤ x ∧ x ≤ (y.toNat : Int) := ⟨h0, by omega⟩
        simp [Instr.sliceBounds, Instr.sliceBound, run_asIntOf, hc]
        omega
      | [], hr, h => simp [bounds] at h
      | [.bool _], hr, h => simp [bounds] at h

theorem mmI_ok (mx : Bool) {k : IntKind} : ∀ {a : Int} {ds : List AV} {vs : List Value} {d : AV}, RepL p bl vs ds → mmI mx k a ds = some d →
    ∃ v, (vs.foldlM (if mx then Builtin.max2 else Builtin.min2) (.int k a)).run P w = .ok v w ∧ Rep p bl v d
  | a, [], vs, d, hr, h => by
    have : vs = [] := List.length_eq_zero_iff.1 hr.1
    subst this
    simp only [mmI, Option.some.injEq] at h; subst h
    exact ⟨_, rfl, .int ..⟩
  | a, .int k' b :: rest, v :: vs, d, hr, h => by
    have hv := rep_int (repL_cons hr).1
    simp only [mmI, Option.ite_none_right_eq_some] at h
    obtain ⟨rfl, h⟩ := h
    obtain ⟨u, h1, h2⟩ := mmI_ok mx (repL_cons hr).2 h
    refine ⟨u, ?_, h2⟩
    rw [List.foldlM_cons, hv]
    cases mx
    · simp only [Bool.false_eq_true, if_false, Builtin.min2] at h1 ⊢
      exact h1
    · simp only [if_true, Builtin.max2] at h1 ⊢
      exact h1
  | a, .int k' b :: rest, [], d, hr, h => by have := hr.1; simp at this

theorem two {a b : Value} {ds : List AV} (hr : RepL p bl [a, b] ds) : ∃ d e, ds = [d, e] ∧ Rep p bl a d ∧ Rep p bl b e := by
  match ds, hr with
  | [], hr => exact absurd hr.1 (by simp)
  | [d], hr => exact absurd hr.1 (by simp)
  | [d, e], hr => exact ⟨d, e, rfl, (repL_cons hr).1, (repL_cons (repL_cons hr).2).1⟩
  | _ :: _ :: _ :: _, hr => exact absurd hr.1 (by simp)
theorem one {a : Value} {ds : List AV} (hr : RepL p bl [a] ds) : ∃ d, ds = [d] ∧ Rep p bl a d := by
  match ds, hr with
  | [], hr => exact absurd hr.1 (by simp)
  | [d], hr => exact ⟨d, rfl, (repL_cons hr).1⟩
  | _ :: _ :: _, hr => exact absurd hr.1 (by simp)

theorem equalIn_if1 {n : Nat} {ms : Array (String × TypeId)} {T : TypeId} {u : Value} (hu : P.underlying t = some (.interface ms)) : (Op.equalIn (n + 1) t (.iface T u) .nilIface).run P w = .ok false w := by
  simp only [Op.equalIn, Sem.run_bind, run_und hu, Result.andThen_ok]; rfl
theorem equalIn_if2 {n : Nat} {ms : Array (String × TypeId)} {T : TypeId} {u : Value} (hu : P.underlying t = some (.interface ms)) : (Op.equalIn (n + 1) t .nilIface (.iface T u)).run P w = .ok false w := by
  simp only [Op.equalIn, Sem.run_bind, run_und hu, Result.andThen_ok]; rfl
theorem equalIn_if3 {n : Nat} {ms : Array (String × TypeId)} (hu : P.underlying t = some (.interface ms)) : (Op.equalIn (n + 1) t .nilIface .nilIface).run P w = .ok true w := by
  simp only [Op.equalIn, Sem.run_bind, run_und hu, Result.andThen_ok]; rfl
theorem equalIn_p1 {n : Nat} {el : TypeId} {a : Addr} (hu : P.underlying t = some (.pointer el)) : (Op.equalIn (n + 1) t (.pointer (some a)) (.pointer none)).run P w = .ok false w := by
  simp only [Op.equalIn, Sem.run_bind, run_und hu, Result.andThen_ok]; rfl
theorem equalIn_p2 {n : Nat} {el : TypeId} {a : Addr} (hu : P.underlying t = some (.pointer el)) : (Op.equalIn (n + 1) t (.pointer none) (.pointer (some a))).run P w = .ok false w := by
  simp only [Op.equalIn, Sem.run_bind, run_und hu, Result.andThen_ok]; rfl
theorem equalIn_p3 {n : Nat} {el : TypeId} (hu : P.underlying t = some (.pointer el)) : (Op.equalIn (n + 1) t (.pointer none) (.pointer none)).run P w = .ok true w := by
  simp only [Op.equalIn, Sem.run_bind, run_und hu, Result.andThen_ok]; rfl
theorem eqGuard_int {op : BinOp} {x y : Operand} {k : IntKind} {n : Int} {b : Value} : eqGuard op t x y (.int k n) b = pure () := by cases op <;> rfl
theorem eqGuard_str {op : BinOp} {x y : Operand} {s : ByteArray} {b : Value} : eqGuard op t x y (.string s) b = pure () := by cases op <;> rfl
theorem eqGuard_bool {op : BinOp} {x y : Operand} {s : Bool} {b : Value} : eqGuard op t x y (.bool s) b = pure () := by cases op <;> rfl
theorem eqGuard_ptr {op : BinOp} {x y : Operand} {s : Option Addr} {b : Value} : eqGuard op t x y (.pointer s) b = pure () := by cases op <;> rfl
theorem eqGuard_iface1 {op : BinOp} {x y : Operand} {T : TypeId} {u b : Value} : eqGuard op t x y (.iface T u) b = pure () := by cases op <;> rfl
theorem eqGuard_iface2 {op : BinOp} {x y : Operand} {T : TypeId} {u : Value} : eqGuard op t x y .nilIface (.iface T u) = pure () := by cases op <;> rfl

theorem equal_step (x y : Value) : Op.equal t x y = Op.equalIn (9999 + 1) t x y := rfl
theorem equalIn_bool {n : Nat} {a b : Bool} (hu : P.underlying t = some .bool) : (Op.equalIn (n + 1) t (.bool a) (.bool b)).run P w = .ok (a == b) w := by
  simp only [Op.equalIn, Sem.run_bind, run_und hu, Result.andThen_ok]; rfl

theorem binX_ok {op : BinOp} {k k' : IntKind} {a b : Int} {d : AV} (h : binX op k a k' b = some d) : ∃ v, (binOp op t (.int k a) (.int k' b)).run P w = .ok v w ∧ Rep p bl v d := by
  have main : (if k = k' then binI op k a b else none) = some d → ∃ v, (binOp op t (.int k a) (.int k' b)).run P w = .ok v w ∧ Rep p bl v d := by
    intro h1
    simp only [Option.ite_none_right_eq_some] at h1
    obtain ⟨e, h2⟩ := h1
    subst e
    exact binI_ok h2
  cases op
  case shl =>
    simp only [binX, Option.ite_none_right_eq_some, Option.some.injEq] at h
    obtain ⟨h0, rfl⟩ := h
    refine ⟨_, ?_, .int ..⟩
    simp only [binOp, Op.shift]
    rw [if_neg (by omega)]; rfl
  case shr =>
    simp only [binX, Option.ite_none_right_eq_some, Option.some.injEq] at h
    obtain ⟨h0, rfl⟩ := h
    refine ⟨_, ?_, .int ..⟩
    simp only [binOp, Op.shift]
    rw [if_neg (by omega)]; rfl
  all_goals exact main h

theorem binB_ok {op : BinOp} {a b : Bool} {d : AV} (hu : P.underlying t = some .bool) (h : binB op a b = some d) : ∃ v, (binOp op t (.bool a) (.bool b)).run P w = .ok v w ∧ Rep p bl v d := by
  have he : (Op.equal t (.bool a) (.bool b)).run P w = .ok (a == b) w := by
    rw [equal_step]; exact equalIn_bool hu
  cases op <;> simp only [binB, reduceCtorEq, Option.some.injEq] at h
  · subst h; exact ⟨_, by simp only [binOp, Sem.run_bind, he, Result.andThen_ok]; rfl, .bool _⟩
  · subst h; exact ⟨_, by simp only [binOp, Sem.run_bind, he, Result.andThen_ok]; rfl, .bool _⟩

theorem cellsEqK_append {k1 k2 : List CK} : ∀ {cs ds : List AV} {b : Bool}, cellsEqK (k1 ++ k2) cs ds = some b →
    ∃ b1 b2, cellsEqK k1 (cs.take k1.length) (ds.take k1.length) = some b1 ∧ cellsEqK k2 (cs.drop k1.length) (ds.drop k1.length) = some b2 ∧ b = (b1 && b2) := by
  induction k1 with
  | nil => intro cs ds b h; exact ⟨true, b, by simp [cellsEqK], by simpa using h, by simp⟩
  | cons k k1 ih =>
    intro cs ds b h
    cases k <;> cases cs <;> cases ds <;> try (simp [cellsEqK] at h; done)
    all_goals
      rename_i c cs d ds
      cases c <;> cases d <;> try (simp [cellsEqK] at h; done)
    · simp only [List.cons_append, cellsEqK, Option.ite_none_right_eq_some] at h
      obtain ⟨hk, h⟩ := h
      split at h
      · rename_i c hc
        cases h
        obtain ⟨b1, b2, h1, h2, rfl⟩ := ih hc
        refine ⟨_, b2, by simp only [List.length_cons, List.take_succ_cons, cellsEqK, hk, if_true, h1]; rfl, by simpa using h2, by rw [Bool.and_assoc]⟩
      · cases h
    · simp only [List.cons_append, cellsEqK] at h
      split at h
      · rename_i c hc
        cases h
        obtain ⟨b1, b2, h1, h2, rfl⟩ := ih hc
        refine ⟨_, b2, by simp only [List.length_cons, List.take_succ_cons, cellsEqK, h1]; rfl, by simpa using h2, by rw [Bool.and_assoc]⟩
      · cases h
    · simp only [List.cons_append, cellsEqK] at h
      split at h
      · rename_i c hc
        cases h
        obtain ⟨b1, b2, h1, h2, rfl⟩ := ih hc
        refine ⟨_, b2, by simp only [List.length_cons, List.take_succ_cons, cellsEqK, h1]; rfl, by simpa using h2, by rw [Bool.and_assoc]⟩
      · cases h

theorem cellsEqK_len {ks : List CK} : ∀ {cs ds : List AV} {b : Bool}, cellsEqK ks cs ds = some b → cs.length = ks.length ∧ ds.length = ks.length := by
  induction ks with
  | nil => intro cs ds b h; cases cs <;> cases ds <;> simp [cellsEqK] at h ⊢
  | cons k ks ih =>
    intro cs ds b h
    cases k <;> cases cs <;> cases ds <;> try (simp [cellsEqK] at h; done)
    all_goals
      rename_i c cs d ds
      cases c <;> cases d <;> try (simp [cellsEqK] at h; done)
    · simp only [cellsEqK, Option.ite_none_right_eq_some] at h
      obtain ⟨hk, h⟩ := h
      split at h
      · rename_i c hc; have := ih hc; simp [this]
      · cases h
    · simp only [cellsEqK] at h
      split at h
      · rename_i c hc; have := ih hc; simp [this]
      · cases h
    · simp only [cellsEqK] at h
      split at h
      · rename_i c hc; have := ih hc; simp [this]
      · cases h

/-- What '==' answers of two values of a type whose cells are told. -/
def EqAt (P : Program) (w : World) (m : Nat) (t : TypeId) (vs us : List Value) (b : Bool) : Prop :=
  if aggT P t then (Op.equalIn m t (.agg ⟨vs⟩) (.agg ⟨us⟩)).run P w = .ok b w else ∃ v u, vs = [v] ∧ us = [u] ∧ (Op.equalIn m t v u).run P w = .ok b w

theorem kinds_known {n : Nat} {ks : List CK} (h : kindsOf P n t = some ks) : known P t = true ∧ ks.length = szOf P t := by
  cases n with
  | zero => cases h
  | succ n =>
    simp only [kindsOf] at h
    split at h
    · cases h
    · rename_i hk
      refine ⟨by simpa using hk, ?_⟩
      split at h
      · simp only [Option.ite_none_right_eq_some, Option.some.injEq] at h; obtain ⟨h1, rfl⟩ := h; exact h1.symm
      · simp only [Option.ite_none_right_eq_some, Option.some.injEq] at h; obtain ⟨h1, rfl⟩ := h; exact h1.symm
      · simp only [Option.ite_none_right_eq_some, Option.some.injEq] at h; obtain ⟨h1, rfl⟩ := h; exact h1.symm
      · split at h
        · cases h
        · split at h
          · simp only [Option.ite_none_right_eq_some, Option.some.injEq] at h; obtain ⟨h1, rfl⟩ := h; exact h1
          · cases h
      · cases h

theorem fields_eq {K : TypeId → Option (List CK)} {m : Nat} (hK : ∀ {t : TypeId} {ks : List CK}, K t = some ks → known P t = true ∧ ks.length = szOf P t ∧ ∀ {vs us : List Value} {cs es : List AV} {b : Bool}, RepL p bl vs cs → RepL p bl us es → cellsEqK ks cs es = some b → EqAt P w m t vs us b)
    {vs us : List Value} {cs es : List AV} (hv : RepL p bl vs cs) (hu : RepL p bl us es) : ∀ {fs : List Field} {off : Nat} {ks : List CK} {b : Bool}, fieldsK K fs off = some ks → cellsEqK ks (cs.drop off) (es.drop off) = some b → (Op.eqFields m ⟨vs⟩ ⟨us⟩ fs).run P w = .ok b w := by
  intro fs
  induction fs with
  | nil =>
    intro off ks b h hb
    cases h
    cases h1 : cs.drop off <;> cases h2 : es.drop off <;> rw [h1, h2] at hb <;> simp [cellsEqK] at hb
    subst hb; rfl
  | cons f fs ih =>
    intro off ks b h hb
    simp only [fieldsK] at h
    split at h
    · cases h
    · rename_i hn
      simp only [Bool.or_eq_true, beq_iff_eq, bne_iff_ne, ne_eq, not_or, Decidable.not_not] at hn
      obtain ⟨hn, rfl⟩ := hn
      split at h
      · rename_i k1 hk1
        split at h
        · cases h
        rename_i hne
        split at h
        · rename_i r hr
          cases h
          obtain ⟨b1, b2, h1, h2, rfl⟩ := cellsEqK_append hb
          obtain ⟨q1, q2, q3⟩ := hK hk1
          obtain ⟨dd, hud⟩ := und_of_known q1
          rw [List.drop_drop, List.drop_drop] at h2
          have ihr := ih hr h2
          have l1 := cellsEqK_len h1
          rw [List.length_take, List.length_drop, List.length_take, List.length_drop] at l1
          have hlen : f.offset + szOf P f.type ≤ cs.length := by omega
          have hlen2 : f.offset + szOf P f.type ≤ es.length := by omega
          rw [q2] at h1
          have hK3 := q3 ((hv.drop f.offset).take (szOf P f.type)) ((hu.drop f.offset).take (szOf P f.type)) h1
          have hn' : f.name ≠ "_" := hn
          have parts : ∃ x y, (part f.type ⟨vs⟩ f.offset).run P w = .ok x w ∧ (part f.type ⟨us⟩ f.offset).run P w = .ok y w ∧ (Op.equalIn m f.type x y).run P w = .ok b1 w := by
            unfold EqAt at hK3
            unfold part
            simp only [Sem.run_bind, run_isAgg hud, Result.andThen_ok]
            split at hK3
            · rename_i ha
              simp only [ha, if_true, Sem.run_bind, run_sizeOf q1, Result.andThen_ok]
              refine ⟨.agg ⟨(vs.drop f.offset).take (szOf P f.type)⟩, .agg ⟨(us.drop f.offset).take (szOf P f.type)⟩, ?_, ?_, hK3⟩
              · simp only [Sem.run_pure, List.extract_toArray, Result.ok.injEq, Value.agg.injEq, and_true]
                rw [List.extract_eq_take_drop]; simp
              · simp only [Sem.run_pure, List.extract_toArray, Result.ok.injEq, Value.agg.injEq, and_true]
                rw [List.extract_eq_take_drop]; simp
            · rename_i ha
              obtain ⟨x, y, e1, e2, e3⟩ := hK3
              have g1 : vs[f.offset]? = some x := by
                have : ((vs.drop f.offset).take (szOf P f.type))[0]? = some x := by rw [e1]; rfl
                rw [List.getElem?_take, if_pos (by omega), List.getElem?_drop] at this; exact this
              have g2 : us[f.offset]? = some y := by
                have : ((us.drop f.offset).take (szOf P f.type))[0]? = some y := by rw [e2]; rfl
                rw [List.getElem?_take, if_pos (by omega), List.getElem?_drop] at this; exact this
              refine ⟨x, y, ?_, ?_, e3⟩
              · simp only [ha, if_false, Bool.false_eq_true]
                have : (⟨vs⟩ : Array Value)[f.offset]? = some x := by simpa using g1
                rw [this]; rfl
              · simp only [ha, if_false, Bool.false_eq_true]
                have : (⟨us⟩ : Array Value)[f.offset]? = some y := by simpa using g2
                rw [this]; rfl
          obtain ⟨x, y, p1, p2, p3⟩ := parts
          rw [Op.eqFields]
          simp only [if_pos hn', Sem.run_bind, p1, p2, p3, Result.andThen_ok]
          cases b1
          · simp
          · simpa using ihr
        · cases h
      · cases h

theorem kinds_eq : ∀ (n : Nat) {t : TypeId} {ks : List CK}, kindsOf P n t = some ks → ∀ (m : Nat), n ≤ m → ∀ {vs us : List Value} {cs es : List AV} {b : Bool}, RepL p bl vs cs → RepL p bl us es → cellsEqK ks cs es = some b → EqAt P w m t vs us b
  | 0, _, _, h, _, _ => by cases h
  | n + 1, t, ks, h, 0, hm => by omega
  | n + 1, t, ks, h, m + 1, hm => by
    rename_i vs us cs es b
    intro hv hu hb
    have one_cell : ∀ {k : CK}, cellsEqK [k] cs es = some b → ∃ c e v u, cs = [c] ∧ es = [e] ∧ vs = [v] ∧ us = [u] ∧ Rep p bl v c ∧ Rep p bl u e := by
      intro k hb
      have hl := cellsEqK_len hb
      obtain ⟨c, rfl⟩ := List.length_eq_one_iff.1 hl.1
      obtain ⟨e, rfl⟩ := List.length_eq_one_iff.1 hl.2
      obtain ⟨v, rfl⟩ := List.length_eq_one_iff.1 hv.1
      obtain ⟨u, rfl⟩ := List.length_eq_one_iff.1 hu.1
      exact ⟨c, e, v, u, rfl, rfl, rfl, rfl, hv.2 0 v c rfl rfl, hu.2 0 u e rfl rfl⟩
    simp only [kindsOf] at h
    split at h
    · cases h
    split at h
    · rename_i hut
      simp only [Option.ite_none_right_eq_some, Option.some.injEq] at h
      obtain ⟨hz, rfl⟩ := h
      obtain ⟨c, e, v, u, rfl, rfl, rfl, rfl, r1, r2⟩ := one_cell hb
      unfold EqAt
      rw [if_neg (by simp [aggT, hut])]
      refine ⟨v, u, rfl, rfl, ?_⟩
      cases c <;> cases e <;> simp [cellsEqK] at hb
      subst hb
      rw [rep_bool r1, rep_bool r2]; exact equalIn_bool hut
    · rename_i hut
      simp only [Option.ite_none_right_eq_some, Option.some.injEq] at h
      obtain ⟨hz, rfl⟩ := h
      obtain ⟨c, e, v, u, rfl, rfl, rfl, rfl, r1, r2⟩ := one_cell hb
      unfold EqAt
      rw [if_neg (by simp [aggT, hut])]
      refine ⟨v, u, rfl, rfl, ?_⟩
      cases c <;> cases e <;> simp [cellsEqK] at hb
      obtain ⟨rfl, rfl⟩ := hb
      rw [rep_int r1, rep_int r2]; exact run_equalIn_int w m t _ _ _ _ hut
    · rename_i hut
      simp only [Option.ite_none_right_eq_some, Option.some.injEq] at h
      obtain ⟨hz, rfl⟩ := h
      obtain ⟨c, e, v, u, rfl, rfl, rfl, rfl, r1, r2⟩ := one_cell hb
      unfold EqAt
      rw [if_neg (by simp [aggT, hut])]
      refine ⟨v, u, rfl, rfl, ?_⟩
      cases c <;> cases e <;> simp [cellsEqK] at hb
      subst hb
      rw [rep_str r1, rep_str r2, run_equalIn_string w m t _ _ hut]
      congr 1
      rw [ByteArray.toList_eq, ByteArray.toList_eq]
    · rename_i fs hut
      split at h
      · cases h
      rename_i hst
      split at h
      · rename_i k0 hk0
        simp only [Option.ite_none_right_eq_some, Option.some.injEq] at h
        obtain ⟨hz, rfl⟩ := h
        unfold EqAt
        rw [if_pos (by simp [aggT, hut])]
        have hf : P.fieldsOf t = fs := by simp [Program.fieldsOf, hut]
        rw [run_equalIn_struct w m t ⟨vs⟩ ⟨us⟩ (by rw [hf]; exact hut) (by simpa using hst), hf]
        refine fields_eq (K := kindsOf P n) (m := m) (fun {t ks} hk => ⟨(kinds_known hk).1, (kinds_known hk).2, fun q1 q2 q3 => kinds_eq n hk m (by omega) q1 q2 q3⟩) hv hu hk0 (by simpa using hb)
      · cases h
    · cases h

theorem bin_sound {op : BinOp} {x y : Operand} {q : POp} (hq : binKind P op t x y = some q) {a b : Value} {d e f : AV} (ha : Rep p bl a d) (hb : Rep p bl b e)
    (hd : pureOp q [d, e] = some f) :
    ∃ v, (do eqGuard op t x y a b; binOp op t a b : Sem Value).run P w = .ok v w ∧ Rep p bl v f := by
  unfold binKind at hq
  have hbin : pureOp (.bin op) [d, e] = some f → ∃ v, (do eqGuard op t x y a b; binOp op t a b : Sem Value).run P w = .ok v w ∧ Rep p bl v f := by
    intro hd
    simp only [pureOp] at hd
    unfold binA at hd
    split at hd
    · rw [rep_int ha, rep_int hb, eqGuard_int]; exact binX_ok hd
    · rw [rep_str ha, rep_str hb, eqGuard_str]; exact binS_ok hd
    · cases hd
  split at hq
  · cases hq; exact hbin hd
  · cases hq; exact hbin hd
  · rename_i hu
    cases hq
    simp only [pureOp] at hd
    unfold binBA at hd
    split at hd
    · rw [rep_bool ha, rep_bool hb, eqGuard_bool]; exact binB_ok hu hd
    · cases hd
  · rename_i ms hu
    simp only [Option.ite_none_right_eq_some, Option.some.injEq] at hq
    obtain ⟨hop, rfl⟩ := hq
    have hop : op = .eql ∨ op = .neq := by simpa using hop
    simp only [pureOp] at hd
    unfold eqIfA at hd
    have go : ∀ {a b : Value} {r : Bool}, (Op.equalIn (9999 + 1) t a b).run P w = .ok r w → (∀ c, binOp .eql t a b = (do pure (.bool (← Op.equal t a b))) ∧ binOp .neq t a b = (do pure (.bool (!(← Op.equal t a b)))) ∨ c) →
        (binOp op t a b).run P w = .ok (.bool (if op == .neq then !r else r)) w := by
      intro a b r he hb
      rcases hb False with ⟨h1, h2⟩ | h
      · rcases hop with rfl | rfl
        · rw [h1]; simp only [Sem.run_bind, equal_step, he, Result.andThen_ok]; rfl
        · rw [h2]; simp only [Sem.run_bind, equal_step, he, Result.andThen_ok]; rfl
      · exact h.elim
    split at hd
    · rename_i T u
      obtain ⟨z, rfl, hz⟩ := rep_iface ha
      rw [rep_nili hb, eqGuard_iface1]
      cases hd
      refine ⟨_, go (r := false) (equalIn_if1 hu) (fun _ => .inl ⟨rfl, rfl⟩), ?_⟩
      rcases hop with rfl | rfl <;> exact .bool _
    · rename_i T u
      obtain ⟨z, rfl, hz⟩ := rep_iface hb
      rw [rep_nili ha, eqGuard_iface2]
      cases hd
      refine ⟨_, go (r := false) (equalIn_if2 hu) (fun _ => .inl ⟨rfl, rfl⟩), ?_⟩
      rcases hop with rfl | rfl <;> exact .bool _
    · simp only [Option.ite_none_right_eq_some, Option.some.injEq] at hd
      obtain ⟨hc, rfl⟩ := hd
      rw [rep_nili ha, rep_nili hb]
      have hg : eqGuard op t x y .nilIface .nilIface = pure () := by
        cases x <;> cases y <;> first | (rcases hop with rfl | rfl <;> rfl; done) | (exact absurd hc (by simp))
      rw [hg]
      refine ⟨_, go (r := true) (equalIn_if3 hu) (fun _ => .inl ⟨rfl, rfl⟩), ?_⟩
      rcases hop with rfl | rfl <;> exact .bool _
    · cases hd
  · rename_i el hu
    simp only [Option.ite_none_right_eq_some, Option.some.injEq] at hq
    obtain ⟨hop, rfl⟩ := hq
    have hop : op = .eql ∨ op = .neq := by simpa using hop
    simp only [pureOp] at hd
    unfold nilPtrA at hd
    have go : ∀ {a b : Option Addr} {r : Bool}, (Op.equalIn (9999 + 1) t (.pointer a) (.pointer b)).run P w = .ok r w →
        (binOp op t (.pointer a) (.pointer b)).run P w = .ok (.bool (if op == .neq then !r else r)) w := by
      intro a b r he
      rcases hop with rfl | rfl
      · simp only [binOp, Sem.run_bind, equal_step, he, Result.andThen_ok]; rfl
      · simp only [binOp, Sem.run_bind, equal_step, he, Result.andThen_ok]; rfl
    split at hd
    · obtain ⟨blk, _, rfl⟩ := rep_ptr ha
      rw [rep_nilp hb, eqGuard_ptr]; cases hd
      refine ⟨_, go (r := false) (equalIn_p1 hu), ?_⟩
      rcases hop with rfl | rfl <;> exact .bool _
    · obtain ⟨blk, _, rfl⟩ := rep_ptr hb
      rw [rep_nilp ha, eqGuard_ptr]; cases hd
      refine ⟨_, go (r := false) (equalIn_p2 hu), ?_⟩
      rcases hop with rfl | rfl <;> exact .bool _
    · obtain ⟨ad, vs, rfl, _⟩ := rep_pel ha
      rw [rep_nilp hb, eqGuard_ptr]; cases hd
      refine ⟨_, go (r := false) (equalIn_p1 hu), ?_⟩
      rcases hop with rfl | rfl <;> exact .bool _
    · rw [rep_nilp ha, rep_nilp hb, eqGuard_ptr]; cases hd
      refine ⟨_, go (r := true) (equalIn_p3 hu), ?_⟩
      rcases hop with rfl | rfl <;> exact .bool _
    · cases hd
  · rename_i fs hu
    simp only [Option.ite_none_right_eq_some, Bool.and_eq_true] at hq
    obtain ⟨⟨hop, hg⟩, hq⟩ := hq
    obtain ⟨ks, hks, rfl⟩ := Option.map_eq_some_iff.1 hq
    have hop : op = .eql ∨ op = .neq := by simpa using hop
    cases d <;> cases e <;> simp only [pureOp, reduceCtorEq] at hd
    rename_i cs es
    split at hd
    · rename_i r hr
      cases hd
      obtain ⟨vs, rfl, hv⟩ := rep_agg ha
      obtain ⟨us, rfl, hu2⟩ := rep_agg hb
      have hE := kinds_eq (w := w) 20 hks 10000 (by omega) hv hu2 hr
      unfold EqAt at hE
      rw [if_pos (by simp [aggT, hu])] at hE
      have hgr : (eqGuard op t x y (.agg ⟨vs⟩) (.agg ⟨us⟩)).run P w = .ok () w := by
        have hg' : P.eqGuardType P.depth t = false := by simpa using hg
        rcases hop with rfl | rfl <;> simp [eqGuard, hg']
      rw [Sem.run_bind, hgr, Result.andThen_ok]
      rcases hop with rfl | rfl
      · rw [run_eql_struct, hE]; exact ⟨_, rfl, .bool _⟩
      · rw [run_neq_struct, hE]; exact ⟨_, rfl, .bool _⟩
    · cases hd
  · cases hq

theorem pure_sound {o : Oper} {q : POp} {xs : List Operand} (hc : convPure P o = some (q, xs)) {ρ : Operand → Value} {ds : List AV} {d : AV}
    (hr : RepL p bl (xs.map ρ) ds) (hd : pureOp q ds = some d) : ∃ v, (execOp ρ o).run P w = .ok (.value v) w ∧ Rep p bl v d := by
  have hx : ∀ {s : Sem Value}, execOp ρ o = (do pure (.value (← s))) → (∃ v, s.run P w = .ok v w ∧ Rep p bl v d) → ∃ v, (execOp ρ o).run P w = .ok (.value v) w ∧ Rep p bl v d :=
    fun he ⟨v, h1, h2⟩ => ⟨v, by rw [he]; exact run_value h1, h2⟩
  unfold convPure at hc
  cases hop : o.op <;> simp only [hop, reduceCtorEq] at hc
  case binOp op t x y yt =>
    obtain ⟨q', hq, he⟩ := Option.map_eq_some_iff.1 hc
    obtain ⟨rfl, rfl⟩ := Prod.mk.inj he
    obtain ⟨e1, e2, rfl, r1, r2⟩ := two hr
    exact hx (by unfold execOp; rw [hop]) (bin_sound hq r1 r2 hd)
  case pick c a b =>
    cases hc
    match ds, hr with
    | [d1, d2, d3], hr =>
      have r1 := (repL_cons hr).1
      have r2 := (repL_cons (repL_cons hr).2).1
      have r3 := (repL_cons (repL_cons (repL_cons hr).2).2).1
      cases d1 <;> simp only [pureOp, reduceCtorEq, Option.some.injEq] at hd
      rename_i cb
      have e1 := rep_bool r1
      refine ⟨if cb then ρ a else ρ b, ?_, ?_⟩
      · unfold execOp; rw [hop]; simp [e1, asBool]
      · subst hd; cases cb
        · exact r3
        · exact r2
    | [], hr => exact absurd hr.1 (by simp)
    | [_], hr => exact absurd hr.1 (by simp)
    | [_, _], hr => exact absurd hr.1 (by simp)
    | _ :: _ :: _ :: _ :: _, hr => exact absurd hr.1 (by simp)
  case unOp op t x =>
    cases hc
    obtain ⟨e1, rfl, r1⟩ := one hr
    refine hx (s := Op.unary op (ρ x)) (by unfold execOp; rw [hop]) ?_
    cases op <;> cases e1 <;> simp only [pureOp, reduceCtorEq, Option.some.injEq] at hd
    · subst hd; rw [rep_int r1]; exact ⟨_, rfl, .int ..⟩
    · subst hd; rw [rep_int r1]; exact ⟨_, rfl, .int ..⟩
    · subst hd; rw [rep_bool r1]; exact ⟨_, rfl, .bool _⟩
  case convert s t x =>
    split at hc <;> cases hc
    · rename_i k1 k2 h1 h2
      obtain ⟨e1, rfl, r1⟩ := one hr
      refine hx (s := convert s t (ρ x)) (by unfold execOp; rw [hop]) ?_
      cases e1 <;> simp only [pureOp, reduceCtorEq, Option.some.injEq] at hd
      subst hd; rw [rep_int r1]
      exact ⟨_, by simp only [convert, Sem.run_bind, run_und h1, run_und h2, Result.andThen_ok]; rfl, .int ..⟩
    · rename_i h1 h2
      obtain ⟨e1, rfl, r1⟩ := one hr
      refine hx (s := convert s t (ρ x)) (by unfold execOp; rw [hop]) ?_
      cases e1 <;> simp only [pureOp, reduceCtorEq, Option.some.injEq] at hd
      subst hd; rw [rep_str r1]
      exact ⟨_, by simp only [convert, Sem.run_bind, run_und h1, run_und h2, Result.andThen_ok]; rfl, .str _⟩
  case field t x f =>
    obtain ⟨⟨off, n, ag⟩, hq, he⟩ := Option.map_eq_some_iff.1 hc
    obtain ⟨rfl, rfl⟩ := Prod.mk.inj he
    obtain ⟨e1, rfl, r1⟩ := one hr
    refine hx (s := Instr.field t (ρ x) f) (by unfold execOp; rw [hop]) ?_
    cases e1 <;> simp only [pureOp, reduceCtorEq, Option.ite_none_right_eq_some] at hd
    rename_i cs
    obtain ⟨hle, hd⟩ := hd
    obtain ⟨vs, hv, hl⟩ := rep_agg r1
    unfold fieldOf at hq
    split at hq
    · rename_i fs hu
      split at hq
      · rename_i fd hfd
        simp only [Option.ite_none_right_eq_some, Option.some.injEq, Prod.mk.injEq] at hq
        obtain ⟨hk, rfl, rfl, rfl⟩ := hq
        obtain ⟨u, hu2⟩ := und_of_known hk
        obtain ⟨v, g1, g2⟩ := run_part (w := w) hu2 hk hl hd hle
        refine ⟨v, ?_, g2⟩
        simp only [Instr.field, Sem.run_bind, run_und hu, Result.andThen_ok, hfd, hv, asAgg, Sem.run_pure, g1]
      · cases hq
    · cases hq
  case extract x i =>
    cases hc
    obtain ⟨e1, rfl, r1⟩ := one hr
    refine hx (s := Instr.extract (ρ x) i) (by unfold execOp; rw [hop]) ?_
    cases e1 <;> simp only [pureOp, reduceCtorEq] at hd
    rename_i cs
    obtain ⟨vs, hv, hl⟩ := rep_tup r1
    obtain ⟨u, hu⟩ := get_of_len hl.1 hd
    refine ⟨u, ?_, hl.2 i u d hu hd⟩
    have : (⟨vs⟩ : Array Value)[i]? = some u := by simpa using hu
    simp only [Instr.extract, hv, this]; rfl
  case nilCheck x =>
    cases hc
    obtain ⟨e1, rfl, r1⟩ := one hr
    refine ⟨ρ x, ?_, ?_⟩
    · unfold execOp; rw [hop]
      cases e1 <;> simp only [pureOp, reduceCtorEq] at hd
      · obtain ⟨blk, _, hv⟩ := rep_ptr r1; simp only [hv]; rfl
      · obtain ⟨ad, vs, hv, _⟩ := rep_pel r1; simp only [hv]; rfl
      · obtain ⟨vs, hv, _⟩ := rep_fn r1; simp only [hv]; rfl
      · obtain ⟨u, hv, _⟩ := rep_iface r1; simp only [hv]; rfl
    · cases e1 <;> simp only [pureOp, reduceCtorEq, Option.some.injEq] at hd <;> (subst hd; exact r1)
  case makeInterface t x =>
    split at hc
    · cases hc
    · cases hc
    · rename_i hni hnn
      cases hc
      obtain ⟨e1, rfl, r1⟩ := one hr
      refine hx (s := Instr.makeInterface t (ρ x)) (by unfold execOp; rw [hop]) ?_
      simp only [pureOp, Option.some.injEq] at hd
      subst hd
      refine ⟨.iface t (ρ x), ?_, .iface _ _ _ r1⟩
      cases hu : P.underlying t with
      | none => exact absurd hu (by simpa using hnn)
      | some u =>
        simp only [Instr.makeInterface, Sem.run_bind, run_und hu, Result.andThen_ok]
        cases u <;> first | rfl | exact absurd hu (by simpa using hni _)
  case makeFunc fn first cap =>
    split at hc
    · rename_i f
      simp only [Option.ite_none_right_eq_some, Option.some.injEq, Prod.mk.injEq] at hc
      obtain ⟨hf, rfl, rfl⟩ := hc
      refine hx (s := Instr.makeFunc (.func f) (first.map ρ) (cap.map ρ)) (by unfold execOp; rw [hop]) ?_
      simp only [pureOp, Option.some.injEq] at hd
      subst hd
      have hfe : first = #[] := by simpa using hf
      subst hfe
      refine ⟨.func (.func f) #[] ⟨cap.toList.map ρ⟩, ?_, .fn f _ _ hr.1 hr.2⟩
      simp only [Instr.makeFunc, Sem.run_pure, Result.ok.injEq, Value.func.injEq, and_true, true_and]
      refine ⟨by simp, ?_⟩
      apply Array.ext'; simp
    · cases hc
  case index t x i =>
    split at hc
    · rename_i hu
      cases hc
      obtain ⟨e1, e2, rfl, r1, r2⟩ := two hr
      refine hx (s := Instr.index t (ρ x) (ρ i)) (by unfold execOp; rw [hop]) ?_
      cases e1 <;> try (simp only [pureOp, reduceCtorEq] at hd; done)
      cases e2 <;> simp only [pureOp, reduceCtorEq, Option.ite_none_right_eq_some] at hd
      rename_i s k n
      obtain ⟨⟨h0, h1⟩, hd⟩ := hd
      split at hd
      · rename_i b hb
        cases hd
        rw [rep_str r1, rep_int r2]
        refine ⟨.int .u8 (b.toNat : Int), ?_, .int ..⟩
        simp only [Instr.index, Sem.run_bind, run_asIntOf, run_und hu, Result.andThen_ok, if_pos h0, str_get, hb]; rfl
      · cases hd
    · rename_i len el hu
      simp only [Option.ite_none_right_eq_some, Option.some.injEq, Prod.mk.injEq] at hc
      obtain ⟨hk, rfl, rfl⟩ := hc
      obtain ⟨e1, e2, rfl, r1, r2⟩ := two hr
      refine hx (s := Instr.index t (ρ x) (ρ i)) (by unfold execOp; rw [hop]) ?_
      cases e1 <;> try (simp only [pureOp, reduceCtorEq] at hd; done)
      cases e2 <;> simp only [pureOp, reduceCtorEq, Option.ite_none_right_eq_some] at hd
      rename_i cs k n
      obtain ⟨⟨h0, h1, h2⟩, hd⟩ := hd
      obtain ⟨vs, hv, hl⟩ := rep_agg r1
      obtain ⟨u, hu2⟩ := und_of_known hk
      have hle : n.toNat * szOf P el + szOf P el ≤ cs.length := by
        have : (n.toNat + 1) * szOf P el ≤ len * szOf P el := Nat.mul_le_mul_right _ (by omega)
        rw [Nat.add_mul] at this; omega
      obtain ⟨v, g1, g2⟩ := run_part (w := w) hu2 hk hl hd hle
      refine ⟨v, ?_, g2⟩
      rw [hv, rep_int r2]
      simp only [Instr.index, Sem.run_bind, run_asIntOf, run_und hu, Result.andThen_ok, if_pos (And.intro h0 h1), run_sizeOf hk, g1]
    · cases hc
  case slice t x lo hi mx =>
    split at hc
    · cases hc
    · rename_i hmx
      have hmx : mx = none := by simpa using hmx
      subst hmx
      split at hc
      · rename_i hu
        cases hc
        match ds, hr, hd with
        | e1 :: rest, hr, hd =>
          have r1 := (repL_cons hr).1
          have r2 := (repL_cons hr).2
          refine hx (s := Instr.sliceAt t (ρ x) (lo.map ρ) (hi.map ρ) none) (by unfold execOp; rw [hop]; rfl) ?_
          cases e1 <;> simp only [pureOp, reduceCtorEq] at hd
          rename_i s
          split at hd
          · rename_i a b hb
            cases hd
            have hrr : RepL p bl ((lo.map ρ).toList ++ (hi.map ρ).toList) rest := by
              have : (lo.map ρ).toList ++ (hi.map ρ).toList = List.map ρ (lo.toList ++ hi.toList) := by cases lo <;> cases hi <;> rfl
              rw [this]; exact r2
            have hb' : bounds (lo.map ρ).isSome (hi.map ρ).isSome s.length rest = some (a, b) := by simpa using hb
            obtain ⟨g1, g2, g3⟩ := bounds_ok (P := P) (w := w) (isS := false) (Nat.le_refl s.length) hrr hb'
            refine ⟨.string ⟨⟨(s.take b).drop a⟩⟩, ?_, .str _⟩
            rw [rep_str r1]
            simp only [Instr.sliceAt, Sem.run_bind, run_und hu, Result.andThen_ok, Instr.slice, str_size, str_extract, Option.isSome_none, Bool.false_eq_true, if_false, g1]; rfl
          · cases hd
      · rename_i el hu
        simp only [Option.ite_none_right_eq_some, Option.some.injEq, Prod.mk.injEq] at hc
        obtain ⟨hk, rfl, rfl⟩ := hc
        match ds, hr, hd with
        | e1 :: rest, hr, hd =>
          have r1 := (repL_cons hr).1
          have r2 := (repL_cons hr).2
          refine hx (s := Instr.sliceAt t (ρ x) (lo.map ρ) (hi.map ρ) none) (by unfold execOp; rw [hop]; rfl) ?_
          cases e1 <;> simp only [pureOp, reduceCtorEq, Option.ite_none_right_eq_some] at hd
          rename_i q z xs
          obtain ⟨⟨hzp, hz⟩, hd⟩ := hd
          split at hd
          · rename_i a b hb
            cases hd
            have hrr : RepL p bl ((lo.map ρ).toList ++ (hi.map ρ).toList) rest := by
              have : (lo.map ρ).toList ++ (hi.map ρ).toList = List.map ρ (lo.toList ++ hi.toList) := by cases lo <;> cases hi <;> rfl
              rw [this]; exact r2
            obtain ⟨A, c, vs, hv, hc, hcz, hvs, hA, hsp, h00, h11, h22, hcell⟩ := rep_sl r1
            have hb' : bounds (lo.map ρ).isSome (hi.map ρ).isSome xs.length rest = some (a, b) := by simpa using hb
            obtain ⟨g1, g2, g3⟩ := bounds_ok (P := P) (w := w) (isS := true) hc hrr hb'
            refine ⟨.slice (if c = a then A else A.map (·.add (a * szOf P el))) (b - a) (c - a), ?_, ?_⟩
            · rw [hv]
              simp only [Instr.sliceAt, Sem.run_bind, run_und hu, Result.andThen_ok, Instr.slice, g1, run_sizeOf hk]; rfl
            · have hz' : ∀ y ∈ xs, y.cells.length = szOf P el := by
                rcases hz with rfl | rfl
                · exact hcz
                · intro y hy; cases hy
              have hvs' : vs.length = xs.length * szOf P el := by
                rcases hz with rfl | rfl
                · exact hvs
                · simpa using hvs
              have hl : RepL p [] vs (flat xs) := ⟨by rw [hvs', flat_len hz'], hcell⟩
              have hl2 := (hl.take (b * szOf P el)).drop (a * szOf P el)
              rw [flat_take b hz', flat_drop a (fun y hy => hz' y (List.mem_of_mem_take hy))] at hl2
              refine .sl _ _ _ false _ _ ((vs.take (b * szOf P el)).drop (a * szOf P el)) (fun y hy => hz' y (List.mem_of_mem_take (List.mem_of_mem_drop hy))) (by simp; omega) (by omega) ?_ ?_ ?_ ?_ (fun u hu => h11 u (List.mem_of_mem_take (List.mem_of_mem_drop hu))) (fun h => by omega) hl2.2
              · simp only [List.length_drop, List.length_take, hvs']
                have : b * szOf P el ≤ xs.length * szOf P el := Nat.mul_le_mul_right _ g3
                rw [Nat.min_eq_left this, Nat.sub_mul]
              · split
                · rename_i hca
                  left
                  have hab : a = b := by omega
                  subst hab
                  apply List.drop_eq_nil_of_le; rw [List.length_take]; omega
                · rcases hA with rfl | ⟨ad, rfl, hh⟩
                  · left; simp
                  · right; exact ⟨_, rfl, (hh.take _).drop _⟩
              · intro hq ad had
                have hca : c - a ≠ 0 := hq.elim (fun e => by cases e) id
                split at had
                · omega
                · cases A with
                  | none => cases had
                  | some A =>
                    simp at had
                    rw [← had, add_none (hsp (.inr (by omega)) A rfl)]
              · intro hn
                split at hn
                · have := h00 hn; omega
                · cases A with
                  | none => have := h00 rfl; omega
                  | some A => cases hn
          · cases hd
      · cases hc
  case fieldAddr s x f =>
    split at hc
    · rename_i off n ag hq
      simp only [Option.ite_none_left_eq_some, Option.some.injEq, Prod.mk.injEq] at hc
      obtain ⟨hn, rfl, rfl⟩ := hc
      obtain ⟨e1, rfl, r1⟩ := one hr
      refine hx (s := Instr.fieldAt s (ρ x) f) (by unfold execOp; rw [hop]) ?_
      unfold fieldOf at hq
      split at hq
      · rename_i fs hu
        split at hq
        · rename_i fd hfd
          simp only [Option.ite_none_right_eq_some, Option.some.injEq, Prod.mk.injEq] at hq
          obtain ⟨hk, rfl, rfl, rfl⟩ := hq
          have key : ∀ a : Addr, (Instr.fieldAt s (.pointer (some a)) f).run P w = .ok (.pointer (some (a.add fd.offset))) w := by
            intro a
            simp only [Instr.fieldAt, Sem.run_bind, run_und hu, Result.andThen_ok, hfd, run_sure, fieldPlace, run_sizeOf hk, if_neg hn]; rfl
          cases e1 <;> simp only [pureOp, reduceCtorEq, Option.some.injEq, Option.ite_none_right_eq_some] at hd
          · obtain ⟨blk, hb, hv⟩ := rep_ptr r1
            subst hd
            rw [hv, key]
            refine ⟨_, rfl, ?_⟩
            rw [add_none rfl]
            exact .ptr _ _ _ hb
          · obtain ⟨ad, vs, hv, hh, hl⟩ := rep_pel r1
            obtain ⟨hle, rfl⟩ := hd
            rw [hv, key]
            refine ⟨_, rfl, ?_⟩
            have := hl.drop fd.offset
            exact .pel _ _ _ this.1 (hh.drop _) this.2
        · cases hq
      · cases hq
    · cases hc
  case indexAddr t x i =>
    split at hc
    · rename_i el hu
      simp only [Option.ite_none_right_eq_some, Option.some.injEq, Prod.mk.injEq] at hc
      obtain ⟨hk, rfl, rfl⟩ := hc
      obtain ⟨e1, e2, rfl, r1, r2⟩ := two hr
      refine hx (s := Instr.indexAt t (ρ x) (ρ i)) (by unfold execOp; rw [hop]) ?_
      cases e1 <;> try (simp only [pureOp, reduceCtorEq] at hd; done)
      cases e2 <;> simp only [pureOp, reduceCtorEq, Option.ite_none_right_eq_some] at hd
      rename_i q z xs k n
      obtain ⟨⟨rfl, hzp, h0, h1⟩, hd⟩ := hd
      split at hd
      · rename_i y hy
        simp only [Option.ite_none_right_eq_some, Option.some.injEq] at hd
        obtain ⟨_, rfl⟩ := hd
        obtain ⟨A, c, vs, hv, hc, hcz, hvs, hA, hsp, h00, h11, h22, hcell⟩ := rep_sl r1
        have he := elem_rep hcz hvs hcell hy
        have hne : xs.length ≠ 0 := by omega
        cases A with
        | none =>
          rcases hA with rfl | ⟨ad, h, _⟩
          · -- no cells: the elements have none
            exfalso
            simp only [List.length_nil] at hvs
            have := Nat.mul_pos (Nat.pos_of_ne_zero hne) hzp
            omega
          · cases h
        | some A =>
          rw [hv, rep_int r2]
          refine ⟨.pointer (some (A.add (n.toNat * szOf P el))), ?_, ?_⟩
          · simp only [Instr.indexAt, Sem.run_bind, run_asIntOf, run_und hu, Result.andThen_ok, Sem.run_pure, if_pos (And.intro h0 h1), run_sizeOf hk]
          · refine .pel _ _ _ he.1 ?_ fun i v d a b => (he.2 i v d a b).mono (fun _ _ _ q => q) List.nil_prefix
            rcases hA with rfl | ⟨ad, h, hh⟩
            · have : (([] : List Value).drop (n.toNat * szOf P el)).take (szOf P el) = [] := by simp
              rw [this]
              refine ⟨?_, fun i v hv => by simp at hv⟩
              rw [add_none (hsp (.inr (by omega)) A rfl)]
            · cases h; exact (hh.drop _).take _
      · cases hd
    · cases hc
  case call c =>
    split at hc
    · rename_i hcal
      split at hc
      · rename_i xx tt hxx htt
        have hlen : (∃ v, (Builtin.len_ c.argTypes o.type (c.args.map ρ)).run P w = .ok v w ∧ Rep p bl v d) → ∃ v, (execOp ρ o).run P w = .ok (.value v) w ∧ Rep p bl v d := by
          intro h
          refine hx ?_ h
          unfold execOp; rw [hop]
          simp only [resolve, hcal, invoke, builtin]; rfl
        have ha : c.argTypes = #[tt] := by apply Array.ext'; simpa using htt
        have hb : c.args = #[xx] := by apply Array.ext'; simpa using hxx
        apply hlen
        rw [ha, hb]
        split at hc
        · rename_i hu
          cases hc
          obtain ⟨e1, rfl, r1⟩ := one hr
          cases e1 <;> simp only [pureOp, reduceCtorEq, Option.some.injEq] at hd
          subst hd
          refine ⟨_, ?_, .int ..⟩
          simp only [Builtin.len_, List.map_toArray, List.map_cons, List.map_nil, rep_str r1, Sem.run_bind, run_und hu, List.getElem?_toArray, List.getElem?_cons_zero, Result.andThen_ok, str_size]; rfl
        · rename_i el hu
          cases hc
          obtain ⟨e1, rfl, r1⟩ := one hr
          cases e1 <;> simp only [pureOp, reduceCtorEq, Option.some.injEq] at hd
          subst hd
          obtain ⟨A, c', vs, hv, _⟩ := rep_sl r1
          refine ⟨_, ?_, .int ..⟩
          simp only [Builtin.len_, List.map_toArray, List.map_cons, List.map_nil, hv, Sem.run_bind, run_und hu, List.getElem?_toArray, List.getElem?_cons_zero, Result.andThen_ok]; rfl
        · cases hc
      · cases hc
    · rename_i hcal
      cases hc
      refine hx (s := Builtin.min_ c.argTypes o.type (c.args.map ρ)) (by unfold execOp; rw [hop]; simp only [resolve, hcal, invoke, builtin]; rfl) ?_
      simp only [pureOp] at hd
      cases ds with
      | nil => simp [minmaxI] at hd
      | cons d1 rest =>
        cases d1 <;> simp only [minmaxI, reduceCtorEq] at hd
        rename_i k a
        cases hl : c.args.toList with
        | nil => rw [hl] at hr; exact absurd hr.1 (by simp)
        | cons x xs =>
          rw [hl] at hr
          obtain ⟨v, g1, g2⟩ := mmI_ok (P := P) (w := w) false (repL_cons hr).2 hd
          refine ⟨v, ?_, g2⟩
          simp only [Builtin.min_, Array.toList_map, hl, List.map_cons, rep_int (repL_cons hr).1]
          exact g1
    · rename_i hcal
      cases hc
      refine hx (s := Builtin.max_ c.argTypes o.type (c.args.map ρ)) (by unfold execOp; rw [hop]; simp only [resolve, hcal, invoke, builtin]; rfl) ?_
      simp only [pureOp] at hd
      cases ds with
      | nil => simp [minmaxI] at hd
      | cons d1 rest =>
        cases d1 <;> simp only [minmaxI, reduceCtorEq] at hd
        rename_i k a
        cases hl : c.args.toList with
        | nil => rw [hl] at hr; exact absurd hr.1 (by simp)
        | cons x xs =>
          rw [hl] at hr
          obtain ⟨v, g1, g2⟩ := mmI_ok (P := P) (w := w) true (repL_cons hr).2 hd
          refine ⟨v, ?_, g2⟩
          simp only [Builtin.max_, Array.toList_map, hl, List.map_cons, rep_int (repL_cons hr).1]
          exact g1
    · cases hc
 end
end Go.Eng
 end

 section
set_option linter.unusedVariables false
set_option linter.unusedSimpArgs false
namespace Go.Eng

 mutual
def AV.eqb : AV → AV → Bool
  | .int k n, .int k' n' => k == k' && n == n'
  | .bool b, .bool b' => b == b'
  | .str s, .str s' => s == s'
  | .sl o z xs, .sl o' z' xs' => o == o' && z == z' && eqbL xs xs'
  | .ptr b o, .ptr b' o' => b == b' && o == o'
  | .nilp, .nilp => true
  | .pel cs, .pel cs' => eqbL cs cs'
  | .fn f cs, .fn f' cs' => f == f' && eqbL cs cs'
  | .nilfn, .nilfn => true
  | .iface t d, .iface t' d' => t == t' && d.eqb d'
  | .nili, .nili => true
  | .agg cs, .agg cs' => eqbL cs cs'
  | .tup cs, .tup cs' => eqbL cs cs'
  | .junk, .junk => true
  | .bld t e, .bld t' e' => t == t' && e == e'
  | _, _ => false
def eqbL : List AV → List AV → Bool
  | [], [] => true
  | d :: ds, e :: es => d.eqb e && eqbL ds es
  | _, _ => false
 end
def eqbM : Mem → Mem → Bool
  | [], [] => true
  | d :: ds, e :: es => eqbL d e && eqbM ds es
  | _, _ => false

/-! ### Operations -/
inductive Opd where
  | t (i : Nat) (tk : Bool)
  | c (d : AV)
 deriving Inhabited

def Opd.ev (env : Env) : Opd → AV
  | .t i true => env.getD i .junk
  | .t i false => (env.getD i .junk).plain
  | .c d => d
def Opd.clr (env : Env) : Opd → Env
  | .t i true => env.set i (env.getD i .junk).plain
  | _ => env
/-- The operands' values, and the slots behind it. -/
def evs (env : Env) : List Opd → List AV × Env
  | [] => ([], env)
  | x :: xs => (x.ev env :: (evs (x.clr env) xs).1, (evs (x.clr env) xs).2)

inductive OpK where
  | pure (q : POp)
  | mov
  | ext (i : Nat)
  | load (n : Nat) (agg tk : Bool)
  | store (n : Nat)
  | new (n : Nat)
  | newB (t e : TypeId)
  | build (zero : List AV) (parts : List (Nat × Nat))
  | bslice (z : Nat) (agg : Bool) (len : Nat)
  | append (z : Nat) (bytes : Nat) (str : Bool)
  | call (f : FuncId)
  | callv
  | appendZ (z : Nat) (bytes : Nat) (agg : Bool)
  | chk
  | cvBS
  | cvSB
  | bad
 deriving Inhabited

structure RInst where
  dst : Option Nat
  op : OpK
  xs : List Opd
  guard : Option (Nat × Bool)
 deriving Inhabited

/-- The shape of a value. -/
inductive Sh where
  | any
  | int (k : IntKind)
  | bool
  | str
  | sl (o : Bool) (z : Nat)
  | nilp
  | nilfn
  | nili
  | bld (t e : TypeId)
  | ptr (b o : Nat)
  | agg (l : List Sh)
  | tup (l : List Sh)
  | fn (f : FuncId) (l : List Sh)
 deriving Inhabited
/-- Instructions in groups: a group that makes one bool, and is forgotten behind it. -/
inductive Grp where
  | one (r : RInst) (s : Sh)
  | sub (l : List (RInst × Sh)) (t : Nat)
 deriving Inhabited
def Grp.flat : Grp → List RInst
  | .one r _ => [r]
  | .sub l _ => l.map (·.1)
def flatG (gs : List Grp) : List RInst := gs.flatMap Grp.flat
def chunk : List (Nat × Option Nat) → List (RInst × Sh) → List Grp
  | [], rs => rs.map fun x => .one x.1 x.2
  | (n, none) :: l, rs => ((rs.take n).map fun x => .one x.1 x.2) ++ chunk l (rs.drop n)
  | (n, some t) :: l, rs => .sub (rs.take n) t :: chunk l (rs.drop n)
theorem flat_ones : ∀ (rs : List (RInst × Sh)), flatG (rs.map fun x => .one x.1 x.2) = rs.map (·.1)
  | [] => rfl
  | x :: rs => by
    have := flat_ones rs
    simp only [flatG, List.map_cons, List.flatMap_cons, Grp.flat] at *
    rw [this]; rfl
theorem flat_chunk : ∀ (l : List (Nat × Option Nat)) (rs : List (RInst × Sh)), flatG (chunk l rs) = rs.map (·.1)
  | [], rs => flat_ones rs
  | (n, none) :: l, rs => by
    have h1 := flat_ones (rs.take n)
    have h2 := flat_chunk l (rs.drop n)
    simp only [flatG, chunk, List.flatMap_append] at *
    rw [h1, h2, ← List.map_append, List.take_append_drop]
  | (n, some t) :: l, rs => by
    have h2 := flat_chunk l (rs.drop n)
    simp only [flatG, chunk, List.flatMap_cons, Grp.flat] at *
    rw [h2, ← List.map_append, List.take_append_drop]
def withSh (f : Nat → Sh) (rs : List RInst) : List (RInst × Sh) := rs.zipIdx.map fun x => (x.1, f x.2)
theorem withSh_fst (f : Nat → Sh) (rs : List RInst) : (withSh f rs).map (·.1) = rs := by
  unfold withSh
  rw [List.map_map]
  have : ((fun x => x.1) ∘ fun x => (x.1, f x.2) : RInst × Nat → RInst) = Prod.fst := by funext x; rfl
  rw [this, List.zipIdx_map_fst]

inductive RCode where
  | skip
  | stop
  | region (draw : Option (List Nat × List (Nat × List Nat))) (live : List Nat) (gs : List Grp)
  | seq (a b : RCode)
  | cond (c : Opd) (x y : RCode)
  | block (id : Nat) (c : RCode)
  | loop (id : Nat) (live : List Nat) (c : RCode)
  | cut (id : Nat) (live out : List Nat) (c : RCode)
  | frame (c : RCode)
  | exit (id : Nat) (live : List Nat)
  | ret (live : List Nat)
 deriving Inhabited

inductive RExit where
  | normal
  | exit (id : Nat)
  | ret
 deriving DecidableEq, Inhabited

inductive RRes where
  | tmp (t : Nat) (tk : Bool)
  | cell (t n : Nat) (agg : Bool)
 deriving Inhabited

structure RFunc where
  ntmps : Nat
  body : RCode
  results : List RRes
  keep : Bool
 deriving Inhabited

structure Oracle where
  call : FuncId → List AV → Mem → Option (AV × Mem)
  loop : List Nat → RCode → Env → Mem → Option (RExit × Env × Mem)

def AV.isCell : AV → Bool
  | .agg _ | .tup _ | .junk | .bld _ _ => false
  | _ => true
def AV.isBld : AV → Bool
  | .bld _ _ => true
  | _ => false
def hasBld (cs : List AV) : Bool := cs.any AV.isBld

def splice (cs : List AV) (o : Nat) (ds : List AV) : List AV := cs.take o ++ ds ++ cs.drop (o + ds.length)

def loadAV (cs : List AV) (o n : Nat) (agg : Bool) : Option AV :=
  if o + n ≤ cs.length then (if agg then some (.agg ((cs.drop o).take n)) else cs[o]?) else none

def byteOf : AV → Option UInt8
  | .int .u8 n => if 0 ≤ n ∧ n < 256 then some n.toNat.toUInt8 else none
  | _ => none
def bytesL : List AV → Option (List UInt8)
  | [] => some []
  | d :: ds => match byteOf d, bytesL ds with
    | some b, some l => some (b :: l)
    | _, _ => none
theorem bytesL_eq : ∀ {ds : List AV} {l : List UInt8}, bytesL ds = some l → ds = l.map byte
  | [], l, h => by cases h; rfl
  | d :: ds, l, h => by
    unfold bytesL at h
    split at h
    · rename_i b l' h1 h2
      cases h
      have := bytesL_eq h2
      subst this
      unfold byteOf at h1
      split at h1
      · rename_i n
        simp only [Option.ite_none_right_eq_some, Option.some.injEq] at h1
        obtain ⟨⟨a, b'⟩, rfl⟩ := h1
        simp only [List.map_cons, byte]
        congr 2
        have : (n.toNat.toUInt8).toNat = n.toNat := by
          simp [Nat.toUInt8]
          omega
        rw [this]; omega
      · cases h1
    · cases h

def fillA (cells : List AV) : List (Nat × Nat) → List AV → Option (List AV)
  | [], [] => some cells
  | (off, n) :: rest, d :: ds => if d.cells.length = n ∧ off + n ≤ cells.length ∧ d.cells.all AV.isCell then fillA (splice cells off d.cells) rest ds else none
  | _, _ => none

def okElem (z : Nat) (agg : Bool) (d : AV) : Bool :=
  d.noPtr && (if agg then (match d with | .agg cs => cs.length == z && cs.all AV.isCell | _ => false) else z == 1 && d.isCell)

def appendA (z bytes : Nat) (str : Bool) : AV → AV → Option AV
  | .sl true z1 xs, .sl _ z2 ys =>
    if str = false ∧ 0 < z ∧ (z1 = z ∨ z1 = 0) ∧ (z2 = z ∨ ys = []) ∧ (2 * (xs.length + ys.length) + 1024) * bytes ≤ 140737488355328 ∧ xs.length + ys.length ≤ 4611686018427387904 then some (.sl true z (xs ++ ys)) else none
  | .sl true z1 xs, .str ys =>
    if str = true ∧ z = 1 ∧ (z1 = z ∨ z1 = 0) ∧ (2 * (xs.length + ys.length) + 1024) * bytes ≤ 140737488355328 ∧ xs.length + ys.length ≤ 4611686018427387904 then some (.sl true z (xs ++ ys.map byte)) else none
  | _, _ => none

def appendZA (z bytes : Nat) (agg : Bool) : List AV → Option AV
  | [.sl _ z2 [_], .int _ n, .sl true z1 xs, x] =>
    if n = (xs.length : Int) ∧ 0 < z ∧ (z1 = z ∨ z1 = 0) ∧ z2 = z ∧ okElem z agg x = true ∧ (2 * (xs.length + 1) + 1024) * bytes ≤ 140737488355328 ∧ xs.length + 1 ≤ 4611686018427387904 then some (.sl true z (xs ++ [x.plain])) else none
  | _ => none

/-- One operation on its operands' values: its value, the memory behind it. -/
def opA (Φ : Oracle) (k : OpK) (ds : List AV) (mem : Mem) : Option (AV × Mem) :=
  match k with
  | .pure q => match pureOp q ds with
    | some d => some (d.plain, mem)
    | none => none
  | .mov => match ds with
    | [d] => some (d, mem)
    | _ => none
  | .ext i => match ds with
    | [.tup es] => match es[i]? with
      | some (.tup _) => none
      | some d => some (d, mem)
      | none => none
    | _ => none
  | .load n agg tk => match ds with
    | [.ptr b o] => match mem[b]? with
      | some cs => match loadAV cs o n agg with
        | some d => if tk then (if hasBld cs then none else match d with
            | .sl q z xs => some (.sl q z xs, mem.set b (cs.set o (.sl false z xs)))
            | _ => none) else some (d.plain, mem)
        | none => none
      | none => none
    | [.pel cs] => match loadAV cs 0 n agg with
      | some d => some (d.plain, mem)
      | none => none
    | _ => none
  | .store n => match ds with
    | [.ptr b o, x] => match mem[b]? with
      | some cs => if x.cells.length = n ∧ o + n ≤ cs.length ∧ x.cells.all AV.isCell ∧ hasBld cs = false then some (.junk, mem.set b (splice cs o (scrubL (b + 1) x.cells))) else none
      | none => none
    | _ => none
  | .new n => match ds with
    | [x] => if x.cells.length = n ∧ x.cells.all AV.isCell then some (.ptr mem.length 0, mem ++ [scrubL (mem.length + 1) x.cells]) else none
    | _ => none
  | .newB t e => match ds with
    | [.agg [.nilp, .sl false 0 []]] => some (.ptr mem.length 0, mem ++ [[.bld t e, .sl true 1 []]])
    | _ => none
  | .build zero parts => if noPtrL zero then (match fillA zero parts ds with
    | some cs => some (.agg cs, mem)
    | none => none) else none
  | .bslice z agg len => if ds.length = len ∧ 0 < z ∧ len * z ≤ 16777216 ∧ ds.all (okElem z agg) then some (.sl true z (ds.map AV.plain), mem) else none
  | .append z bytes str => match ds with
    | [s, x] => match appendA z bytes str s x with
      | some d => some (d, mem)
      | none => none
    | _ => none
  | .appendZ z bytes agg => match appendZA z bytes agg ds with
    | some d => some (d, mem)
    | none => none
  | .chk => match ds with
    | [.pel _] => some (.junk, mem)
    | _ => none
  | .cvBS => match ds with
    | [.sl _ z xs] => if z = 1 ∧ xs.length ≤ 9223372036854775807 then (match bytesL xs with
      | some l => some (.str l, mem)
      | none => none) else none
    | _ => none
  | .cvSB => match ds with
    | [.str s] => if s.length ≤ 4611686018427387904 then some (.sl true 1 (s.map byte), mem) else none
    | _ => none
  | .bad => none
  | .call f => Φ.call f ds mem
  | .callv => match ds with
    | .fn f caps :: rest => Φ.call f (rest ++ caps.map AV.plain) mem
    | _ => none

def putDst (env : Env) : Option Nat → AV → Env
  | some i, d => env.set i d
  | none, _ => env

def stepGo (Φ : Oracle) (o : RInst) (env : Env) (mem : Mem) : Option (Env × Mem) :=
  match opA Φ o.op (evs env o.xs).1 mem with
  | some (d, mem') => some (putDst (evs env o.xs).2 o.dst d, mem')
  | none => none

/-- Is a guarded instruction carried out? What was passed by holds the empty tuple. -/
def gOk (want : Bool) : AV → Option Bool
  | .bool b => some (b == want)
  | .tup [] => some false
  | _ => none
def stepInst (Φ : Oracle) (o : RInst) (env : Env) (mem : Mem) : Option (Env × Mem) :=
  match o.guard with
  | none => stepGo Φ o env mem
  | some (s, want) => match gOk want (env.getD s .junk) with
    | some true => stepGo Φ o env mem
    | some false => some (putDst env o.dst (.tup []), mem)
    | none => none

def execOps (Φ : Oracle) : List RInst → Env → Mem → Option (Env × Mem)
  | [], env, mem => some (env, mem)
  | o :: os, env, mem => match stepInst Φ o env mem with
    | some (env', mem') => execOps Φ os env' mem'
    | none => none

def OpK.memFree : OpK → Bool
  | .pure _ | .mov | .ext _ | .build _ _ | .bslice _ _ _ | .append _ _ _ | .appendZ _ _ _ | .chk | .cvBS | .cvSB => true
  | _ => false

/-- What the loads at these places read is the same before and behind a store. -/
def stable (all : List RInst) (l : List Nat) (env : Env) (mem mem' : Mem) : Bool :=
  l.all fun i => match all[i]? with
    | some r => (match (evs env r.xs).1 with
      | [.ptr b _] => (match mem[b]?, mem'[b]? with
        | some x, some y => eqbL x y
        | _, _ => false)
      | [.pel _] => true
      | _ => false)
    | none => false
def stabAt (sx : List (Nat × List Nat)) (all : List RInst) (k : Nat) (env : Env) (mem mem' : Mem) : Bool :=
  match sx.lookup k with
  | none => true
  | some l => eqbM mem' mem || stable all l env mem mem'

/-- The text's order, in which those that aren't writers leave the memory alone. -/
def execDraw (Φ : Oracle) (wl : List Nat) (sx : List (Nat × List Nat)) (all : List RInst) : List RInst → Nat → Env → Mem → Option (Env × Mem)
  | [], _, env, mem => some (env, mem)
  | o :: os, k, env, mem => match stepInst Φ o env mem with
    | some (env', mem') => if (o.op.memFree || wl.contains k || eqbM mem' mem) && stabAt sx all k env mem mem' then execDraw Φ wl sx all os (k + 1) env' mem' else none
    | none => none

def only (live : List Nat) (env : Env) : Env := env.zipIdx.map fun (d, i) => if live.contains i then d else .junk

def exec (Φ : Oracle) : RCode → Env → Mem → Option (RExit × Env × Mem)
  | .skip, env, mem => some (.normal, env, mem)
  | .stop, env, mem => none
  | .region none live gs, env, mem => match execOps Φ (flatG gs) env mem with
    | some (env', mem') => some (.normal, only live env', mem')
    | none => none
  | .region (some (wl, sx)) live gs, env, mem => match execDraw Φ wl sx (flatG gs) (flatG gs) 0 env mem with
    | some (env', mem') => some (.normal, only live env', mem')
    | none => none
  | .seq a b, env, mem => match exec Φ a env mem with
    | some (.normal, env', mem') => exec Φ b env' mem'
    | r => r
  | .cond c x y, env, mem => match c.ev env with
    | .bool true => exec Φ x env mem
    | .bool false => exec Φ y env mem
    | _ => none
  | .block id c, env, mem => match exec Φ c env mem with
    | some (.exit id', env', mem') => if id' = id then some (.normal, env', mem') else some (.exit id', env', mem')
    | r => r
  | .loop id live c, env, mem => Φ.loop live c (only live env) mem
  | .cut id live out c, env, mem => match exec Φ c (only live env) mem with
    | some (.normal, env', mem') => some (.normal, only out env', mem')
    | r => r
  | .frame c, env, mem => match exec Φ c env mem with
    | some (x, env', mem') => some (x, scrubL mem.length env', mem'.take mem.length)
    | none => none
  | .exit id live, env, mem => some (.exit id, only live env, mem)
  | .ret live, env, mem => some (.ret, only live env, mem)

def resAVs (env : Env) (mem : Mem) : List RRes → Option (List AV)
  | [] => some []
  | .tmp t tk :: rs => match resAVs ((Opd.t t tk).clr env) mem rs with
    | some ds => some ((Opd.t t tk).ev env :: ds)
    | none => none
  | .cell t n agg :: rs => match (env.getD t .junk).plain with
    | .ptr b o => match mem[b]? with
      | some cs => match loadAV cs o n agg, resAVs env mem rs with
        | some d, some ds => some (d.plain :: ds)
        | _, _ => none
      | none => none
    | _ => none
def pack : List AV → AV
  | [d] => d
  | ds => .tup ds

def callBody (Φ : Oracle) (fn : RFunc) (args : List AV) (mem : Mem) : Option (AV × Mem) :=
  if args.length ≤ fn.ntmps then
    match exec Φ fn.body (args ++ List.replicate (fn.ntmps - args.length) .junk) mem with
    | some (ex, env', mem') => match ex with
      | .exit _ => none
      | _ => match resAVs env' mem' fn.results with
        | some ds => if fn.keep || mem'.length == mem.length then some (pack ds, mem') else some ((pack ds).scrub mem.length, mem'.take mem.length)
        | none => none
    | none => none
  else none

/-- A program: its functions, and what is told of those that have no text or are proved otherwise. -/
structure Prog where
  fn : FuncId → Option RFunc
  ext : FuncId → Option (List AV → Mem → Option (AV × Mem))

def runF (Q : Prog) : Nat → Oracle
  | 0 => ⟨fun _ _ _ => none, fun _ _ _ _ => none⟩
  | n + 1 => ⟨fun f args mem => match Q.ext f with
      | some e => e args mem
      | none => match Q.fn f with
        | some fn => callBody (runF Q n) fn args mem
        | none => none,
    fun live c env mem => match exec (runF Q n) c env mem with
      | some (.normal, env', mem') => (runF Q n).loop live c (only live env') mem'
      | r => r⟩

end Go.Eng
 end

 section
set_option linter.unusedVariables false
set_option linter.unusedSimpArgs false
namespace Go.Eng
 section
variable {g g' : Gh} {w w' : World} {vals vs vs' : List Value} {env ds ds' : Env} {mem mem' : Mem} {fr : List Nat}

theorem ownL_append (h : vals.length = env.length) : ownL (vals ++ vs) (env ++ ds) = ownL vals env ++ ownL vs ds := by
  unfold ownL; rw [List.zip_append h, List.flatMap_append]
theorem claims_append (h : vals.length = env.length) (t : Nat) : (claims g (vals ++ vs) (env ++ ds) mem).count t = (claims g vals env mem).count t + (ownL vs ds).count t := by
  rw [count_claims, count_claims, ownL_append h, List.count_append]; omega

theorem Inv.left (hl : vals.length = env.length) (h : Inv g w (vals ++ vs) (env ++ ds) mem fr) : Inv g w vals env mem fr := by
  refine ⟨⟨hl, fun i v d a b => ?_⟩, fun i v d a b => ?_, h.blLen, h.mvLen, h.persOk, h.memOk, ?_, h.frLt, h.memPtr⟩
  · exact h.envRep.2 i v d (by rw [List.getElem?_append_left (lt_of_get a)]; exact a) (by rw [List.getElem?_append_left (lt_of_get b)]; exact b)
  · exact h.envOwn i v d (by rw [List.getElem?_append_left (lt_of_get a)]; exact a) (by rw [List.getElem?_append_left (lt_of_get b)]; exact b)
  · rw [List.nodup_iff_count]; intro t
    have := nd_count h t
    rw [claims_append hl] at this
    rw [List.count_append]; omega

theorem get_app_right {α : Type} {l m : List α} {i : Nat} {x : α} (h : m[i]? = some x) : (l ++ m)[l.length + i]? = some x := by
  rw [List.getElem?_append_right (by omega)]; simpa using h

theorem Inv.right (hl : vals.length = env.length) (h : Inv g w (vals ++ vs) (env ++ ds) mem fr) : Inv g w vs ds mem (fr ++ ownL vals env) := by
  have hlen : vs.length = ds.length := by have := h.envRep.1; simp at this; omega
  refine ⟨⟨hlen, fun i v d a b => ?_⟩, fun i v d a b => ?_, h.blLen, h.mvLen, h.persOk, h.memOk, ?_, fun t ht => ?_, h.memPtr⟩
  · exact h.envRep.2 _ v d (get_app_right a) (by rw [hl]; exact get_app_right b)
  · exact h.envOwn _ v d (get_app_right a) (by rw [hl]; exact get_app_right b)
  · rw [List.nodup_iff_count]; intro t
    have := nd_count h t
    rw [claims_append hl, count_claims] at this
    rw [List.count_append, List.count_append, count_claims]; omega
  · rcases List.mem_append.1 ht with ht | ht
    · exact h.frLt t ht
    · refine h.claims_lt ?_
      rw [mem_count, claims_append hl, count_claims]
      have := mem_count.1 ht; omega

theorem Inv.extend (h : Inv g w vals env mem fr) {v : Value} {d : AV} (hr : Rep g.pers g.bl v d) (ho : OwnOk w g.pers v d)
    (hn : ∀ t, (own v d).count t + (claims g vals env mem).count t + fr.count t ≤ 1) : Inv g w (vals ++ [v]) (env ++ [d]) mem fr := by
  have hl := h.envRep.1
  refine ⟨⟨by simp [hl], fun i u e a b => ?_⟩, fun i u e a b => ?_, h.blLen, h.mvLen, h.persOk, h.memOk, ?_, h.frLt, h.memPtr⟩
  · rcases Nat.lt_or_ge i vals.length with q | q
    · rw [List.getElem?_append_left q] at a; rw [List.getElem?_append_left (by omega)] at b; exact h.envRep.2 i u e a b
    · rw [List.getElem?_append_right q] at a; rw [List.getElem?_append_right (by omega)] at b
      rw [hl] at a
      cases hk : i - env.length with
      | zero => rw [hk] at a b; simp at a b; subst a; subst b; exact hr
      | succ k => rw [hk] at a; simp at a
  · rcases Nat.lt_or_ge i vals.length with q | q
    · rw [List.getElem?_append_left q] at a; rw [List.getElem?_append_left (by omega)] at b; exact h.envOwn i u e a b
    · rw [List.getElem?_append_right q] at a; rw [List.getElem?_append_right (by omega)] at b
      rw [hl] at a
      cases hk : i - env.length with
      | zero => rw [hk] at a b; simp at a b; subst a; subst b; exact ho
      | succ k => rw [hk] at a; simp at a
  · rw [List.nodup_iff_count]; intro t
    have := hn t
    rw [List.count_append, claims_append hl]
    have e : ownL [v] [d] = own v d := by simp [ownL]
    rw [e]; omega

/-- The result comes into its slot. -/
theorem Inv.settle (hl : vals.length = env.length) {v : Value} {d : AV} (h : Inv g w (vals ++ [v]) (env ++ [d]) mem fr) (i : Nat) : Inv g w (vals.set i v) (env.set i d) mem fr := by
  have e : ownL [v] [d] = own v d := by simp [ownL]
  refine (h.left hl).put i (h.envRep.2 vals.length v d (by simp) (by rw [hl]; simp)) (h.envOwn vals.length v d (by simp) (by rw [hl]; simp)) fun t => ?_
  have := nd_count h t
  rw [claims_append hl, e] at this; omega

/-- One block, unchanged. -/
theorem Tail.keep {p p' : Pers} {x : Leaf} (hs : ∀ b, b ∈ own1 x → w'.heap[b]? = w.heap[b]? ∧ ∀ o, p' b o = p b o) (h : Tail w p x) : Tail w' p' x := by
  unfold Tail at *
  split at h
  · rename_i ad n c z xs
    obtain ⟨cells, e, fz, h1, h2, h3⟩ := h
    obtain ⟨s1, s2⟩ := hs ad.block (by simp [own1])
    exact ⟨cells, e, fz, s1.trans h1, h2, fun o a b => by rw [s2]; exact h3 o a b⟩
  · trivial
theorem OwnOk.keep {p p' : Pers} {v : Value} {d : AV} (hs : ∀ b, b ∈ own v d → w'.heap[b]? = w.heap[b]? ∧ ∀ o, p' b o = p b o) (h : OwnOk w p v d) : OwnOk w' p' v d :=
  fun x hx => (h x hx).keep fun b hb => hs b (List.mem_flatMap.2 ⟨x, hx, hb⟩)

theorem mem_ownL {i : Nat} {v : Value} {d : AV} (a : vals[i]? = some v) (b : env[i]? = some d) {t : Nat} (ht : t ∈ own v d) : t ∈ ownL vals env :=
  List.mem_flatMap.2 ⟨(v, d), List.mem_of_getElem? (zip_get a b), ht⟩

/-- **The frame**: what the operation was not given stays as it is. -/
theorem Inv.frame (hl : vals.length = env.length) (h : Inv g w (vals ++ vs) (env ++ ds) mem fr) (h' : Inv g' w' vs' ds' mem' (fr ++ ownL vals env))
    (e : Goes (claims g vs ds mem) g w (claims g' vs' ds' mem') g' w') :
    Inv g' w' (vals ++ vs') (env ++ ds') mem' fr ∧ Goes (claims g (vals ++ vs) (env ++ ds) mem) g w (claims g' (vals ++ vs') (env ++ ds') mem') g' w' := by
  have hL := h.left hl
  have keep : ∀ t, t ∈ ownL vals env → w'.heap[t]? = w.heap[t]? ∧ ∀ o, g'.pers t o = g.pers t o := by
    intro t ht
    have hlt : t < w.heap.size := hL.claims_lt (by rw [mem_count, count_claims]; have := mem_count.1 ht; omega)
    refine e.ext.same t hlt fun hm => ?_
    have h1 := nd_count h t
    rw [claims_append hl, count_claims] at h1
    have h2 := mem_count.1 ht
    have h3 := mem_count.1 hm
    rw [count_claims] at h3
    omega
  have hlen : vs'.length = ds'.length := h'.envRep.1
  refine ⟨⟨⟨by simp [hl, hlen], fun i v d a b => ?_⟩, fun i v d a b => ?_, h'.blLen, h'.mvLen, h'.persOk, h'.memOk, ?_, fun t ht => h'.frLt t (List.mem_append_left _ ht), h'.memPtr⟩, ?_, ?_⟩
  · rcases Nat.lt_or_ge i vals.length with q | q
    · rw [List.getElem?_append_left q] at a; rw [List.getElem?_append_left (by omega)] at b
      exact (hL.envRep.2 i v d a b).mono e.ext.pers e.ext.bl
    · rw [List.getElem?_append_right q] at a; rw [List.getElem?_append_right (by omega)] at b
      rw [hl] at a
      exact h'.envRep.2 _ v d a b
  · rcases Nat.lt_or_ge i vals.length with q | q
    · rw [List.getElem?_append_left q] at a; rw [List.getElem?_append_left (by omega)] at b
      exact (hL.envOwn i v d a b).keep fun t ht => keep t (mem_ownL a b ht)
    · rw [List.getElem?_append_right q] at a; rw [List.getElem?_append_right (by omega)] at b
      rw [hl] at a
      exact h'.envOwn _ v d a b
  · rw [List.nodup_iff_count]; intro t
    have := nd_count h' t
    rw [List.count_append] at this
    rw [List.count_append, count_claims, ownL_append hl, List.count_append]
    rw [count_claims] at this
    omega
  · exact ⟨e.ext.os, e.ext.tape, e.ext.output, e.ext.size, e.ext.pers, e.ext.bl, fun b hb hn => e.ext.same b hb fun hm => hn (by
      rw [mem_count, claims_append hl, count_claims]; have := mem_count.1 hm; rw [count_claims] at this; omega)⟩
  · intro b hb
    rw [mem_count, count_claims, ownL_append hl, List.count_append] at hb
    by_cases hv : 0 < (ownL vals env).count b
    · left; rw [mem_count, claims_append hl, count_claims]; omega
    · have : b ∈ claims g' vs' ds' mem' := by rw [mem_count, count_claims]; omega
      rcases e.sub b this with h1 | h1
      · left; rw [mem_count, claims_append hl, count_claims]; have := mem_count.1 h1; rw [count_claims] at this; omega
      · exact .inr h1

/-! ### Operands -/
def constAV (z : Nat) : Value → Option AV
  | .int k n => some (.int k n)
  | .bool b => some (.bool b)
  | .string s => some (.str s.data.toList)
  | .pointer none => some .nilp
  | .slice none 0 0 => some (.sl (z % 2 == 1) (z / 2) [])
  | .nilFunc => some .nilfn
  | .nilIface => some .nili
  | _ => none

theorem constAV_rep {z : Nat} {v : Value} {d : AV} (h : constAV z v = some d) {p : Pers} {bl : List Nat} : Rep p bl v d ∧ own v d = [] ∧ ∀ w, OwnOk w p v d := by
  unfold constAV at h
  split at h <;> cases h
  · exact ⟨.int .., rfl, fun w => noOwn_ok rfl⟩
  · exact ⟨.bool _, rfl, fun w => noOwn_ok rfl⟩
  · rename_i s
    refine ⟨?_, rfl, fun w => noOwn_ok rfl⟩
    have : s = ⟨⟨s.data.toList⟩⟩ := rfl
    exact .str _
  · exact ⟨.nilp, rfl, fun w => noOwn_ok rfl⟩
  · exact ⟨.sl none 0 0 (z % 2 == 1) (z / 2) [] [] (fun x h => by cases h) rfl (Nat.le_refl _) (by simp) (.inl rfl) (fun _ ad h => by cases h) (fun _ => rfl) (fun u h => by cases h) (fun _ => rfl) (fun i v d h => by simp at h), rfl, fun w x hx => by
      simp [leaves, leaves2] at hx; subst hx; cases (z % 2 == 1) <;> trivial⟩
  · exact ⟨.nilfn, rfl, fun w => noOwn_ok rfl⟩
  · exact ⟨.nili, rfl, fun w => noOwn_ok rfl⟩

/-- The constant of a struct: its cells. -/
def cellsAV : List Nat → List Value → Option (List AV)
  | _, [] => some []
  | zs, v :: vs => match constAV (zs.headD 0) v, cellsAV zs.tail vs with
    | some d, some ds => some (d :: ds)
    | _, _ => none
def constAgg (zs : List Nat) : Value → Option AV
  | .agg cs => match cellsAV zs cs.toList with
    | some ds => some (.agg ds)
    | none => none
  | v => constAV (zs.headD 0) v

theorem cellsAV_rep {zs : List Nat} {vs : List Value} {ds : List AV} (h : cellsAV zs vs = some ds) {p : Pers} {bl : List Nat} : RepL p bl vs ds ∧ (∀ x ∈ vs.zip ds, own1 x = []) ∧ ∀ w, ∀ x ∈ vs.zip ds, Tail w p x := by
  induction vs generalizing ds zs with
  | nil => cases zs <;> (cases h; exact ⟨repL_nil, by simp, by simp⟩)
  | cons v vs ih =>
    unfold cellsAV at h
    split at h
    · rename_i d es h1 h2
      cases h
      obtain ⟨a1, a2, a3⟩ := constAV_rep (p := p) (bl := bl) h1
      obtain ⟨b1, b2, b3⟩ := ih h2
      have hlv : leaves v d = [(v, d)] := by
        unfold constAV at h1
        split at h1 <;> cases h1 <;> rfl
      refine ⟨repL_mk a1 b1, fun x hx => ?_, fun w x hx => ?_⟩
      · rcases List.mem_cons.1 (by simpa using hx : x ∈ (v, d) :: vs.zip es) with rfl | hx
        · unfold own at a2; rw [hlv] at a2; simpa using a2
        · exact b2 x hx
      · rcases List.mem_cons.1 (by simpa using hx : x ∈ (v, d) :: vs.zip es) with rfl | hx
        · exact a3 w _ (by rw [hlv]; simp)
        · exact b3 w x hx
    · cases h

theorem constAgg_rep {zs : List Nat} {v : Value} {d : AV} (h : constAgg zs v = some d) {p : Pers} {bl : List Nat} : Rep p bl v d ∧ own v d = [] ∧ ∀ w, OwnOk w p v d := by
  unfold constAgg at h
  split at h
  · rename_i cs
    split at h
    · rename_i ds hd
      cases h
      obtain ⟨a, b, c⟩ := cellsAV_rep (p := p) (bl := bl) hd
      refine ⟨.agg cs.toList ds a.1 a.2, ?_, fun w x hx => ?_⟩
      · unfold own; rw [List.flatMap_eq_nil_iff]; exact fun x hx => b x hx
      · exact c w x hx
    · cases h
  · exact constAV_rep h

def conOpd (zs : List Nat) (o : Operand) (tk : Bool) : Option Opd :=
  match o with
  | .tmp i => some (.t i tk)
  | .const v => (constAgg zs v).map .c
  | .func f => some (.c (.fn f []))
  | .global _ => none

theorem getD_undef {i : Nat} : (⟨vals⟩ : Array Value).getD i undef = (vals[i]?).getD undef := by
  simp [Array.getD_eq_getD_getElem?]

theorem claims_set_plain (hl : vals.length = env.length) (i : Nat) (t : Nat) :
    (claims g vals (env.set i (env.getD i .junk).plain) mem).count t ≤ (claims g vals env mem).count t := by
  cases hd : env[i]? with
  | none => rw [set_of_none hd]; exact Nat.le_refl _
  | some d =>
    obtain ⟨v, hv⟩ := get_of_len hl hd
    have hg : env.getD i .junk = d := by simp [List.getD_eq_getElem?_getD, hd]
    rw [hg]
    have hvs : vals = vals.set i v := by
      apply List.ext_getElem?; intro j; rw [List.getElem?_set]; split
      · rename_i e; subst e; rw [if_pos (lt_of_get hv), hv]
      · rfl
    have h2 := count_ownL_set (vals := vals) (env := env) t (v' := v) (d' := d.plain) hv hd
    rw [own_plain, ← hvs] at h2
    rw [count_claims, count_claims]; simp at h2; omega

/-- One operand: taken, or looked at. Pending values stand behind the slots. -/
theorem take_one (hl : vals.length = env.length) (h : Inv g w (vals ++ vs) (env ++ ds) mem fr) {zs : List Nat} {o : Operand} {tk : Bool} {x : Opd} (hx : conOpd zs o tk = some x) {a : Act} (ha : a.tmps = ⟨vals⟩) :
    Inv g w (vals ++ (vs ++ [a.eval o])) (x.clr env ++ (ds ++ [x.ev env])) mem fr ∧ (x.clr env).length = env.length ∧
    ∀ t, (claims g (vals ++ (vs ++ [a.eval o])) (x.clr env ++ (ds ++ [x.ev env])) mem).count t ≤ (claims g (vals ++ vs) (env ++ ds) mem).count t := by
  have hlen : vs.length = ds.length := by have := h.envRep.1; simp at this; omega
  have fin : ∀ (env1 : Env) (v : Value) (d : AV), env1.length = env.length → Inv g w (vals ++ vs) (env1 ++ ds) mem fr → Rep g.pers g.bl v d → OwnOk w g.pers v d →
      (∀ t, (own v d).count t + (claims g (vals ++ vs) (env1 ++ ds) mem).count t ≤ (claims g (vals ++ vs) (env ++ ds) mem).count t) →
      Inv g w (vals ++ (vs ++ [v])) (env1 ++ (ds ++ [d])) mem fr ∧ ∀ t, (claims g (vals ++ (vs ++ [v])) (env1 ++ (ds ++ [d])) mem).count t ≤ (claims g (vals ++ vs) (env ++ ds) mem).count t := by
    intro env1 v d h1 h2 h3 h4 h5
    have hlv : (vals ++ vs).length = (env1 ++ ds).length := h2.envRep.1
    have := h2.extend h3 h4 (fun t => by have := h5 t; have := nd_count h t; omega)
    rw [List.append_assoc, List.append_assoc] at this
    refine ⟨this, fun t => ?_⟩
    rw [← List.append_assoc, ← List.append_assoc, claims_append hlv]
    have e : ownL [v] [d] = own v d := by simp [ownL]
    rw [e]; have := h5 t; omega
  unfold conOpd at hx
  split at hx
  · rename_i i
    cases hx
    have hev : a.eval (.tmp i) = (vals[i]?).getD undef := by simp only [Act.eval, ha]; exact getD_undef
    cases hd : env[i]? with
    | none =>
      have hg : env.getD i .junk = .junk := by simp [List.getD_eq_getElem?_getD, hd]
      have hvn : vals[i]? = none := by rw [List.getElem?_eq_none_iff] at *; omega
      have hc : (Opd.t i tk).clr env = env := by cases tk <;> simp [Opd.clr, set_of_none hd]
      have hE : (Opd.t i tk).ev env = .junk := by cases tk <;> simp only [Opd.ev, hg] <;> rfl
      rw [hc, hE]
      have := fin env (a.eval (.tmp i)) .junk rfl h (.junk _) (noOwn_ok rfl) (fun t => by rw [noOwn_own rfl]; simp)
      exact ⟨this.1, rfl, this.2⟩
    | some d =>
      have hg : env.getD i .junk = d := by simp [List.getD_eq_getElem?_getD, hd]
      obtain ⟨v, hv⟩ := get_of_len hl hd
      have hv' : (vals ++ vs)[i]? = some v := by rw [List.getElem?_append_left (lt_of_get hv)]; exact hv
      have hd' : (env ++ ds)[i]? = some d := by rw [List.getElem?_append_left (lt_of_get hd)]; exact hd
      have he : a.eval (.tmp i) = v := by rw [hev, hv]; rfl
      rw [he]
      cases tk with
      | true =>
        obtain ⟨c1, c2, c3⟩ := h.clear hv' hd'
        have hset : (env ++ ds).set i d.plain = env.set i d.plain ++ ds := by rw [List.set_append_left _ _ (lt_of_get hd)]
        rw [hset] at c1 c2 c3
        simp only [Opd.clr, Opd.ev, hg]
        have := fin (env.set i d.plain) v d (by simp) c1 (h.envRep.2 i v d hv' hd') (h.envOwn i v d hv' hd') (fun t => by have := c3 t; omega)
        exact ⟨this.1, by simp, this.2⟩
      | false =>
        simp only [Opd.clr, Opd.ev, hg]
        have := fin env v d.plain rfl h (h.envRep.2 i v d hv' hd').plain (ok_plain w g.pers v d) (fun t => by rw [own_plain]; simp)
        exact ⟨this.1, by simp, this.2⟩
  · rename_i v
    obtain ⟨d, hd, rfl⟩ := Option.map_eq_some_iff.1 hx
    obtain ⟨c1, c2, c3⟩ := constAgg_rep (p := g.pers) (bl := g.bl) hd
    have := fin env v d rfl h c1 (c3 w) (fun t => by rw [c2]; simp)
    exact ⟨this.1, rfl, this.2⟩
  · rename_i f
    cases hx
    have := fin env (.func (.func f) #[] #[]) (.fn f []) rfl h (.fn f [] [] rfl (fun i v d h => by simp at h)) (noOwn_ok rfl) (fun t => by rw [noOwn_own rfl]; simp)
    exact ⟨this.1, rfl, this.2⟩
  · cases hx

def conOpds (zs : List Nat) : List Operand → List Bool → Option (List Opd)
  | [], _ => some []
  | o :: os, ts => match conOpd zs o (ts.headD false), conOpds zs os ts.tail with
    | some x, some xs => some (x :: xs)
    | _, _ => none

theorem take_all {zs : List Nat} {a : Act} (ha : a.tmps = ⟨vals⟩) : ∀ {os : List Operand} {ts : List Bool} {xs : List Opd} {env : Env} {vs : List Value} {ds : List AV}, vals.length = env.length → conOpds zs os ts = some xs →
    Inv g w (vals ++ vs) (env ++ ds) mem fr →
    Inv g w (vals ++ (vs ++ os.map a.eval)) ((evs env xs).2 ++ (ds ++ (evs env xs).1)) mem fr ∧ (evs env xs).2.length = env.length ∧
    ∀ t, (claims g (vals ++ (vs ++ os.map a.eval)) ((evs env xs).2 ++ (ds ++ (evs env xs).1)) mem).count t ≤ (claims g (vals ++ vs) (env ++ ds) mem).count t
  | [], ts, xs, env, vs, ds, hl, hx, h => by
    cases hx
    simp only [evs, List.map_nil, List.append_nil, Nat.le_refl, implies_true, and_true]
    exact h
  | o :: os, ts, xs, env, vs, ds, hl, hx, h => by
    unfold conOpds at hx
    split at hx
    · rename_i x xs' h1 h2
      cases hx
      obtain ⟨k1, k2, k3⟩ := take_one hl h h1 ha
      obtain ⟨m1, m2, m3⟩ := take_all ha (by rw [hl, k2]) h2 k1
      simp only [evs, List.map_cons]
      rw [List.append_assoc, List.append_assoc] at m1
      simp only [List.singleton_append] at m1
      refine ⟨m1, m2.trans k2, fun t => ?_⟩
      have := m3 t
      rw [List.append_assoc, List.append_assoc] at this
      simp only [List.singleton_append] at this
      exact Nat.le_trans this (k3 t)
    · cases hx
 end
end Go.Eng
 end
