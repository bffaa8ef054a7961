/- The reference's Parse: nothing fails; what is printed is read.
   The reference's Parse: its answer. Both readers answer alike.
   VmapTranslates, but for awake. -/
import Derived.Test.YtlgpcmklpknmcaaDoorQd
 section
set_option linter.unusedVariables false
set_option linter.unusedSimpArgs false
namespace Go.Proofs.YtlgpcmklpknmcaaDoor
open Go Go.Eng Go.Proofs

theorem rbegins_is (s p : List UInt8) : drayageref13_begins s p = some (p.isPrefixOf s) := by
  rw [← isPre_eq]
  apply drayageref13_begins_of
  unfold drayageref13_begins_E
  by_cases h : p.length ≤ s.length
  · rw [decide_eq_true h, decide_eq_true (by omega), cutS_to h]; rfl
  · rw [decide_eq_false h, decide_eq_false (by omega)]; rfl
abbrev Core := Int × List AV × List UInt8 × List UInt8 × Int × Int
/-! ### The epoch -/
theorem l7_tot (f : Int) (s : List UInt8) (hs : s.length ≤ 1000) : ∀ (l : List UInt8) (i : Nat) (rest : List UInt8) (e : Int), s.drop i = l → rest.length ≤ s.length →
    (∃ rest' e', drayageref13_Parse_l7 f s rest (i : Int) 0 [] [] [] 0 0 e [] [] [] 0 0 = some (Sum.inl (f, s, rest', Z6, (e', [], [], [], 0, 0))) ∧ rest'.length ≤ s.length) ∨ ∃ q, drayageref13_Parse_l7 f s rest (i : Int) 0 [] [] [] 0 0 e [] [] [] 0 0 = some (Sum.inr (11, Z6, q))
  | [], i, rest, e, h, hr => by
    refine .inl ⟨rest, e, drayageref13_Parse_l7_of ?_, hr⟩
    unfold drayageref13_Parse_l7_E
    rw [out_dec h]; rfl
  | c :: t, i, rest, e, h, hr => by
    obtain ⟨h1, h2, h3, h4⟩ := drop_cons h
    have hb := byte_eq c 58 (by decide)
    rw [show ((58 : Nat) : Int) = 58 from rfl] at hb
    cases hc : (c == UInt8.ofNat 58) with
    | false =>
      have run : ∀ w, drayageref13_Parse_l7 f s rest ((i + 1 : Nat) : Int) 0 [] [] [] 0 0 e [] [] [] 0 0 = some w → drayageref13_Parse_l7 f s rest (i : Int) 0 [] [] [] 0 0 e [] [] [] 0 0 = some w := fun w hw => by
        apply drayageref13_Parse_l7_of
        unfold drayageref13_Parse_l7_E
        rw [in_dec h, idxS_of h, hb, hc, wr_succ (by omega)]
        exact hw
      rcases l7_tot f s hs t (i + 1) rest e h3 hr with ⟨r', e', g, gl⟩ | ⟨q, g⟩
      · exact .inl ⟨r', e', run _ g, gl⟩
      · exact .inr ⟨q, run _ g⟩
    | true =>
      obtain ⟨n, r, ok, ht, hl⟩ := rtake_tot s (by omega)
      cases ok with
      | false =>
        refine .inr ⟨_, drayageref13_Parse_l7_of (w := Sum.inr (11, Z6, (e, [], [], [], 0, 0))) ?_⟩
        unfold drayageref13_Parse_l7_E
        rw [in_dec h, idxS_of h, hb, hc, ht]; rfl
      | true =>
        have run : ∀ w, drayageref13_Parse_l7 f s (s.drop (i + 1)) ((i + 1 : Nat) : Int) 0 [] [] [] 0 0 n [] [] [] 0 0 = some w → drayageref13_Parse_l7 f s rest (i : Int) 0 [] [] [] 0 0 e [] [] [] 0 0 = some w := fun w hw => by
          apply drayageref13_Parse_l7_of
          unfold drayageref13_Parse_l7_E
          rw [in_dec h, idxS_of h, hb, hc, ht, wr_succ (by omega)]
          simp only [Option.bind_some, cond_true, Bool.not_true, cond_false]
          rw [cutS_from (show i + 1 ≤ s.length by omega)]
          exact hw
        rcases l7_tot f s hs t (i + 1) (s.drop (i + 1)) n h3 (by rw [List.length_drop]; omega) with ⟨r', e', g, gl⟩ | ⟨q, g⟩
        · exact .inl ⟨r', e', run _ g, gl⟩
        · exact .inr ⟨q, run _ g⟩
theorem l7_none (f : Int) (s : List UInt8) (hs : s.length ≤ 1000) (rest : List UInt8) (e : Int) : ∀ (l : List UInt8) (i : Nat), s.drop i = l → (58 : UInt8) ∉ l →
    drayageref13_Parse_l7 f s rest (i : Int) 0 [] [] [] 0 0 e [] [] [] 0 0 = some (Sum.inl (f, s, rest, Z6, (e, [], [], [], 0, 0)))
  | [], i, h, hm => by
    apply drayageref13_Parse_l7_of
    unfold drayageref13_Parse_l7_E
    rw [out_dec h]; rfl
  | c :: t, i, h, hm => by
    obtain ⟨h1, h2, h3, h4⟩ := drop_cons h
    have hb := byte_eq c 58 (by decide)
    rw [show ((58 : Nat) : Int) = 58 from rfl] at hb
    have hc : (c == UInt8.ofNat 58) = false := by
      rw [beq_eq_false_iff_ne]
      intro e
      exact hm (by rw [e]; exact List.mem_cons_self)
    apply drayageref13_Parse_l7_of
    unfold drayageref13_Parse_l7_E
    rw [in_dec h, idxS_of h, hb, hc, wr_succ (by omega)]
    exact l7_none f s hs rest e t (i + 1) h3 (fun x => hm (List.mem_cons_of_mem _ x))
theorem l7_one (f : Int) (s : List UInt8) (hs : s.length ≤ 1000) (b r : List UInt8) (n : Int) (ht : drayageref13_take s = some (n, r, true)) (hb58 : (58 : UInt8) ∉ b) : ∀ (a : List UInt8) (i : Nat), s.drop i = a ++ 58 :: b → (58 : UInt8) ∉ a →
    ∀ rest e, drayageref13_Parse_l7 f s rest (i : Int) 0 [] [] [] 0 0 e [] [] [] 0 0 = some (Sum.inl (f, s, b, Z6, (n, [], [], [], 0, 0)))
  | [], i, h, hm, rest, e => by
    have h : s.drop i = 58 :: b := h
    obtain ⟨h1, h2, h3, h4⟩ := drop_cons h
    have hc : ((UInt8.toNat 58 : Int) == 58) = true := by decide
    apply drayageref13_Parse_l7_of
    unfold drayageref13_Parse_l7_E
    rw [in_dec h, idxS_of h, hc, ht, wr_succ (by omega)]
    simp only [Option.bind_some, cond_true, Bool.not_true, cond_false]
    rw [cutS_from (show i + 1 ≤ s.length by omega), h3]
    exact l7_none f s hs b n b (i + 1) h3 hb58
  | c :: t, i, h, hm, rest, e => by
    have h : s.drop i = c :: (t ++ 58 :: b) := h
    obtain ⟨h1, h2, h3, h4⟩ := drop_cons h
    have hb := byte_eq c 58 (by decide)
    rw [show ((58 : Nat) : Int) = 58 from rfl] at hb
    have hc : (c == UInt8.ofNat 58) = false := by
      rw [beq_eq_false_iff_ne]
      intro e
      exact hm (by rw [e]; exact List.mem_cons_self)
    apply drayageref13_Parse_l7_of
    unfold drayageref13_Parse_l7_E
    rw [in_dec h, idxS_of h, hb, hc, wr_succ (by omega)]
    exact l7_one f s hs b r n ht hb58 t (i + 1) h3 (fun x => hm (List.mem_cons_of_mem _ x)) rest e
/-! ### The numbers -/
theorem l15_tot (f : Int) (s : List UInt8) (e : Int) : ∀ (n : Nat) (rest : List UInt8) (ns : List Int), rest.length ≤ n → ns.length + rest.length ≤ 2000 →
    (∃ rest' ns', drayageref13_Parse_l15 f s rest 0 [] [] [] 0 0 e (iA ns) [] [] 0 0 = some (Sum.inl (f, s, rest', Z6, (e, iA ns', [], [], 0, 0))) ∧ rest'.length ≤ rest.length ∧ ns'.length ≤ ns.length + rest.length + 1) ∨
      ∃ q, drayageref13_Parse_l15 f s rest 0 [] [] [] 0 0 e (iA ns) [] [] 0 0 = some (Sum.inr (11, Z6, q))
  | n, rest, ns, hn, hb => by
    obtain ⟨m, r, ok, h1, h2⟩ := rtake_tot rest (by omega)
    cases ok with
    | false =>
      refine .inr ⟨_, drayageref13_Parse_l15_of (w := Sum.inr (11, Z6, (e, iA ns, [], [], 0, 0))) ?_⟩
      unfold drayageref13_Parse_l15_E
      rw [h1]; rfl
    | true =>
      have hR : ∀ K : Option ((Int × List UInt8 × List UInt8 × (Int × List AV × List UInt8 × List UInt8 × Int × Int) × (Int × List AV × List UInt8 × List UInt8 × Int × Int)) ⊕ (Int × (Int × List AV × List UInt8 × List UInt8 × Int × Int) × (Int × List AV × List UInt8 × List UInt8 × Int × Int))), roomL ((iA ns).length + ([AV.int .i64 m]).length) 8 K = K := fun K => room_of (by simp; omega) (by omega) K
      have hA : iA ns ++ [AV.int .i64 m] = iA (ns ++ [m]) := by simp
      cases hp : ([46] : List UInt8).isPrefixOf r with
      | false =>
        refine .inl ⟨r, ns ++ [m], drayageref13_Parse_l15_of ?_, h2, by rw [List.length_append, List.length_singleton]; omega⟩
        unfold drayageref13_Parse_l15_E
        rw [h1]
        simp only [Option.bind_some, Bool.not_true, cond_false, hR, rbegins_is, hp, Bool.not_false, cond_true, hA]
      | true =>
        have hlen := pre_len hp
        simp only [List.length_singleton] at hlen
        have run : ∀ w, drayageref13_Parse_l15 f s (r.drop 1) 0 [] [] [] 0 0 e (iA (ns ++ [m])) [] [] 0 0 = some w → drayageref13_Parse_l15 f s rest 0 [] [] [] 0 0 e (iA ns) [] [] 0 0 = some w := fun w hw => by
          apply drayageref13_Parse_l15_of
          unfold drayageref13_Parse_l15_E
          rw [h1]
          simp only [Option.bind_some, Bool.not_true, cond_false, hR, rbegins_is, hp, hA]
          have hcut := cutS_from (a := 1) hlen fun s130 => drayageref13_Parse_l15 f s s130 0 [] [] [] 0 0 e (iA (ns ++ [m])) [] [] 0 0
          exact hcut.trans hw
        cases n with
        | zero => omega
        | succ n =>
          rcases l15_tot f s e n (r.drop 1) (ns ++ [m]) (by rw [List.length_drop]; omega) (by rw [List.length_drop]; simp; omega) with ⟨rest', ns', g1, g2, g3⟩ | ⟨q, g⟩
          · rw [List.length_drop] at g2 g3
            exact .inl ⟨rest', ns', run _ g1, by omega, by simp at g3; omega⟩
          · exact .inr ⟨q, run _ g⟩
theorem l15_dec (f : Int) (s : List UInt8) (e : Int) (R : List UInt8) (h1 : R.takeWhile dg = []) (h2 : R.head? ≠ some 46) (hR : R.length ≤ 1000) : ∀ (t : List Int) (n : Int) (ns : List Int), within n = true → t.all within = true → ns.length + t.length ≤ 1000 →
    drayageref13_Parse_l15 f s (dec n ++ (dT t ++ R)) 0 [] [] [] 0 0 e (iA ns) [] [] 0 0 = some (Sum.inl (f, s, R, Z6, (e, iA (ns ++ n :: t), [], [], 0, 0)))
  | t, n, ns, hn, ht, hb => by
    have hlen : (dT t ++ R).length ≤ 90000 := by
      have := nT_len t 1 ht
      rw [nT_dT t 0] at this
      rw [List.length_append]; omega
    have e1 := rtake_dec hn (dT_stop h1 t) hlen
    have hA : iA ns ++ [AV.int .i64 n] = iA (ns ++ [n]) := by simp
    have hRm : ∀ K : Option ((Int × List UInt8 × List UInt8 × (Int × List AV × List UInt8 × List UInt8 × Int × Int) × (Int × List AV × List UInt8 × List UInt8 × Int × Int)) ⊕ (Int × (Int × List AV × List UInt8 × List UInt8 × Int × Int) × (Int × List AV × List UInt8 × List UInt8 × Int × Int))), roomL ((iA ns).length + ([AV.int .i64 n]).length) 8 K = K := fun K => room_of (by simp; omega) (by omega) K
    cases t with
    | nil =>
      have hp : ([46] : List UInt8).isPrefixOf R = false := by rw [pre_cons, beq_eq_false_iff_ne]; exact h2
      apply drayageref13_Parse_l15_of
      unfold drayageref13_Parse_l15_E
      rw [e1]
      simp only [Option.bind_some, hRm, rbegins_is, dT, List.nil_append, hp, cond_false, Bool.not_true, Bool.not_false, cond_true, hA]
    | cons m t =>
      rw [List.all_cons, Bool.and_eq_true] at ht
      have ih := l15_dec f s e R h1 h2 hR t m (ns ++ [n]) ht.1 ht.2 (by simp at hb ⊢; omega)
      have hp : ([46] : List UInt8).isPrefixOf (dT (m :: t) ++ R) = true := by rw [pre_cons]; rfl
      have hcut : ∀ {Y : Type} (K : List UInt8 → Option Y), cutS (dT (m :: t) ++ R) 1 ((dT (m :: t) ++ R).length : Int) K = K (dec m ++ (dT t ++ R)) := fun K => by
        rw [dT, List.cons_append, cutS_one, List.append_assoc]
      apply drayageref13_Parse_l15_of
      unfold drayageref13_Parse_l15_E
      rw [e1]
      simp only [Option.bind_some, hRm, rbegins_is, hp, cond_false, Bool.not_true, hcut, hA]
      rw [ih]
      simp
/-! ### The words -/
/-- The number with which a text begins, if there is one. -/
noncomputable def rtk (s : List UInt8) : Option (Int × List UInt8) := (drayageref13_take s).bind fun x => if x.2.2 = true then some (x.1, x.2.1) else none
theorem rtk_is {s : List UInt8} (hs : s.length ≤ 100000) : (∃ n r, rtk s = some (n, r) ∧ drayageref13_take s = some (n, r, true) ∧ r.length ≤ s.length) ∨ (rtk s = none ∧ ∃ n r, drayageref13_take s = some (n, r, false)) := by
  obtain ⟨n, r, ok, h1, h2⟩ := rtake_tot s hs
  unfold rtk
  rw [h1]
  cases ok with
  | false => exact .inr ⟨rfl, n, r, rfl⟩
  | true => exact .inl ⟨n, r, rfl, rfl, h2⟩
theorem rtk_dec {n : Int} (hn : within n = true) {r : List UInt8} (hr : r.takeWhile dg = []) (hl : r.length ≤ 90000) : rtk (dec n ++ r) = some (n, r) := by
  unfold rtk
  rw [rtake_dec hn hr hl]; rfl
noncomputable def rstp (x p : List UInt8) (st : St) : Option St := if (st.2.1 == [] && x.isPrefixOf st.1) = true then (rtk (st.1.drop x.length)).bind fun y => some (y.2, p, y.1) else some st
theorem rstp_len {x p : List UInt8} {st st' : St} (h : st.1.length ≤ 100000) (hs : rstp x p st = some st') : st'.1.length ≤ st.1.length := by
  unfold rstp at hs; split at hs
  · rcases rtk_is (s := st.1.drop x.length) (by rw [List.length_drop]; omega) with ⟨n, r, h1, _, h3⟩ | ⟨h1, _⟩
    · rw [h1] at hs; injection hs with hs; rw [← hs]
      rw [List.length_drop] at h3
      exact Nat.le_trans h3 (by omega)
    · rw [h1] at hs; cases hs
  · injection hs with hs; rw [hs]; exact Nat.le_refl _
theorem rstp_pre {x p : List UInt8} {st st' : St} (hp : p.length ≤ 5) (h : st.2.1.length ≤ 5) (hs : rstp x p st = some st') : st'.2.1.length ≤ 5 := by
  unfold rstp at hs; split at hs
  · cases hk : rtk (st.1.drop x.length) with
    | none => rw [hk] at hs; cases hs
    | some y => rw [hk] at hs; injection hs with hs; rw [← hs]; exact hp
  · injection hs with hs; rw [← hs]; exact h
/-- What a step of the loop over words leads to. -/
def Led (f : Int) (s d : List UInt8) (e : Int) (A : List AV) (le : List UInt8) (rv : Int) (o : Option St) (w : (Int × List UInt8 × List UInt8 × List UInt8 × Core × Core) ⊕ (Int × Core × Core)) : Prop :=
  match o with
  | some st => w = Sum.inl (f, s, st.1, d, Z6, (e, A, le, st.2.1, st.2.2, rv))
  | none => ∃ q, w = Sum.inr (11, Z6, q)
theorem l30_one {f : Int} {s d x p : List UInt8} {e : Int} {A : List AV} {le : List UInt8} {rv : Int} {st : St} (hx : x.length ≤ 1) (hp : p.length ≤ 10) (hr : st.1.length ≤ 100000)
    {i j : Int} (hi : decide (i < 4) = true) (hj : IntKind.wrap .i64 (i + 1) = j) (hg : drayageref13_word i = some p) {o : Option St → Option St}
    (next : ∀ st', rstp (x ++ p) p st = some st' → ∃ w, drayageref13_Parse_l30 f s st'.1 x d j 0 [] [] [] 0 0 e A le st'.2.1 st'.2.2 rv = some w ∧ Led f s d e A le rv (o (some st')) w) (hn : o none = none) :
    ∃ w, drayageref13_Parse_l30 f s st.1 x d i 0 [] [] [] 0 0 e A le st.2.1 st.2.2 rv = some w ∧ Led f s d e A le rv (o (rstp (x ++ p) p st)) w := by
  have hb : (cond (st.2.1 == []) ((drayageref13_word i).bind fun r132 => (catS x r132 fun s133 => ((drayageref13_begins st.1 s133).bind fun r134 => (some r134)))) (some false)) = some (st.2.1 == [] && (x ++ p).isPrefixOf st.1) := by
    rw [hg]
    simp only [Option.bind_some, catS_of (show x.length + p.length ≤ 1000000 by omega), rbegins_is, cond_some, cond_and]
  cases hc : (st.2.1 == [] && (x ++ p).isPrefixOf st.1) with
  | false =>
    have hst : rstp (x ++ p) p st = some st := by unfold rstp; rw [hc]; rfl
    obtain ⟨w, h1, h2⟩ := next st hst
    rw [hst]
    refine ⟨w, drayageref13_Parse_l30_of ?_, h2⟩
    unfold drayageref13_Parse_l30_E
    rw [hi, hb, hc, hj]
    exact h1
  | true =>
    have hpre : (x ++ p).isPrefixOf st.1 = true := by rw [Bool.and_eq_true] at hc; exact hc.2
    have hlen := pre_len hpre
    rw [List.length_append] at hlen
    have hw : IntKind.wrap .i64 ((x.length : Int) + (p.length : Int)) = (((x ++ p).length : Nat) : Int) := by rw [wr (by omega), List.length_append]; omega
    have hcut : ∀ {Y : Type} (K : List UInt8 → Option Y), cutS st.1 (((x ++ p).length : Nat) : Int) (st.1.length : Int) K = K (st.1.drop (x ++ p).length) := fun K => cutS_from (by rw [List.length_append]; exact hlen) K
    rcases rtk_is (s := st.1.drop (x ++ p).length) (by rw [List.length_drop]; omega) with ⟨n, r, g1, g2, g3⟩ | ⟨g1, n, r, g2⟩
    · have hst : rstp (x ++ p) p st = some (r, p, n) := by unfold rstp; rw [hc, if_pos rfl, g1]; rfl
      obtain ⟨w, h1, h2⟩ := next _ hst
      rw [hst]
      refine ⟨w, drayageref13_Parse_l30_of ?_, h2⟩
      unfold drayageref13_Parse_l30_E
      rw [hi, hb, hc]
      simp only [cond_true, Option.bind_some, hg, hw, hcut, g2, Bool.not_true, cond_false, hj]
      exact h1
    · have hst : rstp (x ++ p) p st = none := by unfold rstp; rw [hc, if_pos rfl, g1]; rfl
      rw [hst, hn]
      refine ⟨Sum.inr (11, Z6, (e, A, le, p, st.2.2, rv)), drayageref13_Parse_l30_of ?_, ⟨_, rfl⟩⟩
      unfold drayageref13_Parse_l30_E
      rw [hi, hb, hc]
      simp only [cond_true, Option.bind_some, hg, hw, hcut, g2, Bool.not_false]
noncomputable def rscan (x : List UInt8) (st : St) : Option St := (rstp (x ++ [97, 108, 112, 104, 97]) [97, 108, 112, 104, 97] st).bind fun st => (rstp (x ++ [98, 101, 116, 97]) [98, 101, 116, 97] st).bind fun st => (rstp (x ++ [112, 114, 101]) [112, 114, 101] st).bind fun st => rstp (x ++ [114, 99]) [114, 99] st
theorem l30_is {f : Int} {s d x : List UInt8} {e : Int} {A : List AV} {le : List UInt8} {rv : Int} {st : St} (hx : x.length ≤ 1) (hr : st.1.length ≤ 100000) :
    ∃ w, drayageref13_Parse_l30 f s st.1 x d 0 0 [] [] [] 0 0 e A le st.2.1 st.2.2 rv = some w ∧ Led f s d e A le rv (rscan x st) w := by
  unfold rscan
  refine l30_one (p := [97, 108, 112, 104, 97]) (j := 1) hx (by simp) hr (by decide) (by decide) (rword_is 0 _ rfl) (o := fun y => y.bind _) (fun st1 k1 => ?_) rfl
  have h1 := Nat.le_trans (rstp_len hr k1) hr
  refine l30_one (p := [98, 101, 116, 97]) (j := 2) hx (by simp) h1 (by decide) (by decide) (rword_is 1 _ rfl) (o := fun y => y.bind _) (fun st2 k2 => ?_) rfl
  have h2 := Nat.le_trans (rstp_len h1 k2) h1
  refine l30_one (p := [112, 114, 101]) (j := 3) hx (by simp) h2 (by decide) (by decide) (rword_is 2 _ rfl) (o := fun y => y.bind _) (fun st3 k3 => ?_) rfl
  have h3 := Nat.le_trans (rstp_len h2 k3) h2
  refine l30_one (p := [114, 99]) (j := 4) hx (by simp) h3 (by decide) (by decide) (rword_is 3 _ rfl) (o := fun y => y) (fun st4 k4 => ?_) rfl
  refine ⟨_, drayageref13_Parse_l30_of (w := Sum.inl (f, s, st4.1, d, Z6, (e, A, le, st4.2.1, st4.2.2, rv))) ?_, rfl⟩
  unfold drayageref13_Parse_l30_E
  rfl
theorem rscan_len {x : List UInt8} {st st' : St} (hr : st.1.length ≤ 100000) (hp : st.2.1.length ≤ 5) (h : rscan x st = some st') : st'.1.length ≤ st.1.length ∧ st'.2.1.length ≤ 5 := by
  unfold rscan at h
  cases k1 : rstp (x ++ [97, 108, 112, 104, 97]) [97, 108, 112, 104, 97] st with
  | none => rw [k1] at h; cases h
  | some st1 =>
    rw [k1, Option.bind_some] at h
    have a1 := rstp_len hr k1
    have b1 := rstp_pre (by simp) hp k1
    cases k2 : rstp (x ++ [98, 101, 116, 97]) [98, 101, 116, 97] st1 with
    | none => rw [k2] at h; cases h
    | some st2 =>
      rw [k2, Option.bind_some] at h
      have a2 := rstp_len (Nat.le_trans a1 hr) k2
      have b2 := rstp_pre (by simp) b1 k2
      cases k3 : rstp (x ++ [112, 114, 101]) [112, 114, 101] st2 with
      | none => rw [k3] at h; cases h
      | some st3 =>
        rw [k3, Option.bind_some] at h
        have a3 := rstp_len (Nat.le_trans a2 (Nat.le_trans a1 hr)) k3
        have b3 := rstp_pre (by simp) b2 k3
        have a4 := rstp_len (Nat.le_trans a3 (Nat.le_trans a2 (Nat.le_trans a1 hr))) h
        have b4 := rstp_pre (by simp) b3 h
        exact ⟨Nat.le_trans a4 (Nat.le_trans a3 (Nat.le_trans a2 a1)), b4⟩
end Go.Proofs.YtlgpcmklpknmcaaDoor
 end

 section
set_option linter.unusedVariables false
set_option linter.unusedSimpArgs false
namespace Go.Proofs.YtlgpcmklpknmcaaDoor
open Go Go.Eng Go.Proofs

/-- What is answered behind the letter. -/
def KAns (f : Int) (s : List UInt8) (e : Int) (ns : List Int) (le : List UInt8) (r : Int × Core × Core) : Prop :=
  (∃ pre pn rv q, endV f s e ns le pre pn rv = true ∧ r = (0, (e, iA ns, le, pre, pn, rv), q)) ∨ ∃ q, r = (11, Z6, q)
def KFull (f : Int) (s : List UInt8) (e : Int) (ns : List Int) (le : List UInt8) (o : Option St) (d : List UInt8) (r : Int × Core × Core) : Prop :=
  ∀ pre pn rv, o = some (d ++ dec rv, pre, pn) → within rv = true → endV f s e ns le pre pn rv = true → ∃ q, r = (0, (e, iA ns, le, pre, pn, rv), q)
theorem k29_is {f : Int} (hf : 1 ≤ f ∧ f ≤ 3) {s rest x d : List UInt8} {e : Int} {ns : List Int} {le : List UInt8} {rv0 : Int} (hx : x.length ≤ 1) (hr : rest.length ≤ 1000) (hn : ns.length ≤ 300) (hl : le.length ≤ 100) :
    ∃ r, drayageref13_Parse_k29 f s rest x d 0 [] [] [] 0 0 e (iA ns) le [] 0 rv0 = some r ∧ KAns f s e ns le r ∧ KFull f s e ns le (rscan x (rest, [], 0)) d r := by
  obtain ⟨w, h1, h2⟩ := l30_is (f := f) (s := s) (d := d) (e := e) (A := iA ns) (le := le) (rv := rv0) (st := (rest, [], 0)) hx (by show rest.length ≤ 100000; omega)
  have h1' : drayageref13_Parse_l30 f s rest x d 0 0 [] [] [] 0 0 e (iA ns) le [] 0 rv0 = some w := h1
  cases ho : rscan x (rest, [], 0) with
  | none =>
    rw [ho] at h2
    obtain ⟨q, rfl⟩ := h2
    refine ⟨(11, Z6, q), drayageref13_Parse_k29_of ?_, .inr ⟨q, rfl⟩, fun _ _ _ h => nomatch h⟩
    unfold drayageref13_Parse_k29_E
    rw [h1']; rfl
  | some st =>
    rw [ho] at h2
    have h2 : w = Sum.inl (f, s, st.1, d, Z6, (e, iA ns, le, st.2.1, st.2.2, rv0)) := h2
    subst h2
    obtain ⟨l1, l2⟩ := rscan_len (st := (rest, [], 0)) (by show rest.length ≤ 100000; omega) (Nat.zero_le _) ho
    have l1 : st.1.length ≤ rest.length := l1
    cases hb : d.isPrefixOf st.1 with
    | false =>
      refine ⟨(11, Z6, (e, iA ns, le, st.2.1, st.2.2, rv0)), drayageref13_Parse_k29_of ?_, .inr ⟨_, rfl⟩, fun pre pn rv h _ _ => ?_⟩
      · unfold drayageref13_Parse_k29_E
        rw [h1']
        simp only [Option.bind_some, Sum.elim_inl, rbegins_is, hb]
        rfl
      · injection h with h
        have : d.isPrefixOf st.1 = true := by
          rw [h, List.isPrefixOf_iff_prefix]; exact List.prefix_append _ _
        rw [hb] at this; cases this
    | true =>
      have hdl := pre_len hb
      have hcut : ∀ {Y : Type} (K : List UInt8 → Option Y), cutS st.1 (d.length : Int) (st.1.length : Int) K = K (st.1.drop d.length) := fun K => cutS_from hdl K
      obtain ⟨n, r, ok, g1, g2⟩ := rtake_tot (st.1.drop d.length) (by rw [List.length_drop]; omega)
      have full : ∀ pre pn rv, some st = some (d ++ dec rv, pre, pn) → within rv = true → n = rv ∧ r = [] ∧ ok = true ∧ st.2.1 = pre ∧ st.2.2 = pn := fun pre pn rv h hw => by
        injection h with h
        have hd : st.1.drop d.length = dec rv := by rw [h, List.drop_left]
        have ht := rtake_dec hw (r := []) rfl (by simp)
        rw [List.append_nil, ← hd, g1] at ht
        injection ht with ht
        injection ht with t1 t2
        injection t2 with t2 t3
        exact ⟨t1, t2, t3, by rw [h], by rw [h]⟩
      cases hk : (cond (!ok) true (!(r == []))) with
      | true =>
        refine ⟨(11, Z6, (e, iA ns, le, st.2.1, st.2.2, rv0)), drayageref13_Parse_k29_of ?_, .inr ⟨_, rfl⟩, fun pre pn rv h hw _ => ?_⟩
        · unfold drayageref13_Parse_k29_E
          rw [h1']
          simp only [Option.bind_some, Sum.elim_inl, rbegins_is, hb, Bool.not_true, cond_false, hcut, g1, cond_some, hk, cond_true]
        · obtain ⟨_, rfl, rfl, _⟩ := full pre pn rv h hw
          cases hk
      | false =>
        have hp := rprint_is hf e ns le st.2.1 st.2.2 n hn hl (Nat.le_trans l2 (by omega))
        have go : ∀ b : Bool, b = endV f s e ns le st.2.1 st.2.2 n → drayageref13_Parse_k29 f s rest x d 0 [] [] [] 0 0 e (iA ns) le [] 0 rv0 = some (cond b (0, (e, iA ns, le, st.2.1, st.2.2, n), (e, iA ns, le, st.2.1, st.2.2, n)) (11, Z6, (e, iA ns, le, st.2.1, st.2.2, n))) := fun b hbe => by
          apply drayageref13_Parse_k29_of
          unfold drayageref13_Parse_k29_E
          rw [h1']
          simp only [Option.bind_some, Sum.elim_inl, rbegins_is, hb, Bool.not_true, cond_false, hcut, g1, cond_some, hk, hp]
          rw [hbe]
          unfold endV
          cases hR : okR f e ns le st.2.1 st.2.2 n with
          | false => rfl
          | true =>
            have e0 : ((0 : Int) != 0) = false := rfl
            simp only [if_true, e0, cond_false, Bool.true_and]
            rcases Bool.eq_false_or_eq_true (txt f e ns le st.2.1 st.2.2 n == s) with h | h
            · rw [h]; rfl
            · rw [h]; rfl
        cases hE : endV f s e ns le st.2.1 st.2.2 n with
        | false =>
          refine ⟨_, go false hE.symm, .inr ⟨_, rfl⟩, fun pre pn rv h hw hv => ?_⟩
          obtain ⟨rfl, _, _, rfl, rfl⟩ := full pre pn rv h hw
          rw [hE] at hv; cases hv
        | true =>
          refine ⟨_, go true hE.symm, .inl ⟨_, _, _, _, hE, rfl⟩, fun pre pn rv h hw hv => ?_⟩
          obtain ⟨rfl, _, _, rfl, rfl⟩ := full pre pn rv h hw
          exact ⟨_, rfl⟩
theorem k25_is {f : Int} (hf : 1 ≤ f ∧ f ≤ 3) {s rest : List UInt8} {e : Int} {ns : List Int} {le : List UInt8} {rv0 : Int} (hr : rest.length ≤ 1000) (hn : ns.length ≤ 300) (hl : le.length ≤ 100) :
    ∃ r, drayageref13_Parse_k25 f s rest 0 [] [] [] 0 0 e (iA ns) le [] 0 rv0 = some r ∧ KAns f s e ns le r ∧ KFull f s e ns le (rscan (sg f) (rest, [], 0)) (dash f) r := by
  by_cases h3 : f = 3
  · subst h3
    obtain ⟨r, h1, h2, h4⟩ := k29_is hf (s := s) (rest := rest) (x := [95]) (d := [45, 114]) (e := e) (ns := ns) (le := le) (rv0 := rv0) (by simp) hr hn hl
    refine ⟨r, drayageref13_Parse_k25_of ?_, h2, h4⟩
    unfold drayageref13_Parse_k25_E
    have b1 : ((3 : Int) == 3) = true := rfl
    rw [b1, h1]; rfl
  · obtain ⟨r, h1, h2, h4⟩ := k29_is hf (s := s) (rest := rest) (x := [126]) (d := [45]) (e := e) (ns := ns) (le := le) (rv0 := rv0) (by simp) hr hn hl
    have b1 : (f == 3) = false := by simpa using h3
    refine ⟨r, drayageref13_Parse_k25_of ?_, h2, ?_⟩
    · unfold drayageref13_Parse_k25_E
      rw [b1, h1]; rfl
    · have e1 : sg f = [126] := if_neg h3
      have e2 : dash f = [45] := if_neg h3
      rw [e1, e2]; exact h4
theorem rparse_of {f : Int} {s rest rest1 : List UInt8} {e : Int} {ns : List Int} {r : Int × Core × Core} (hc : drayageref12_Check f s = some 0)
    (h7 : drayageref13_Parse_l7 f s s 0 0 [] [] [] 0 0 0 [] [] [] 0 0 = some (Sum.inl (f, s, rest, Z6, (e, [], [], [], 0, 0))))
    (h15 : drayageref13_Parse_l15 f s rest 0 [] [] [] 0 0 e [] [] [] 0 0 = some (Sum.inl (f, s, rest1, Z6, (e, iA ns, [], [], 0, 0))))
    (h25 : drayageref13_Parse_k25 f s (lett rest1).2 0 [] [] [] 0 0 e (iA ns) (lett rest1).1 [] 0 0 = some r) : drayageref13_Parse f s = some (r.2.1, r.1) := by
  have e0 : ((0 : Int) != 0) = false := rfl
  apply drayageref13_Parse_of
  unfold drayageref13_Parse_E
  rw [hc]
  simp only [Option.bind_some, e0, cond_false, h7, Sum.elim_inl, h15]
  cases rest1 with
  | nil =>
    have h25' : drayageref13_Parse_k25 f s [] 0 [] [] [] 0 0 e (iA ns) [] [] 0 0 = some r := h25
    have hw : decide ((0 : Int) < ((([] : List UInt8).length : Nat) : Int)) = false := rfl
    simp only [hw, cond_false, Option.bind_some, h25']
  | cons c t =>
    have hw : decide ((0 : Int) < (((c :: t).length : Nat) : Int)) = true := decide_eq_true (by simp only [List.length_cons]; omega)
    have e1 : decide ((97 : Int) ≤ (UInt8.toNat c : Int)) = decide (97 ≤ c.toNat) := by rw [Bool.eq_iff_iff, decide_eq_true_iff, decide_eq_true_iff]; omega
    have e2 : decide ((UInt8.toNat c : Int) ≤ 122) = decide (c.toNat ≤ 122) := by rw [Bool.eq_iff_iff, decide_eq_true_iff, decide_eq_true_iff]; omega
    have hcut : ∀ {Y : Type} (K : List UInt8 → Option Y), cutS (c :: t) 0 1 K = K [c] := fun K => cutS_to (s := c :: t) (b := 1) (by simp) K
    by_cases hl : 97 ≤ c.toNat ∧ c.toNat ≤ 122
    · have hle : lett (c :: t) = ([c], t) := if_pos hl
      simp only [hle] at h25
      simp only [hw, cond_true, idxS_zero, e1, e2, decide_eq_true hl.1, decide_eq_true hl.2, hcut, cutS_one, Option.bind_some, h25]
    · have hle : lett (c :: t) = ([], c :: t) := if_neg hl
      have hx : (cond (decide (97 ≤ c.toNat)) (decide (c.toNat ≤ 122)) false) = false := by
        rw [cond_and, Bool.eq_false_iff]
        intro h
        rw [Bool.and_eq_true, decide_eq_true_eq, decide_eq_true_eq] at h
        exact hl h
      simp only [hle] at h25
      simp only [hw, cond_true, idxS_zero, e1, e2, cond_some, hx, cond_false, Option.bind_some, h25]
theorem lett_len2 (s : List UInt8) : (lett s).2.length ≤ s.length := by
  cases s with
  | nil => exact Nat.le_refl _
  | cons c t =>
    by_cases h : 97 ≤ c.toNat ∧ c.toNat ≤ 122
    · have hle : lett (c :: t) = ([c], t) := if_pos h
      rw [hle, List.length_cons]; exact Nat.le_succ _
    · have hle : lett (c :: t) = ([], c :: t) := if_neg h
      rw [hle]; exact Nat.le_refl _
theorem lett_len1 (s : List UInt8) : (lett s).1.length ≤ 1 := by
  cases s with
  | nil => exact Nat.zero_le _
  | cons c t =>
    by_cases h : 97 ≤ c.toNat ∧ c.toNat ≤ 122
    · have hle : lett (c :: t) = ([c], t) := if_pos h
      rw [hle]; exact Nat.le_refl _
    · have hle : lett (c :: t) = ([], c :: t) := if_neg h
      rw [hle]; exact Nat.zero_le _
theorem rparse_tot {f : Int} {s : List UInt8} (hf : 1 ≤ f ∧ f ≤ 3) (hs : s.length ≤ 100) (hc : drayageref12_Check f s = some 0) : ∃ r, drayageref13_Parse f s = some r ∧ Ans f s r := by
  have e0 : ((0 : Int) != 0) = false := rfl
  rcases l7_tot f s (by omega) s 0 s 0 rfl (Nat.le_refl _) with ⟨rest, e, h7, hl⟩ | ⟨q, h7⟩
  · have h7' : drayageref13_Parse_l7 f s s 0 0 [] [] [] 0 0 0 [] [] [] 0 0 = _ := h7
    rcases l15_tot f s e rest.length rest [] (Nat.le_refl _) (by simp; omega) with ⟨rest1, ns, h15, g1, g2⟩ | ⟨q, h15⟩
    · simp only [List.length_nil] at g2
      have hl2 := lett_len2 rest1
      have hl1 := lett_len1 rest1
      obtain ⟨r, h25, ha, _⟩ := k25_is hf (s := s) (rest := (lett rest1).2) (e := e) (ns := ns) (le := (lett rest1).1) (rv0 := 0) (by omega) (by omega) (by omega)
      refine ⟨_, rparse_of hc h7' h15 h25, ?_⟩
      rcases ha with ⟨pre, pn, rv, q, hE, rfl⟩ | ⟨q, rfl⟩
      · exact .inl ⟨e, ns, (lett rest1).1, pre, pn, rv, hE, rfl⟩
      · exact .inr rfl
    · refine ⟨(Z6, 11), drayageref13_Parse_of ?_, .inr rfl⟩
      unfold drayageref13_Parse_E
      have h15' : drayageref13_Parse_l15 f s rest 0 [] [] [] 0 0 e [] [] [] 0 0 = _ := h15
      rw [hc]
      simp only [Option.bind_some, e0, cond_false, h7', Sum.elim_inl, h15', Sum.elim_inr]
  · have h7' : drayageref13_Parse_l7 f s s 0 0 [] [] [] 0 0 0 [] [] [] 0 0 = _ := h7
    refine ⟨(Z6, 11), drayageref13_Parse_of ?_, .inr rfl⟩
    unfold drayageref13_Parse_E
    rw [hc]
    simp only [Option.bind_some, e0, cond_false, h7', Sum.elim_inr]
/-! ### What is printed is read -/
theorem rstp_miss {x p : List UInt8} {st : St} (h : x.isPrefixOf st.1 = false) : rstp x p st = some st := by
  unfold rstp; rw [h, Bool.and_false]; rfl
theorem rstp_done {x p : List UInt8} {st : St} (h : st.2.1 ≠ []) : rstp x p st = some st := by
  unfold rstp
  have : (st.2.1 == []) = false := by simpa using h
  rw [this, Bool.false_and]; rfl
theorem rscan_none {x : List UInt8} {st : St} {t : List UInt8} (hx : x = [126] ∨ x = [95]) (h : st.1 = 45 :: t) : rscan x st = some st := by
  have h1 : ∀ p : List UInt8, rstp (x ++ p) p st = some st := fun p => by
    rcases hx with rfl | rfl <;> exact rstp_miss (by rw [h]; rfl)
  unfold rscan
  rw [h1, Option.bind_some, h1, Option.bind_some, h1, Option.bind_some, h1]
theorem rstp_hit {x p T : List UInt8} {pn n : Int} (hn : within n = true) (hT : T.takeWhile dg = []) (hl : T.length ≤ 90000) : rstp x p (x ++ (dec n ++ T), [], pn) = some (T, p, n) := by
  have h1 : x.isPrefixOf (x ++ (dec n ++ T)) = true := by rw [List.isPrefixOf_iff_prefix]; exact List.prefix_append _ _
  unfold rstp
  rw [h1, List.drop_left, rtk_dec hn hT hl]
  rfl
theorem rstp_other {x p q R : List UInt8} {pn : Int} {a b : UInt8} (hx : x = [126] ∨ x = [95]) (hp : p.head? = some a) (hq : q.head? = some b) (h : a ≠ b) : rstp (x ++ p) p (x ++ q ++ R, [], pn) = some (x ++ q ++ R, [], pn) := by
  apply rstp_miss
  show (x ++ p).isPrefixOf (x ++ q ++ R) = false
  cases p with
  | nil => cases hp
  | cons a' p =>
    cases q with
    | nil => cases hq
    | cons b' q =>
      injection hp with hp; subst hp
      injection hq with hq; subst hq
      have hab : (a' == b') = false := by simpa using h
      have e : ∀ y z : UInt8, ([y] ++ a' :: p).isPrefixOf ([z] ++ b' :: q ++ R) = ((y == z) && ((a' == b') && p.isPrefixOf (q ++ R))) := fun y z => rfl
      rcases hx with rfl | rfl <;> rw [e, hab, Bool.false_and, Bool.and_false]
theorem rscan_some {x q T : List UInt8} {n : Int} (hx : x = [126] ∨ x = [95]) (hq : q ∈ words4) (hn : within n = true) (hT : T.takeWhile dg = []) (hl : T.length ≤ 90000) : rscan x (x ++ q ++ (dec n ++ T), [], 0) = some (T, q, n) := by
  unfold rscan
  have done : ∀ p : List UInt8, q ≠ [] → rstp (x ++ p) p (T, q, n) = some (T, q, n) := fun p h => rstp_done h
  unfold words4 at hq
  simp only [List.mem_cons, List.not_mem_nil, or_false] at hq
  rcases hq with rfl | rfl | rfl | rfl
  · rw [rstp_hit hn hT hl, Option.bind_some, done _ (by decide), Option.bind_some, done _ (by decide), Option.bind_some, done _ (by decide)]
  · rw [rstp_other (p := [97, 108, 112, 104, 97]) hx rfl rfl (by decide), Option.bind_some, rstp_hit hn hT hl, Option.bind_some, done _ (by decide), Option.bind_some, done _ (by decide)]
  · rw [rstp_other (p := [97, 108, 112, 104, 97]) hx rfl rfl (by decide), Option.bind_some, rstp_other (p := [98, 101, 116, 97]) hx rfl rfl (by decide), Option.bind_some, rstp_hit hn hT hl, Option.bind_some, done _ (by decide)]
  · rw [rstp_other (p := [97, 108, 112, 104, 97]) hx rfl rfl (by decide), Option.bind_some, rstp_other (p := [98, 101, 116, 97]) hx rfl rfl (by decide), Option.bind_some, rstp_other (p := [112, 114, 101]) hx rfl rfl (by decide), Option.bind_some, rstp_hit hn hT hl]
theorem rscan_tl2 {pre : List UInt8} {pn rev : Int} (f : Int) (hp : preOk pre pn = true) (hw : within pn = true) (hr : within rev = true) : rscan (sg f) (tl2 f pre pn rev, [], 0) = some (dash f ++ dec rev, pre, pn) := by
  have hT := tl1_stop f rev
  have hl := tl1_len f hr
  have hx : sg f = [126] ∨ sg f = [95] := by unfold sg; split <;> simp
  unfold tl2 preT
  rcases preOk_cases hp with ⟨rfl, rfl⟩ | hm
  · rw [if_pos rfl]
    obtain ⟨t, ht⟩ := tl1_head f rev
    exact rscan_none hx (st := ([] ++ tl1 f rev, [], 0)) (t := t) ht
  · have hne : pre ≠ [] := by rintro rfl; exact absurd hm (by decide)
    rw [if_neg hne]
    have := rscan_some hx hm hw hT (by omega : (tl1 f rev).length ≤ 90000)
    have e : (T : List UInt8) → (sg f ++ pre ++ dec pn ++ T) = (sg f ++ pre ++ (dec pn ++ T)) := fun T => by rw [List.append_assoc]
    rw [e, this]
    rfl
theorem rparse_txt {f e : Int} {ns : List Int} {le pre : List UInt8} {pn rev : Int} (hf : 1 ≤ f ∧ f ≤ 3) (hR : okR f e ns le pre pn rev = true) (hc : drayageref12_Check f (txt f e ns le pre pn rev) = some 0) :
    drayageref13_Parse f (txt f e ns le pre pn rev) = some ((e, iA ns, le, pre, pn, rev), 0) := by
  have hC := okR_C hR
  obtain ⟨n0, n1, h3, h4, h5, h6, h7, h8, h9⟩ := okC_parts hC
  have hlen := okR_len hR
  obtain ⟨n, t, rfl⟩ : ∃ n t, ns = n :: t := by
    cases ns with
    | nil => simp at n0
    | cons n t => exact ⟨n, t, rfl⟩
  have hcolon := txt_colon (pn := pn) (pre := pre) f rev n0 h3 h4
  rw [List.all_cons, Bool.and_eq_true] at h8
  obtain ⟨r1, r2⟩ := rest_stop h3 f pre pn rev
  have r3 := rest_len f h3 h4 h6 h7
  have h15 := fun s => l15_dec f s e (le ++ tl2 f pre pn rev) r1 r2 r3 t n [] h8.1 h8.2 (by simp at n1 ⊢; omega)
  have hle1 := leOk_len h3
  have r4 := tl2_len f h4 h6 h7
  obtain ⟨r, h25, ha, hfull⟩ := k25_is hf (s := txt f e (n :: t) le pre pn rev) (rest := tl2 f pre pn rev) (e := e) (ns := n :: t) (le := le) (rv0 := 0) (by omega) (by omega) (by omega)
  have hE : endV f (txt f e (n :: t) le pre pn rev) e (n :: t) le pre pn rev = true := by
    unfold endV; rw [hR]; simp
  obtain ⟨q, rfl⟩ := hfull pre pn rev (rscan_tl2 f h4 h6 h7) h7 hE
  have h7x : drayageref13_Parse_l7 f (txt f e (n :: t) le pre pn rev) (txt f e (n :: t) le pre pn rev) 0 0 [] [] [] 0 0 0 [] [] [] 0 0 = some (Sum.inl (f, txt f e (n :: t) le pre pn rev, txt f 0 (n :: t) le pre pn rev, Z6, (e, [], [], [], 0, 0))) := by
    by_cases he : e = 0
    · subst he
      exact l7_none f _ (by omega) _ 0 _ 0 rfl hcolon
    · have htx := txt_ep he f (n :: t) le pre pn rev
      have hdc : (58 : UInt8) ∉ dec e := fun h => (dg_not _ (dec_mem h)).1 rfl
      have ht : drayageref13_take (txt f e (n :: t) le pre pn rev) = some (e, 58 :: txt f 0 (n :: t) le pre pn rev, true) := by
        have hll : (58 :: txt f 0 (n :: t) le pre pn rev).length ≤ 90000 := by
          rw [htx, List.length_append] at hlen; omega
        rw [htx]
        exact rtake_dec h5 rfl hll
      exact l7_one f _ (by omega) _ _ e ht hcolon (dec e) 0 htx hdc _ 0
  have h15x := h15 (txt f e (n :: t) le pre pn rev)
  rw [← txt_zero f n t le pre pn rev] at h15x
  exact rparse_of hc h7x h15x (by rw [lett_rest h3]; exact h25)
/-! ### Both readers -/
/-- Both readers answer alike. -/
theorem parse_both {f : Int} {s : List UInt8} (hf : 1 ≤ f ∧ f ≤ 3) (hs : s.length ≤ 100) (hv : version_Check f s = some 0) (hc : drayageref12_Check f s = some 0) : ∃ r, vmap_Parse f s = some r ∧ drayageref13_Parse f s = some r ∧ Ans f s r := by
  obtain ⟨r, h1, h2⟩ := parse_tot hf hs hv
  obtain ⟨r', h3, h4⟩ := rparse_tot hf hs hc
  have endP : ∀ {e ns le pre pn rv}, endV f s e ns le pre pn rv = true → okR f e ns le pre pn rv = true ∧ txt f e ns le pre pn rv = s := fun h => by
    unfold endV at h
    rw [Bool.and_eq_true, beq_iff_eq] at h
    exact h
  rcases h2 with ⟨e, ns, le, pre, pn, rv, hE, rfl⟩ | rfl
  · obtain ⟨q1, q2⟩ := endP hE
    have := rparse_txt hf q1 (by rw [q2]; exact hc)
    rw [q2] at this
    exact ⟨_, h1, this, .inl ⟨e, ns, le, pre, pn, rv, hE, rfl⟩⟩
  · rcases h4 with ⟨e, ns, le, pre, pn, rv, hE, rfl⟩ | rfl
    · obtain ⟨q1, q2⟩ := endP hE
      have := parse_txt hf q1 (by rw [q2]; exact hv)
      rw [q2] at this
      exact ⟨_, this, h3, .inl ⟨e, ns, le, pre, pn, rv, hE, rfl⟩⟩
    · exact ⟨_, h1, h3, .inr rfl⟩
end Go.Proofs.YtlgpcmklpknmcaaDoor
 end

 section
set_option linter.unusedVariables false
set_option linter.unusedSimpArgs false
namespace Go.Proofs.YtlgpcmklpknmcaaDoor
open Go Go.Eng Go.Proofs

theorem endV_parts {f : Int} {s : List UInt8} {e : Int} {ns : List Int} {le pre : List UInt8} {pn rv : Int} (h : endV f s e ns le pre pn rv = true) : okR f e ns le pre pn rv = true ∧ txt f e ns le pre pn rv = s := by
  unfold endV at h
  rw [Bool.and_eq_true, beq_iff_eq] at h
  exact h
/-- What a translation is. -/
inductive Tr (from_ to : Int) (s : List UInt8) : List UInt8 × Int → Prop
  | good {e ns le pre pn rv} : 1 ≤ from_ ∧ from_ ≤ 3 → 1 ≤ to ∧ to ≤ 3 → version_Check from_ s = some 0 → endV from_ s e ns le pre pn rv = true → okR to e ns le pre pn rv = true → Tr from_ to s (txt to e ns le pre pn rv, 0)
  | bad {x} : x ≠ 0 → Tr from_ to s ([], x)
theorem translate_is (a b : Int) (s : List UInt8) (hs : s.length ≤ 4000) : ∃ r, vmap_Translate a b s = some r ∧ drayageref13_Translate a b s = some r ∧ Tr a b s r := by
  by_cases ha : 1 ≤ a ∧ a ≤ 3
  · by_cases hb : 1 ≤ b ∧ b ≤ 3
    · obtain ⟨x, c1, c2, c3⟩ := check_both a s hs
      have kv : vmap_Translate a b s = ((vmap_Parse a s).bind fun r7 => (cond (r7.2 != 0) (some ([], r7.2)) ((vmap_Print b r7.1.1 r7.1.2.1 r7.1.2.2.1 r7.1.2.2.2.1 r7.1.2.2.2.2.1 r7.1.2.2.2.2.2).bind fun r8 => (some (r8.1, r8.2))))) ∨ True := .inr trivial
      have tv : ∀ {w}, ((vmap_Parse a s).bind fun r7 => (cond (r7.2 != 0) (some ([], r7.2)) ((vmap_Print b r7.1.1 r7.1.2.1 r7.1.2.2.1 r7.1.2.2.2.1 r7.1.2.2.2.2.1 r7.1.2.2.2.2.2).bind fun r8 => (some (r8.1, r8.2))))) = some w → vmap_Translate a b s = some w := fun {w} h => by
        apply vmap_Translate_of
        unfold vmap_Translate_E
        rw [known_is, known_is, decide_eq_true ha.1, decide_eq_true ha.2, decide_eq_true hb.1, decide_eq_true hb.2]
        exact h
      have tr : ∀ {w}, ((drayageref13_Parse a s).bind fun r7 => (cond (r7.2 != 0) (some ([], r7.2)) ((drayageref13_Print b r7.1.1 r7.1.2.1 r7.1.2.2.1 r7.1.2.2.2.1 r7.1.2.2.2.2.1 r7.1.2.2.2.2.2).bind fun r8 => (some (r8.1, r8.2))))) = some w → drayageref13_Translate a b s = some w := fun {w} h => by
        apply drayageref13_Translate_of
        unfold drayageref13_Translate_E
        rw [decide_eq_false (by omega : ¬ a < 1), decide_eq_false (by omega : ¬ (3 : Int) < a), decide_eq_false (by omega : ¬ b < 1), decide_eq_false (by omega : ¬ (3 : Int) < b)]
        exact h
      by_cases hx : x = 0
      · subst hx
        obtain ⟨_, _, hl⟩ := c3 rfl
        obtain ⟨r, p1, p2, p3⟩ := parse_both ha (by omega) c1 c2
        rcases p3 with ⟨e, ns, le, pre, pn, rv, hE, rfl⟩ | rfl
        · obtain ⟨q1, q2⟩ := endV_parts hE
          obtain ⟨_, n1, h3, h4, _⟩ := okC_parts (okR_C q1)
          have g1 := print_is hb e ns le pre pn rv (by omega) (Nat.le_trans (leOk_len h3) (by omega)) (Nat.le_trans (preOk_len h4) (by omega))
          have g2 := rprint_is hb e ns le pre pn rv (by omega) (Nat.le_trans (leOk_len h3) (by omega)) (Nat.le_trans (preOk_len h4) (by omega))
          have e0 : ((0 : Int) != 0) = false := rfl
          refine ⟨if okR b e ns le pre pn rv then (txt b e ns le pre pn rv, 0) else ([], 11), tv ?_, tr ?_, ?_⟩
          · rw [p1]
            simp only [Option.bind_some, e0, cond_false, g1]
          · rw [p2]
            simp only [Option.bind_some, e0, cond_false, g2]
          · cases hR : okR b e ns le pre pn rv with
            | false => exact .bad (by decide)
            | true => exact .good ha hb c1 hE hR
        · exact ⟨([], 11), tv (by rw [p1]; rfl), tr (by rw [p2]; rfl), .bad (by decide)⟩
      · have hx' : (x != 0) = true := by simpa using hx
        have p1 : vmap_Parse a s = some (Z6, x) := by
          apply vmap_Parse_of
          unfold vmap_Parse_E
          rw [c1]
          simp only [Option.bind_some, hx', cond_true]
        have p2 : drayageref13_Parse a s = some (Z6, x) := by
          apply drayageref13_Parse_of
          unfold drayageref13_Parse_E
          rw [c2]
          simp only [Option.bind_some, hx', cond_true]
        exact ⟨([], x), tv (by rw [p1]; simp only [Option.bind_some, hx', cond_true]), tr (by rw [p2]; simp only [Option.bind_some, hx', cond_true]), .bad hx⟩
    · refine ⟨([], 9), vmap_Translate_of ?_, drayageref13_Translate_of ?_, .bad (by decide)⟩
      · unfold vmap_Translate_E
        have hk : (decide (1 ≤ b) && decide (b ≤ 3)) = false := by
          rw [Bool.eq_false_iff]
          intro h
          rw [Bool.and_eq_true, decide_eq_true_eq, decide_eq_true_eq] at h
          exact hb h
        rw [known_is, known_is, decide_eq_true ha.1, decide_eq_true ha.2, hk]
        rfl
      · unfold drayageref13_Translate_E
        rw [decide_eq_false (by omega : ¬ a < 1), decide_eq_false (by omega : ¬ (3 : Int) < a)]
        by_cases h1 : b < 1
        · rw [decide_eq_true h1]; rfl
        · rw [decide_eq_false h1, decide_eq_true (by omega : (3 : Int) < b)]; rfl
  · refine ⟨([], 9), vmap_Translate_of ?_, drayageref13_Translate_of ?_, .bad (by decide)⟩
    · unfold vmap_Translate_E
      have hk : (decide (1 ≤ a) && decide (a ≤ 3)) = false := by
        rw [Bool.eq_false_iff]
        intro h
        rw [Bool.and_eq_true, decide_eq_true_eq, decide_eq_true_eq] at h
        exact ha h
      rw [known_is, hk]
      rfl
    · unfold drayageref13_Translate_E
      by_cases h1 : a < 1
      · rw [decide_eq_true h1]; rfl
      · rw [decide_eq_false h1, decide_eq_true (by omega : (3 : Int) < a)]; rfl
/-- What the law asks. -/
theorem translates_law (hw : drayagelaw13_awake = some true) (a b : Int) (s : List UInt8) : drayagelaw13_VmapTranslates a b s = some true := by
  apply drayagelaw13_VmapTranslates_of
  unfold drayagelaw13_VmapTranslates_E
  rw [hw]
  by_cases hl : (2000 : Int) < (s.length : Int)
  · rw [decide_eq_true hl]; rfl
  · obtain ⟨r, h1, h2, _⟩ := translate_is a b s (by omega)
    rw [decide_eq_false hl, h1, h2]
    simp
end Go.Proofs.YtlgpcmklpknmcaaDoor
 end
