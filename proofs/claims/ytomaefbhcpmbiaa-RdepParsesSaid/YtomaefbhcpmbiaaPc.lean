/- The reader of dependencies: the program's and the document's go the same way.
   Dependencies between brackets: both readers go the same way. -/
import Derived.Test.YtomaefbhcpmbiaaPb
 section
set_option linter.unusedVariables false
set_option linter.unusedSimpArgs false
namespace Go.Proofs.Ytomaefbhcpmbiaa
open Go Go.Eng Go.Proofs

/-- A dependency: word, name, relation, version, kids. -/
abbrev R5 : Type := List UInt8 × List UInt8 × Int × List UInt8 × List AV
def rE (d : R5) : AV := AV.agg [AV.str d.1, AV.str d.2.1, AV.int .i64 d.2.2.1, AV.str d.2.2.2.1, AV.sl false 5 d.2.2.2.2]
inductive Wf : R5 → Prop
  | mk (d : R5) (f : AV → R5) : d.2.2.2.2.length ≤ 4611686018427387904 → (∀ k ∈ d.2.2.2.2, k = rE (f k)) → (∀ k ∈ d.2.2.2.2, Wf (f k)) → Wf d
def WfL (K : List AV) : Prop := K.length ≤ 4611686018427387904 ∧ ∀ k ∈ K, ∃ x, k = rE x ∧ Wf x
theorem Wf.of (d : R5) (h : WfL d.2.2.2.2) : Wf d := by
  classical
  obtain ⟨hl, h⟩ := h
  refine .mk d (fun k => if hk : k ∈ d.2.2.2.2 then (h k hk).choose else ([], [], 0, [], [])) hl ?_ ?_
  · intro k hk
    simp only [dif_pos hk]
    exact (h k hk).choose_spec.1
  · intro k hk
    simp only [dif_pos hk]
    exact (h k hk).choose_spec.2
theorem WfL.nil : WfL [] := ⟨by simp, fun k hk => absurd hk List.not_mem_nil⟩
theorem WfL.snoc {K : List AV} {d : R5} (h : WfL K) (hd : Wf d) (hl : K.length ≤ 5000) : WfL (K ++ [rE d]) := by
  refine ⟨by rw [List.length_append, List.length_singleton]; omega, ?_⟩
  replace h := h.2
  intro k hk
  rcases List.mem_append.1 hk with hk | hk
  · exact h k hk
  · rw [List.mem_singleton] at hk
    exact ⟨d, hk, hd⟩

theorem fail_new (ps : List AV) (n a e : Int) (h : e ≠ 0) : rdep_reader_fail ps n [] 0 0 a e = some ((), (ps, n, [], a, e)) := by
  apply rdep_reader_fail_of
  unfold rdep_reader_fail_E
  have : (e != 0) = true := by rw [bne_iff_ne]; exact h
  rw [this]
  rfl
theorem fail_none (ps : List AV) (n : Int) (f1 : List UInt8) (f2 f3 a : Int) : rdep_reader_fail ps n f1 f2 f3 a 0 = some ((), (ps, n, f1, f2, f3)) := by
  apply rdep_reader_fail_of
  unfold rdep_reader_fail_E
  cases (f3 == 0) <;> rfl
theorem fail_kept (ps : List AV) (n : Int) (f1 : List UInt8) (f2 f3 a e : Int) (h : f3 ≠ 0) : rdep_reader_fail ps n f1 f2 f3 a e = some ((), (ps, n, f1, f2, f3)) := by
  apply rdep_reader_fail_of
  unfold rdep_reader_fail_E
  have : (f3 == 0) = false := by rw [beq_eq_false_iff_ne]; exact h
  rw [this]
  rfl
theorem bad_is (s : List UInt8) (a : Int) (f1 : List UInt8) (f2 f3 c e : Int) : drayageref15_State_bad s a f1 f2 f3 c e = some ((), (s, a, [], a, e, c)) := drayageref15_State_bad_of rfl
/-- Neither a bracket nor the end. -/
def isPlain (t : List UInt8) : Bool := (!(t == []) && !(t == [40])) && !(t == [41])
theorem plain_is (t : List UInt8) (a : Int) : rdep_part_plain t a = some (isPlain t) := by
  apply rdep_part_plain_of
  unfold rdep_part_plain_E
  simp only [cond_some, cond_and, Option.bind_some]
  rfl
theorem opOf_range (w : List UInt8) : 0 ≤ opOf w ∧ opOf w ≤ 5 := by
  have h1 := idxL_ge w signL 0
  have h2 := idxL_lt w signL 0
  have h3 : signL.length = 5 := rfl
  unfold opOf
  omega
theorem opOf_wrap (w : List UInt8) : (if (IntKind.wrap .i64 (idxL signL w 0 + 1)) < 0 then 0 else (IntKind.wrap .i64 (idxL signL w 0 + 1))) = opOf w := by
  have h := opOf_range w
  have e : idxL signL w 0 + 1 = opOf w := rfl
  rw [e, wr (by omega), if_neg (by omega)]
theorem isPlain_ne {t : List UInt8} (h : isPlain t = true) : t ≠ [] := by
  intro e; subst e; exact absurd h (by decide)
theorem signs_cut {R : Type} (K : List AV → Option R) : cutL (([] :: signL).map AV.str) 1 ((List.length (([] :: signL).map AV.str) : Nat) : Int) K = K (signL.map AV.str) := rfl

/-- Behind an atom's name, in general. -/
theorem k7_zero {s : List UInt8} {ps : List AV} {n : Nat} {w : List UInt8} {m : Int} (hw : opOf w = 0) (hlook : ∀ f1 f2 f3, rdep_reader_look ps (n : Int) f1 f2 f3 = some (w, m))
    (f1 : List UInt8) (f2 f3 c : Int) (t : List UInt8) (p : Int) (x1 : List UInt8) (x2 : Int) (x3 : List UInt8) (y1 : List UInt8) (y2 : Int) (y3 : List UInt8) :
    rdep_reader_atom_k7 ps (n : Int) f1 f2 f3 c t p x1 x2 x3 y1 y2 y3 = some ((ps, (n : Int), f1, f2, f3), c, (t, p), (y1, 0, y3), (y1, 0, y3)) := by
  apply rdep_reader_atom_k7_of
  unfold rdep_reader_atom_k7_E
  rw [signs_is]
  simp only [Option.bind_some]
  rw [signs_cut]
  simp only [hlook, Option.bind_some, index_is signL _ (by decide), opOf_wrap, hw]
  rfl
theorem k7_some {s : List UInt8} {ps : List AV} {n n1 n2 : Nat} {w v : List UInt8} {m m1 m2 : Int} (hw : opOf w ≠ 0) (hlook : ∀ f1 f2 f3, rdep_reader_look ps (n : Int) f1 f2 f3 = some (w, m))
    (ht1 : ∀ f1 f2 f3, rdep_reader_take ps (n : Int) f1 f2 f3 = some ((w, m), (ps, (n1 : Int), f1, f2, f3)))
    (ht2 : ∀ f1 f2 f3, rdep_reader_take ps (n1 : Int) f1 f2 f3 = some ((v, m2), (ps, (n2 : Int), f1, f2, f3))) {e : Int} (hc : version_Check 2 v = some e)
    (f1 : List UInt8) (f2 f3 c : Int) (t : List UInt8) (p : Int) (x1 : List UInt8) (x2 : Int) (x3 : List UInt8) (y1 : List UInt8) (y2 : Int) (y3 : List UInt8)
    {g1 : List UInt8} {g2 g3 : Int} (hf : rdep_reader_fail ps (n2 : Int) f1 f2 f3 m2 (if isPlain v then e else 3) = some ((), (ps, (n2 : Int), g1, g2, g3))) :
    rdep_reader_atom_k7 ps (n : Int) f1 f2 f3 c t p x1 x2 x3 y1 y2 y3 = some ((ps, (n2 : Int), g1, g2, g3), c, (t, p), (y1, opOf w, if isPlain v then v else y3), (y1, opOf w, if isPlain v then v else y3)) := by
  apply rdep_reader_atom_k7_of
  unfold rdep_reader_atom_k7_E
  rw [signs_is]
  simp only [Option.bind_some]
  rw [signs_cut]
  have h0 : (opOf w == 0) = false := by rw [beq_eq_false_iff_ne]; exact hw
  simp only [hlook, Option.bind_some, index_is signL _ (by decide), opOf_wrap, h0, cond_false, ht1, ht2, plain_is, hc]
  cases hp : isPlain v with
  | true =>
    rw [hp, if_pos rfl] at hf
    simp only [Bool.not_true, cond_false, hf, Option.bind_some, if_true]
  | false =>
    rw [hp] at hf
    simp only [Bool.false_eq_true, if_false] at hf
    simp only [Bool.not_false, cond_true, hf, Option.bind_some, Bool.false_eq_true, if_false]
/-- Behind a fault nothing more is told. -/
theorem k7_kept {s : List UInt8} {ps : List AV} {n a : Nat} (hs : s.length ≤ 4000) (h : At s ps n a) (f1 : List UInt8) (f2 f3 c : Int) (t : List UInt8) (p : Int) (x1 : List UInt8) (x2 : Int) (x3 : List UInt8) (y1 : List UInt8) (y2 : Int) (y3 : List UInt8) (hf : f3 ≠ 0) :
    ∃ (n2 b : Nat) (x y : List UInt8 × Int × List UInt8), At s ps n2 b ∧ rdep_reader_atom_k7 ps (n : Int) f1 f2 f3 c t p x1 x2 x3 y1 y2 y3 = some ((ps, (n2 : Int), f1, f2, f3), c, (t, p), x, y) := by
  obtain ⟨w, m1, n1, hl, ht1, _, h1, h2, h3, h4⟩ := step hs h
  by_cases hw : opOf w = 0
  · exact ⟨n, a, _, _, h, k7_zero (s := s) hw hl ..⟩
  · obtain ⟨v, m2, n2, _, ht2, _, g1, g2, g3, g4⟩ := step hs h4
    obtain ⟨e, hc, _⟩ := check_same v (by omega)
    exact ⟨n2, _, _, _, g4, k7_some (s := s) (m1 := 0) hw hl ht1 ht2 hc _ _ _ _ _ _ _ _ _ _ _ _ (fail_kept _ _ _ _ _ _ _ hf)⟩
theorem k5_kept {s : List UInt8} {ps : List AV} {n a : Nat} (hs : s.length ≤ 4000) (h : At s ps n a) (f1 : List UInt8) (f2 f3 c : Int) (t : List UInt8) (ht : t.length ≤ 4000) (p : Int) (x1 : List UInt8) (x2 : Int) (x3 : List UInt8) (y1 : List UInt8) (y2 : Int) (y3 : List UInt8) (hf : f3 ≠ 0) :
    ∃ (n2 b : Nat) (x y : List UInt8 × Int × List UInt8), At s ps n2 b ∧ rdep_reader_atom_k5 ps (n : Int) f1 f2 f3 c t p x1 x2 x3 y1 y2 y3 = some ((ps, (n2 : Int), f1, f2, f3), c, (t, p), x, y) := by
  obtain ⟨n2, b, x, y, h1, h2⟩ := k7_kept hs h f1 f2 f3 c t p x1 x2 x3 y1 y2 y3 hf
  refine ⟨n2, b, x, y, h1, ?_⟩
  apply rdep_reader_atom_k5_of
  unfold rdep_reader_atom_k5_E
  rw [vname_is t (by omega)]
  cases nmOk t with
  | true => simp only [Option.bind_some, Bool.not_true, cond_false, h2]
  | false => simp only [Option.bind_some, Bool.not_false, cond_true, fail_kept _ _ _ _ _ _ _ hf, h2]

/-- What a step of the two readers is. -/
def Fine (s : List UInt8) (ps : List AV) (a0 : Nat) {D E : Type} (g : D → E) (W : E → Prop) (prog : Option (D × ((List AV × Int × List UInt8 × Int × Int) × Int))) (refd : Option (E × (List UInt8 × Int × List UInt8 × Int × Int × Int))) : Prop :=
  ∃ (d : D) (n2 a2 : Nat) (c2 : Nat), prog = some (d, ((ps, (n2 : Int), [], 0, 0), (c2 : Int))) ∧ refd = some (g d, (s, (a2 : Int), [], 0, 0, (c2 : Int))) ∧ At s ps n2 a2 ∧ a0 < a2 ∧ c2 ≤ 64 ∧ W (g d)
def Bad (s : List UInt8) (ps : List AV) {D E : Type} (prog : Option (D × ((List AV × Int × List UInt8 × Int × Int) × Int))) (refd : Option (E × (List UInt8 × Int × List UInt8 × Int × Int × Int))) : Prop :=
  ∃ (d : D) (n2 b : Nat) (c1 : Int) (d2 : E) (a2 c2 a e : Int), prog = some (d, ((ps, (n2 : Int), [], a, e), c1)) ∧ refd = some (d2, (s, a2, [], a, e, c2)) ∧ e ≠ 0 ∧ At s ps n2 b

def atomR (x : List UInt8 × Int × List UInt8) : R5 := ([], x.1, x.2.1, x.2.2, [])
theorem atom_joint {s : List UInt8} {ps : List AV} {n m : Nat} {t : List UInt8} (hs : s.length ≤ 4000) (hp : isPlain t = true) (ht : t.length ≤ 4000) (h : At s ps n (m + t.length)) (c : Nat) (hc : c ≤ 64) :
    Fine s ps m atomR Wf (rdep_reader_atom ps (n : Int) [] 0 0 (c : Int) t (m : Int)) (drayageref15_State_atom s (m : Int) [] 0 0 (c : Int) t) ∨
    Bad s ps (rdep_reader_atom ps (n : Int) [] 0 0 (c : Int) t (m : Int)) (drayageref15_State_atom s (m : Int) [] 0 0 (c : Int) t) := by
  have hne := isPlain_ne hp
  have hpos : 0 < t.length := List.length_pos_iff.2 hne
  have hml := h.2.2
  have hw1 : IntKind.wrap .i64 ((c : Int) + 1) = ((c + 1 : Nat) : Int) := wr_succ (by omega)
  by_cases h64 : c = 64
  · right
    subst h64
    obtain ⟨n2, b, x, y, h1, h2⟩ := k5_kept hs h [] (m : Int) 4 65 t ht (m : Int) [] 0 [] t 0 [] (by decide)
    refine ⟨x, n2, b, 65, ([], [], 0, [], []), (m : Int), 65, (m : Int), 4, ?_, ?_, by decide, h1⟩
    · apply rdep_reader_atom_of
      unfold rdep_reader_atom_E
      rw [hw1]
      have : decide ((64 : Int) < ((64 + 1 : Nat) : Int)) = true := rfl
      rw [this, cond_true, fail_new _ _ _ _ (by decide)]
      simp only [Option.bind_some]
      have h2' : rdep_reader_atom_k5 ps (n : Int) [] (m : Int) 4 ((64 + 1 : Nat) : Int) t (m : Int) [] 0 [] t 0 [] = _ := h2
      rw [h2']
      rfl
    · apply drayageref15_State_atom_of
      unfold drayageref15_State_atom_E
      rw [hw1]
      have : decide ((64 : Int) < ((64 + 1 : Nat) : Int)) = true := rfl
      rw [this, cond_true, bad_is]
      rfl
  · have hd : decide ((64 : Int) < ((c + 1 : Nat) : Int)) = false := decide_eq_false (by omega)
    cases hn : nmOk t with
    | false =>
      right
      obtain ⟨n2, b, x, y, h1, h2⟩ := k7_kept hs h [] (m : Int) 10 ((c + 1 : Nat) : Int) t (m : Int) [] 0 [] t 0 [] (by decide)
      refine ⟨x, n2, b, ((c + 1 : Nat) : Int), ([], [], 0, [], []), (m : Int), ((c + 1 : Nat) : Int), (m : Int), 10, ?_, ?_, by decide, h1⟩
      · apply rdep_reader_atom_of
        unfold rdep_reader_atom_E
        rw [hw1, hd, cond_false]
        have h5 : rdep_reader_atom_k5 ps (n : Int) [] 0 0 ((c + 1 : Nat) : Int) t (m : Int) [] 0 [] t 0 [] = some ((ps, (n2 : Int), [], (m : Int), 10), ((c + 1 : Nat) : Int), (t, (m : Int)), x, y) := by
          apply rdep_reader_atom_k5_of
          unfold rdep_reader_atom_k5_E
          rw [vname_is t (by omega), hn]
          simp only [Option.bind_some, Bool.not_false, cond_true]
          rw [fail_new _ _ _ _ (by decide)]
          simp only [Option.bind_some, h2]
        rw [h5]
        rfl
      · apply drayageref15_State_atom_of
        unfold drayageref15_State_atom_E
        rw [hw1, hd, cond_false, rname_is t (by omega), hn]
        simp only [Option.bind_some, Bool.not_false, cond_true, bad_is]
    | true =>
      obtain ⟨w, m1, n1, hl, ht1, hr1, g1, g2, g3, g4⟩ := step hs h
      have hma : IntKind.wrap .i64 ((m : Int) + (t.length : Int)) = ((m + t.length : Nat) : Int) := wr_add (by omega) (by omega)
      have k5of : ∀ r, rdep_reader_atom_k7 ps (n : Int) [] 0 0 ((c + 1 : Nat) : Int) t (m : Int) [] 0 [] t 0 [] = some r → rdep_reader_atom ps (n : Int) [] 0 0 (c : Int) t (m : Int) = some ((r.2.2.2.1.1, r.2.2.2.1.2.1, r.2.2.2.1.2.2), ((r.1.1, r.1.2.1, r.1.2.2.1, r.1.2.2.2.1, r.1.2.2.2.2), r.2.1)) := by
        intro r hr
        apply rdep_reader_atom_of
        unfold rdep_reader_atom_E
        rw [hw1, hd, cond_false]
        have h5 : rdep_reader_atom_k5 ps (n : Int) [] 0 0 ((c + 1 : Nat) : Int) t (m : Int) [] 0 [] t 0 [] = some r := by
          apply rdep_reader_atom_k5_of
          unfold rdep_reader_atom_k5_E
          rw [vname_is t (by omega), hn]
          simp only [Option.bind_some, Bool.not_true, cond_false, hr]
        rw [h5]
        rfl
      by_cases hop : opOf w = 0
      · left
        have hk := k7_zero (s := s) hop hl [] 0 0 ((c + 1 : Nat) : Int) t (m : Int) [] 0 [] t 0 []
        refine ⟨(t, 0, []), n, m1, c + 1, k5of _ hk, ?_, g3, by omega, by omega, Wf.of _ WfL.nil⟩
        apply drayageref15_State_atom_of
        unfold drayageref15_State_atom_E
        rw [hw1, hd, cond_false, rname_is t (by omega), hn]
        simp only [Option.bind_some, Bool.not_true, cond_false]
        rw [hma, hr1]
        simp only [Option.bind_some, op_is, hop]
        rfl
      · obtain ⟨v, m2, n2, _, ht2, hr2, k1, k2, k3, k4⟩ := step hs g4
        obtain ⟨e, hcv, hcr⟩ := check_same v (by omega)
        have hrange := opOf_range w
        have hop2 : decide ((0 : Int) < opOf w) = true := decide_eq_true (by omega)
        have hpl : ((v == []) || (v == [40]) || (v == [41])) = !isPlain v := by
          unfold isPlain
          cases (v == []) <;> cases (v == [40]) <;> cases (v == [41]) <;> rfl
        have href : drayageref15_State_atom s (m : Int) [] 0 0 (c : Int) t = (cond (!isPlain v) (some (([], [], 0, [], []), (s, (m2 : Int), [], (m2 : Int), 3, ((c + 1 : Nat) : Int)))) (cond (e != 0) (some (([], [], 0, [], []), (s, (m2 : Int), [], (m2 : Int), e, ((c + 1 : Nat) : Int)))) (some (([], t, opOf w, v, []), (s, ((m2 + v.length : Nat) : Int), [], 0, 0, ((c + 1 : Nat) : Int)))))) := by
          have : ∃ r, (cond (!isPlain v) (some (([], [], 0, [], []), (s, (m2 : Int), [], (m2 : Int), 3, ((c + 1 : Nat) : Int)))) (cond (e != 0) (some (([], [], 0, [], []), (s, (m2 : Int), [], (m2 : Int), e, ((c + 1 : Nat) : Int)))) (some ((([] : List UInt8), t, opOf w, v, ([] : List AV)), (s, ((m2 + v.length : Nat) : Int), ([] : List UInt8), (0 : Int), (0 : Int), ((c + 1 : Nat) : Int)))))) = some r := by
            cases isPlain v <;> cases (e != 0) <;> exact ⟨_, rfl⟩
          obtain ⟨r, hr⟩ := this
          rw [hr]
          apply drayageref15_State_atom_of
          unfold drayageref15_State_atom_E
          rw [hw1, hd, cond_false, rname_is t (by omega), hn]
          simp only [Option.bind_some, Bool.not_true, cond_false]
          rw [hma, hr1]
          simp only [Option.bind_some, op_is, hop2, cond_true]
          rw [wr_add (by omega) (by omega), hr2]
          simp only [Option.bind_some, cond_some, cond_or, hpl, bad_is, hcr]
          rw [wr_add (by omega) (by omega)]
          simpa only [cond_some] using hr
        cases hpv : isPlain v with
        | false =>
          right
          have hk := k7_some (s := s) (m1 := 0) hop hl ht1 ht2 hcv [] 0 0 ((c + 1 : Nat) : Int) t (m : Int) [] 0 [] t 0 [] (g1 := []) (g2 := (m2 : Int)) (g3 := 3) (by rw [hpv, if_neg Bool.false_ne_true]; exact fail_new _ _ _ _ (by decide))
          rw [hpv] at href
          exact ⟨_, n2, _, _, _, _, _, (m2 : Int), 3, k5of _ hk, href, by decide, k4⟩
        | true =>
          by_cases he : e = 0
          · left
            subst he
            have hk := k7_some (s := s) (m1 := 0) hop hl ht1 ht2 hcv [] 0 0 ((c + 1 : Nat) : Int) t (m : Int) [] 0 [] t 0 [] (g1 := []) (g2 := 0) (g3 := 0) (by rw [hpv]; exact fail_none _ _ _ _ _ _)
            rw [hpv] at href
            have hk2 := k5of _ hk
            rw [hpv] at hk2
            exact ⟨(t, opOf w, v), n2, _, c + 1, hk2, href, k4, by omega, by omega, Wf.of _ WfL.nil⟩
          · right
            have hk := k7_some (s := s) (m1 := 0) hop hl ht1 ht2 hcv [] 0 0 ((c + 1 : Nat) : Int) t (m : Int) [] 0 [] t 0 [] (g1 := []) (g2 := (m2 : Int)) (g3 := e) (by rw [hpv]; exact fail_new _ _ _ _ he)
            have heb : (e != 0) = true := by rw [bne_iff_ne]; exact he
            rw [hpv, heb] at href
            exact ⟨_, n2, _, _, _, _, _, (m2 : Int), e, k5of _ hk, href, he, k4⟩
end Go.Proofs.Ytomaefbhcpmbiaa
 end

 section
set_option linter.unusedVariables false
set_option linter.unusedSimpArgs false
namespace Go.Proofs.Ytomaefbhcpmbiaa
open Go Go.Eng Go.Proofs

theorem cond_same {α : Type} (b : Bool) (x : α) : cond b x x = x := by cases b <;> rfl
theorem getL_last {R : Type} (K : List AV) (x : AV) (C : AV → Option R) : getL (K ++ [x]) (K.length : Int) C = C x :=
  getL_of (t := []) (by rw [List.drop_left' rfl]) C
theorem rich_stop (deep : Int) (ps : List AV) (n : Int) (f1 : List UInt8) (f2 f3 c : Int) (d1 d2 : List UInt8) (d3 : Int) (d4 : List UInt8) (K : List AV) (h : f3 ≠ 0) :
    rdep_reader_rich_l0 deep ps n f1 f2 f3 c d1 d2 d3 d4 K = some (Sum.inl ((ps, n, f1, f2, f3), c, (d1, d2, d3, d4, K))) := by
  apply rdep_reader_rich_l0_of
  unfold rdep_reader_rich_l0_E
  have : (f3 == 0) = false := by rw [beq_eq_false_iff_ne]; exact h
  rw [this]
  rfl
/-- One round of the program. -/
theorem rich_round {deep : Int} {ps : List AV} {n n2 n3 : Int} {c c2 : Int} {d1 d2 : List UInt8} {d3 : Int} {d4 : List UInt8} {K : List AV} {d : R5} {g1 : List UInt8} {g2 g3 : Int} {t : List UInt8} {m : Int}
    (hK : K.length ≤ 5000)
    (hd : rdep_reader_dep ps n [] 0 0 c deep = some (d, ((ps, n2, g1, g2, g3), c2)))
    (ht : ∀ f1 f2 f3, rdep_reader_take ps n2 f1 f2 f3 = some ((t, m), (ps, n3, f1, f2, f3))) :
    rdep_reader_rich_l0_E deep ps n [] 0 0 c d1 d2 d3 d4 K =
      cond ((((K ++ [rE d]).length : Int) == 1) && isWord t) (rdep_reader_rich_l0 deep ps n3 g1 g2 g3 c2 t d2 d3 d4 (K ++ [rE d]))
      (cond (decide ((1 : Int) < ((K ++ [rE d]).length : Int)) && (t == [41])) (some (Sum.inr ((ps, n3, g1, g2, g3), c2, (d1, d2, d3, d4, K ++ [rE d]))))
      (cond ((decide ((1 : Int) < ((K ++ [rE d]).length : Int)) && ((d1 == [97, 110, 100]) || (d1 == [111, 114]))) && (t == d1)) (rdep_reader_rich_l0 deep ps n3 g1 g2 g3 c2 d1 d2 d3 d4 (K ++ [rE d]))
      (cond (((((K ++ [rE d]).length : Int) == 2) && ((d1 == [105, 102]) || (d1 == [117, 110, 108, 101, 115, 115]))) && (t == [101, 108, 115, 101])) (rdep_reader_rich_l0 deep ps n3 g1 g2 g3 c2 d1 d2 d3 d4 (K ++ [rE d]))
      ((rdep_reader_fail ps n3 g1 g2 g3 m 3).bind fun r86 => rdep_reader_rich_l0 deep r86.2.1 r86.2.2.1 r86.2.2.2.1 r86.2.2.2.2.1 r86.2.2.2.2.2 c2 d1 d2 d3 d4 (K ++ [rE d]))))) := by
  have e : AV.agg [AV.str d.1, AV.str d.2.1, AV.int .i64 d.2.2.1, AV.str d.2.2.2.1, AV.sl false 5 d.2.2.2.2] = rE d := rfl
  unfold rdep_reader_rich_l0_E
  have h0 : ((0 : Int) == 0) = true := rfl
  simp only [h0, cond_true, hd, Option.bind_some, e, if_true]
  rw [room_of (by omega) (by omega), getL_last]
  simp only [rE, dAgg, dCons, dStr, dInt, dSl, dNil, BEq.rfl, Bool.and_self, and_self, if_true, ht, words_is, contains_is, Option.bind_some, cond_some, cond_and, cond_or]
/-- One round of the document's reader. -/
theorem l12_round {deep : Int} {s : List UInt8} {a a2 : Int} {c c2 : Int} {x1 x2 : List UInt8} {x3 : Int} {x4 : List UInt8} {x5 : List AV} {d1 d2 : List UInt8} {d3 : Int} {d4 : List UInt8} {K : List AV} {d : R5} {t : List UInt8} {m : Int}
    (hK : K.length ≤ 5000)
    (hd : drayageref15_State_dep s a [] 0 0 c (IntKind.wrap .i64 (deep + 1)) = some (d, (s, a2, [], 0, 0, c2)))
    (ht : drayageref15_State_look s a2 [] 0 0 c2 = some (t, (s, m, [], 0, 0, c2))) :
    drayageref15_State_dep_l12_E deep s a [] 0 0 c x1 x2 x3 x4 x5 d1 d2 d3 d4 K =
      cond (decide ((1 : Int) < ((K ++ [rE d]).length : Int)) && (t == [41])) (some ((s, IntKind.wrap .i64 (m + 1), [], 0, 0, c2), (d1, d2, d3, d4, K ++ [rE d]), (d1, d2, d3, d4, K ++ [rE d])))
      (cond ((((K ++ [rE d]).length : Int) == 1) && isWord t) (drayageref15_State_dep_l12 deep s (IntKind.wrap .i64 (m + (t.length : Int))) [] 0 0 c2 x1 x2 x3 x4 x5 t d2 d3 d4 (K ++ [rE d]))
      (cond (((((K ++ [rE d]).length : Int) == 2) && (t == [101, 108, 115, 101])) && ((d1 == [105, 102]) || (d1 == [117, 110, 108, 101, 115, 115]))) (drayageref15_State_dep_l12 deep s (IntKind.wrap .i64 (m + 4)) [] 0 0 c2 x1 x2 x3 x4 x5 d1 d2 d3 d4 (K ++ [rE d]))
      (cond ((decide (((K ++ [rE d]).length : Int) < 2) || !(t == d1)) || (!(t == [97, 110, 100]) && !(t == [111, 114]))) (some ((s, m, [], m, 3, c2), (d1, d2, d3, d4, K ++ [rE d]), (d1, d2, d3, d4, K ++ [rE d])))
      (drayageref15_State_dep_l12 deep s (IntKind.wrap .i64 (m + (t.length : Int))) [] 0 0 c2 x1 x2 x3 x4 x5 d1 d2 d3 d4 (K ++ [rE d]))))) := by
  have e : AV.agg [AV.str d.1, AV.str d.2.1, AV.int .i64 d.2.2.1, AV.str d.2.2.2.1, AV.sl false 5 d.2.2.2.2] = rE d := rfl
  have k28 : ∀ (w : List UInt8) (y1 y2 : List UInt8) (y3 : Int) (y4 : List UInt8) (y5 : List AV) (z1 z2 : List UInt8) (z3 : Int) (z4 : List UInt8) (z5 : List AV) (q1 q2 : List UInt8) (q3 : Int) (q4 : List UInt8) (q5 : List AV), drayageref15_State_dep_k28 deep w s m [] 0 0 c2 y1 y2 y3 y4 y5 z1 z2 z3 z4 z5 q1 q2 q3 q4 q5 = some (deep, (s, IntKind.wrap .i64 (m + (w.length : Int)), [], 0, 0, c2), (y1, y2, y3, y4, y5), (z1, z2, z3, z4, z5), (q1, q2, q3, q4, q5)) :=
    fun _ _ _ _ _ _ _ _ _ _ _ _ _ _ _ _ => drayageref15_State_dep_k28_of rfl
  unfold drayageref15_State_dep_l12_E
  have h0 : ((0 : Int) != 0) = false := rfl
  simp only [hd, Option.bind_some, h0, cond_false, e]
  rw [room_of (by simp; omega) (by omega)]
  simp only [ht, Option.bind_some, cond_some, cond_and, cond_or, word_is, k28, bad_is]
  rfl

 section
variable {s : List UInt8} {ps : List AV}
/-- What a whole round brings: the dependency's kids and its word, or the same fault. -/
def LoopJ (s : List UInt8) (ps : List AV) (N : Nat) : Prop := ∀ (n a c deep : Nat) (op : List UInt8) (K : List AV) (x1 x2 : List UInt8) (x3 : Int) (x4 : List UInt8) (x5 : List AV), s.length - a ≤ N → At s ps n a → deep < 32 → c ≤ 64 → K.length ≤ a → WfL K →
  (∃ (op2 : List UInt8) (K2 : List AV) (n2 a2 c2 : Nat) (z : R5), rdep_reader_rich_l0 ((deep + 1 : Nat) : Int) ps (n : Int) [] 0 0 (c : Int) op [] 0 [] K = some (Sum.inr ((ps, (n2 : Int), [], 0, 0), (c2 : Int), (op2, [], 0, [], K2))) ∧
    drayageref15_State_dep_l12 (deep : Int) s (a : Int) [] 0 0 (c : Int) x1 x2 x3 x4 x5 op [] 0 [] K = some ((s, (a2 : Int), [], 0, 0, (c2 : Int)), (op2, [], 0, [], K2), z) ∧ At s ps n2 a2 ∧ a < a2 ∧ c2 ≤ 64 ∧ WfL K2) ∨
  (∃ (n2 b : Nat) (c1 : Int) (d1 : R5) (a2 c2 at' e : Int) (z1 z2 : R5), (rdep_reader_rich_l0 ((deep + 1 : Nat) : Int) ps (n : Int) [] 0 0 (c : Int) op [] 0 [] K = some (Sum.inr ((ps, (n2 : Int), [], at', e), c1, d1)) ∨ rdep_reader_rich_l0 ((deep + 1 : Nat) : Int) ps (n : Int) [] 0 0 (c : Int) op [] 0 [] K = some (Sum.inl ((ps, (n2 : Int), [], at', e), c1, d1))) ∧
    drayageref15_State_dep_l12 (deep : Int) s (a : Int) [] 0 0 (c : Int) x1 x2 x3 x4 x5 op [] 0 [] K = some ((s, a2, [], at', e, c2), z1, z2) ∧ e ≠ 0 ∧ At s ps n2 b)
def DepJ (s : List UInt8) (ps : List AV) (N : Nat) : Prop := ∀ (n a c deep : Nat), s.length - a ≤ N → At s ps n a → deep ≤ 32 → c ≤ 64 →
  Fine s ps a (fun d : R5 => d) Wf (rdep_reader_dep ps (n : Int) [] 0 0 (c : Int) (deep : Int)) (drayageref15_State_dep s (a : Int) [] 0 0 (c : Int) (deep : Int)) ∨
  Bad s ps (rdep_reader_dep ps (n : Int) [] 0 0 (c : Int) (deep : Int)) (drayageref15_State_dep s (a : Int) [] 0 0 (c : Int) (deep : Int))

theorem dep_of (hs : s.length ≤ 4000) (N : Nat) (ih : ∀ M, M < N → LoopJ s ps M) : DepJ s ps N := by
  intro n a c deep hN hA hdeep hc
  obtain ⟨t, m, n1, _, ht, hl, g1, g2, g3, g4⟩ := step hs hA
  cases hp : isPlain t with
  | true =>
    have hne := List.length_pos_iff.2 (isPlain_ne hp)
    have ht1 : (t == []) = false := by rw [beq_eq_false_iff_ne]; exact isPlain_ne hp
    have ht2 : (t == [41]) = false := by
      cases h : t == [41] with
      | false => rfl
      | true => rw [beq_iff_eq] at h; subst h; exact absurd hp (by decide)
    have ht3 : (t == [40]) = false := by
      cases h : t == [40] with
      | false => rfl
      | true => rw [beq_iff_eq] at h; subst h; exact absurd hp (by decide)
    have hprog : ∀ r, rdep_reader_atom ps (n1 : Int) [] 0 0 (c : Int) t (m : Int) = some r → rdep_reader_dep ps (n : Int) [] 0 0 (c : Int) (deep : Int) = some (([], r.1.1, r.1.2.1, r.1.2.2, []), ((r.2.1.1, r.2.1.2.1, r.2.1.2.2.1, r.2.1.2.2.2.1, r.2.1.2.2.2.2), r.2.2)) := by
      intro r hr
      apply rdep_reader_dep_of
      unfold rdep_reader_dep_E
      simp only [ht, Option.bind_some, plain_is, hp, cond_true, hr]
    have href : ∀ r, drayageref15_State_atom s (m : Int) [] 0 0 (c : Int) t = some r → drayageref15_State_dep s (a : Int) [] 0 0 (c : Int) (deep : Int) = some r := by
      intro r hr
      apply drayageref15_State_dep_of
      unfold drayageref15_State_dep_E
      simp only [hl, Option.bind_some, ht1, ht2, ht3, cond_some, cond_or, Bool.or_self, cond_false, Bool.not_false, cond_true, hr]
    rcases atom_joint hs hp (by omega) g4 c hc with ⟨d, n2, a2, c2, h1, h2, h3, h4, h5, h6⟩ | ⟨d, n2, b, c1, d2, a2, c2, at', e, h1, h2, h3, h4⟩
    · left
      exact ⟨atomR d, n2, a2, c2, hprog _ h1, href _ h2, h3, by omega, h5, h6⟩
    · right
      exact ⟨_, n2, b, c1, d2, a2, c2, at', e, hprog _ h1, href _ h2, h3, h4⟩
  | false =>
    by_cases h40 : t = [40]
    · subst h40
      have hm : m + 1 ≤ s.length := g2
      by_cases h32 : deep = 32
      · right
        subst h32
        refine ⟨([], [], 0, [], []), n1, _, (c : Int), ([], [], 0, [], []), (m : Int), (c : Int), (m : Int), 4, ?_, ?_, by decide, g4⟩
        · apply rdep_reader_dep_of
          unfold rdep_reader_dep_E
          simp only [ht, Option.bind_some, plain_is, hp, cond_false]
          have e1 : (!(([40] : List UInt8) == [40])) = false := rfl
          have e2 : ((32 : Int) == 32) = true := rfl
          have e3 : (((32 : Nat) : Int) == 32) = true := rfl
          rw [e1, e3, cond_false, cond_true, fail_new _ _ _ _ (by decide)]
          rfl
        · apply drayageref15_State_dep_of
          unfold drayageref15_State_dep_E
          simp only [hl, Option.bind_some]
          have e1 : (([40] : List UInt8) == []) = false := rfl
          have e2 : (([40] : List UInt8) == [41]) = false := rfl
          have e3 : (!(([40] : List UInt8) == [40])) = false := rfl
          have e4 : (((32 : Nat) : Int) == 32) = true := rfl
          simp only [e1, e2, e3, e4, cond_false, cond_true, Option.bind_some, bad_is]
      · have hL := ih (s.length - (m + 1)) (by omega) n1 (m + 1) c deep [] [] [] [] 0 [] [] (Nat.le_refl _) g4 (by omega) hc (by simp) WfL.nil
        have hwd : IntKind.wrap .i64 ((deep : Int) + 1) = ((deep + 1 : Nat) : Int) := wr_succ (by omega)
        have hwm : IntKind.wrap .i64 ((m : Int) + 1) = ((m + 1 : Nat) : Int) := wr_succ (by omega)
        have hd32 : ((deep : Int) == 32) = false := by rw [beq_eq_false_iff_ne]; omega
        have hprog : ∀ X, (rdep_reader_rich_l0 ((deep + 1 : Nat) : Int) ps (n1 : Int) [] 0 0 (c : Int) [] [] 0 [] [] = some (Sum.inr X) ∨ rdep_reader_rich_l0 ((deep + 1 : Nat) : Int) ps (n1 : Int) [] 0 0 (c : Int) [] [] 0 [] [] = some (Sum.inl X)) →
            rdep_reader_dep ps (n : Int) [] 0 0 (c : Int) (deep : Int) = some (X.2.2, (X.1, X.2.1)) := by
          intro X hX
          have hrich : rdep_reader_rich ps (n1 : Int) [] 0 0 (c : Int) [] [] 0 [] [] ((deep + 1 : Nat) : Int) = some ((), X) := by
            apply rdep_reader_rich_of
            unfold rdep_reader_rich_E
            rcases hX with hX | hX <;> rw [hX] <;> rfl
          apply rdep_reader_dep_of
          unfold rdep_reader_dep_E
          simp only [ht, Option.bind_some, plain_is, hp, cond_false]
          have e1 : (!(([40] : List UInt8) == [40])) = false := rfl
          rw [e1, hd32, cond_false, cond_false, hwd, hrich]
          rfl
        have href : ∀ X, drayageref15_State_dep_l12 (deep : Int) s ((m + 1 : Nat) : Int) [] 0 0 (c : Int) [] [] 0 [] [] [] [] 0 [] [] = some X →
            drayageref15_State_dep s (a : Int) [] 0 0 (c : Int) (deep : Int) = some (X.2.1, X.1) := by
          intro X hX
          apply drayageref15_State_dep_of
          unfold drayageref15_State_dep_E
          simp only [hl, Option.bind_some]
          have e1 : (([40] : List UInt8) == []) = false := rfl
          have e2 : (([40] : List UInt8) == [41]) = false := rfl
          have e3 : (!(([40] : List UInt8) == [40])) = false := rfl
          simp only [e1, e2, e3, hd32, cond_false, cond_true, Option.bind_some]
          rw [hwm, hX]
          rfl
        rcases hL with ⟨op2, K2, n2, a2, c2, z, h1, h2, h3, h4, h5, h6⟩ | ⟨n2, b, c1, d1, a2, c2, at', e, z1, z2, h1, h2, h3, h4⟩
        · left
          exact ⟨(op2, [], 0, [], K2), n2, a2, c2, hprog _ (.inl h1), href _ h2, h3, by omega, h5, Wf.of _ h6⟩
        · right
          exact ⟨d1, n2, b, c1, z1, a2, c2, at', e, hprog _ h1, href _ h2, h3, h4⟩
    · right
      have ht3 : (t == [40]) = false := by rw [beq_eq_false_iff_ne]; exact h40
      have hb : ((t == []) || (t == [41])) = true := by
        unfold isPlain at hp
        rw [ht3] at hp
        cases h1 : t == [] <;> cases h2 : t == [41] <;> rw [h1, h2] at hp <;> first | rfl | exact absurd hp (by decide)
      refine ⟨([], [], 0, [], []), n1, _, (c : Int), ([], [], 0, [], []), (m : Int), (c : Int), (m : Int), 3, ?_, ?_, by decide, g4⟩
      · apply rdep_reader_dep_of
        unfold rdep_reader_dep_E
        simp only [ht, Option.bind_some, plain_is, hp, cond_false, ht3, Bool.not_false, cond_true, fail_new _ _ _ _ (show (3 : Int) ≠ 0 by decide)]
      · apply drayageref15_State_dep_of
        unfold drayageref15_State_dep_E
        simp only [hl, Option.bind_some, cond_some, cond_or, hb, cond_true, bad_is]
theorem word_else : isWord [101, 108, 115, 101] = false := rfl
theorem loop_of (hs : s.length ≤ 4000) (N : Nat) (hD : DepJ s ps N) (ih : ∀ M, M < N → LoopJ s ps M) : LoopJ s ps N := by
  intro n a c deep op K x1 x2 x3 x4 x5 hN hA hdeep hc hK hWf
  have hwd : IntKind.wrap .i64 ((deep : Int) + 1) = ((deep + 1 : Nat) : Int) := wr_succ (by omega)
  have hal := hA.2.2
  rcases hD n a c (deep + 1) hN hA (by omega) hc with ⟨d, n2, a2, c2, h1, h2, h3, h4, h5, h6⟩ | ⟨d, n2, b, c1, d2, a2, c2, at', e, h1, h2, h3, h4⟩
  · obtain ⟨t, m, n3, _, ht, hl, g1, g2, g3, g4⟩ := step hs h3
    have hal2 := h3.2.2
    have hR := rich_round (d1 := op) (d2 := []) (d3 := 0) (d4 := []) (K := K) (by omega) h1 ht
    have hQ := l12_round (deep := (deep : Int)) (x1 := x1) (x2 := x2) (x3 := x3) (x4 := x4) (x5 := x5) (d1 := op) (d2 := []) (d3 := 0) (d4 := []) (K := K) (by omega) (by rw [hwd]; exact h2) (hl [] 0 0 (c2 : Int))
    have hwt : IntKind.wrap .i64 ((m : Int) + (t.length : Int)) = ((m + t.length : Nat) : Int) := wr_add (by omega) (by omega)
    rw [hwt] at hQ
    have hwf := WfL.snoc hWf h6 (by omega)
    have hKl : (K ++ [rE d]).length = K.length + 1 := by rw [List.length_append]; rfl
    -- how both go on
    have next : ∀ (op' : List UInt8), rdep_reader_rich_l0_E ((deep + 1 : Nat) : Int) ps (n : Int) [] 0 0 (c : Int) op [] 0 [] K = rdep_reader_rich_l0 ((deep + 1 : Nat) : Int) ps (n3 : Int) [] 0 0 (c2 : Int) op' [] 0 [] (K ++ [rE d]) →
        drayageref15_State_dep_l12_E (deep : Int) s (a : Int) [] 0 0 (c : Int) x1 x2 x3 x4 x5 op [] 0 [] K = drayageref15_State_dep_l12 (deep : Int) s ((m + t.length : Nat) : Int) [] 0 0 (c2 : Int) x1 x2 x3 x4 x5 op' [] 0 [] (K ++ [rE d]) → _ := fun op' e1 e2 =>
      ih (s.length - (m + t.length)) (by omega) n3 (m + t.length) c2 deep op' (K ++ [rE d]) x1 x2 x3 x4 x5 (Nat.le_refl _) g4 hdeep h5 (by omega) hwf
    have cont : ∀ (op' : List UInt8), rdep_reader_rich_l0_E ((deep + 1 : Nat) : Int) ps (n : Int) [] 0 0 (c : Int) op [] 0 [] K = rdep_reader_rich_l0 ((deep + 1 : Nat) : Int) ps (n3 : Int) [] 0 0 (c2 : Int) op' [] 0 [] (K ++ [rE d]) →
        drayageref15_State_dep_l12_E (deep : Int) s (a : Int) [] 0 0 (c : Int) x1 x2 x3 x4 x5 op [] 0 [] K = drayageref15_State_dep_l12 (deep : Int) s ((m + t.length : Nat) : Int) [] 0 0 (c2 : Int) x1 x2 x3 x4 x5 op' [] 0 [] (K ++ [rE d]) → 
        (∃ (op2 : List UInt8) (K2 : List AV) (n2 a2 c2 : Nat) (z : R5), rdep_reader_rich_l0 ((deep + 1 : Nat) : Int) ps (n : Int) [] 0 0 (c : Int) op [] 0 [] K = some (Sum.inr ((ps, (n2 : Int), [], 0, 0), (c2 : Int), (op2, [], 0, [], K2))) ∧
    drayageref15_State_dep_l12 (deep : Int) s (a : Int) [] 0 0 (c : Int) x1 x2 x3 x4 x5 op [] 0 [] K = some ((s, (a2 : Int), [], 0, 0, (c2 : Int)), (op2, [], 0, [], K2), z) ∧ At s ps n2 a2 ∧ a < a2 ∧ c2 ≤ 64 ∧ WfL K2) ∨
  (∃ (n2 b : Nat) (c1 : Int) (d1 : R5) (a2 c2 at' e : Int) (z1 z2 : R5), (rdep_reader_rich_l0 ((deep + 1 : Nat) : Int) ps (n : Int) [] 0 0 (c : Int) op [] 0 [] K = some (Sum.inr ((ps, (n2 : Int), [], at', e), c1, d1)) ∨ rdep_reader_rich_l0 ((deep + 1 : Nat) : Int) ps (n : Int) [] 0 0 (c : Int) op [] 0 [] K = some (Sum.inl ((ps, (n2 : Int), [], at', e), c1, d1))) ∧
    drayageref15_State_dep_l12 (deep : Int) s (a : Int) [] 0 0 (c : Int) x1 x2 x3 x4 x5 op [] 0 [] K = some ((s, a2, [], at', e, c2), z1, z2) ∧ e ≠ 0 ∧ At s ps n2 b) := by
      intro op' e1 e2
      rcases next op' e1 e2 with ⟨op2, K2, n4, a4, c4, z, k1, k2, k3, k4, k5, k6⟩ | ⟨n4, b, c4, d4, a4, c5, at', e, z1, z2, k1, k2, k3, k4⟩
      · left
        exact ⟨op2, K2, n4, a4, c4, z, rdep_reader_rich_l0_of (e1.trans k1), drayageref15_State_dep_l12_of (e2.trans k2), k3, by omega, k5, k6⟩
      · right
        refine ⟨n4, b, c4, d4, a4, c5, at', e, z1, z2, ?_, drayageref15_State_dep_l12_of (e2.trans k2), k3, k4⟩
        rcases k1 with k1 | k1
        · exact .inl (rdep_reader_rich_l0_of (e1.trans k1))
        · exact .inr (rdep_reader_rich_l0_of (e1.trans k1))
    have fault : rdep_reader_rich_l0_E ((deep + 1 : Nat) : Int) ps (n : Int) [] 0 0 (c : Int) op [] 0 [] K = ((rdep_reader_fail ps (n3 : Int) [] 0 0 (m : Int) 3).bind fun r86 => rdep_reader_rich_l0 ((deep + 1 : Nat) : Int) r86.2.1 r86.2.2.1 r86.2.2.2.1 r86.2.2.2.2.1 r86.2.2.2.2.2 (c2 : Int) op [] 0 [] (K ++ [rE d])) →
        drayageref15_State_dep_l12_E (deep : Int) s (a : Int) [] 0 0 (c : Int) x1 x2 x3 x4 x5 op [] 0 [] K = some ((s, (m : Int), [], (m : Int), 3, (c2 : Int)), (op, [], 0, [], K ++ [rE d]), (op, [], 0, [], K ++ [rE d])) → 
        (∃ (op2 : List UInt8) (K2 : List AV) (n2 a2 c2 : Nat) (z : R5), rdep_reader_rich_l0 ((deep + 1 : Nat) : Int) ps (n : Int) [] 0 0 (c : Int) op [] 0 [] K = some (Sum.inr ((ps, (n2 : Int), [], 0, 0), (c2 : Int), (op2, [], 0, [], K2))) ∧
    drayageref15_State_dep_l12 (deep : Int) s (a : Int) [] 0 0 (c : Int) x1 x2 x3 x4 x5 op [] 0 [] K = some ((s, (a2 : Int), [], 0, 0, (c2 : Int)), (op2, [], 0, [], K2), z) ∧ At s ps n2 a2 ∧ a < a2 ∧ c2 ≤ 64 ∧ WfL K2) ∨
  (∃ (n2 b : Nat) (c1 : Int) (d1 : R5) (a2 c2 at' e : Int) (z1 z2 : R5), (rdep_reader_rich_l0 ((deep + 1 : Nat) : Int) ps (n : Int) [] 0 0 (c : Int) op [] 0 [] K = some (Sum.inr ((ps, (n2 : Int), [], at', e), c1, d1)) ∨ rdep_reader_rich_l0 ((deep + 1 : Nat) : Int) ps (n : Int) [] 0 0 (c : Int) op [] 0 [] K = some (Sum.inl ((ps, (n2 : Int), [], at', e), c1, d1))) ∧
    drayageref15_State_dep_l12 (deep : Int) s (a : Int) [] 0 0 (c : Int) x1 x2 x3 x4 x5 op [] 0 [] K = some ((s, a2, [], at', e, c2), z1, z2) ∧ e ≠ 0 ∧ At s ps n2 b) := by
      intro e1 e2
      right
      rw [fail_new _ _ _ _ (by decide)] at e1
      simp only [Option.bind_some] at e1
      rw [rich_stop _ _ _ _ _ _ _ _ _ _ _ _ (by decide)] at e1
      exact ⟨n3, _, _, _, _, _, _, _, _, _, .inr (rdep_reader_rich_l0_of e1), drayageref15_State_dep_l12_of e2, by decide, g4⟩
    cases K with
    | nil =>
      have l1 : (((([] : List AV) ++ [rE d]).length : Int) == 1) = true := rfl
      have l2 : decide ((1 : Int) < ((([] : List AV) ++ [rE d]).length : Int)) = false := rfl
      have l3 : (((([] : List AV) ++ [rE d]).length : Int) == 2) = false := rfl
      have l4 : decide (((([] : List AV) ++ [rE d]).length : Int) < 2) = true := rfl
      rw [l1, l2, l3] at hR
      rw [l1, l2, l3, l4] at hQ
      simp only [Bool.true_and, Bool.false_and, cond_false, Bool.true_or, cond_true] at hR hQ
      cases hw : isWord t with
      | true =>
        rw [hw, cond_true] at hR hQ
        exact cont t hR hQ
      | false =>
        rw [hw, cond_false] at hR hQ
        exact fault hR hQ
    | cons k K =>
      have hlen : ((k :: K) ++ [rE d]).length = K.length + 2 := by simp
      have l1 : ((((k :: K) ++ [rE d]).length : Int) == 1) = false := by rw [beq_eq_false_iff_ne]; omega
      have l2 : decide ((1 : Int) < (((k :: K) ++ [rE d]).length : Int)) = true := decide_eq_true (by omega)
      have l4 : decide ((((k :: K) ++ [rE d]).length : Int) < 2) = false := decide_eq_false (by omega)
      rw [l1, l2] at hR
      rw [l1, l2, l4] at hQ
      simp only [Bool.true_and, Bool.false_and, cond_false, Bool.false_or] at hR hQ
      by_cases h41 : t = [41]
      · left
        subst h41
        have e41 : (([41] : List UInt8) == [41]) = true := rfl
        rw [e41, cond_true] at hR hQ
        have hwm : IntKind.wrap .i64 ((m : Int) + 1) = ((m + 1 : Nat) : Int) := wr_succ (by omega)
        rw [hwm] at hQ
        exact ⟨op, (k :: K) ++ [rE d], n3, m + 1, c2, _, rdep_reader_rich_l0_of hR, drayageref15_State_dep_l12_of hQ, g4, by omega, h5, hwf⟩
      · have e41 : (t == [41]) = false := by rw [beq_eq_false_iff_ne]; exact h41
        rw [e41, cond_false] at hR hQ
        by_cases hop : t = op
        · subst hop
          have e1 : (t == t) = true := beq_self_eq_true t
          rw [e1] at hR hQ
          simp only [Bool.and_true, Bool.not_true, Bool.false_or] at hR hQ
          have hne : (((t == [105, 102]) || (t == [117, 110, 108, 101, 115, 115])) && (t == [101, 108, 115, 101])) = false := by
            cases h : t == [101, 108, 115, 101] with
            | false => rw [Bool.and_false]
            | true => rw [beq_iff_eq] at h; subst h; rfl
          have hne1 : ((((((k :: K) ++ [rE d]).length : Int) == 2) && ((t == [105, 102]) || (t == [117, 110, 108, 101, 115, 115]))) && (t == [101, 108, 115, 101])) = false := by
            rw [Bool.and_assoc, hne, Bool.and_false]
          have hne2 : ((((((k :: K) ++ [rE d]).length : Int) == 2) && (t == [101, 108, 115, 101])) && ((t == [105, 102]) || (t == [117, 110, 108, 101, 115, 115]))) = false := by
            rw [Bool.and_assoc, Bool.and_comm (t == [101, 108, 115, 101]), hne, Bool.and_false]
          rw [hne1] at hR
          rw [hne2] at hQ
          simp only [cond_false] at hR hQ
          cases hao : ((t == [97, 110, 100]) || (t == [111, 114])) with
          | true =>
            have hao2 : (!(t == [97, 110, 100]) && !(t == [111, 114])) = false := by
              rw [← Bool.not_or, hao]; rfl
            rw [hao, cond_true] at hR
            rw [hao2, cond_false] at hQ
            exact cont t hR hQ
          | false =>
            have hao2 : (!(t == [97, 110, 100]) && !(t == [111, 114])) = true := by
              rw [← Bool.not_or, hao]; rfl
            rw [hao, cond_false] at hR
            rw [hao2, cond_true] at hQ
            exact fault hR hQ
        · have e1 : (t == op) = false := by rw [beq_eq_false_iff_ne]; exact hop
          rw [e1] at hR hQ
          simp only [Bool.and_false, cond_false, Bool.not_false, Bool.true_or, cond_true] at hR hQ
          by_cases hel : t = [101, 108, 115, 101]
          · subst hel
            have e2 : (([101, 108, 115, 101] : List UInt8) == [101, 108, 115, 101]) = true := rfl
            rw [e2] at hR hQ
            simp only [Bool.and_true] at hR hQ
            have hwm : IntKind.wrap .i64 ((m : Int) + 4) = ((m + ([101, 108, 115, 101] : List UInt8).length : Nat) : Int) := hwt
            rw [hwm] at hQ
            cases hb : ((((k :: K) ++ [rE d]).length : Int) == 2) && ((op == [105, 102]) || (op == [117, 110, 108, 101, 115, 115])) with
            | true =>
              rw [hb, cond_true] at hR hQ
              exact cont op hR hQ
            | false =>
              rw [hb, cond_false] at hR hQ
              exact fault hR hQ
          · have e2 : (t == [101, 108, 115, 101]) = false := by rw [beq_eq_false_iff_ne]; exact hel
            rw [e2] at hR hQ
            simp only [Bool.and_false, Bool.false_and, cond_false] at hR hQ
            exact fault hR hQ
  · right
    obtain ⟨t, m, n3, _, ht, hl, g1, g2, g3, g4⟩ := step hs h4
    have hR := rich_round (d1 := op) (d2 := []) (d3 := 0) (d4 := []) (K := K) (by omega) h1 ht
    have hQ : drayageref15_State_dep_l12 (deep : Int) s (a : Int) [] 0 0 (c : Int) x1 x2 x3 x4 x5 op [] 0 [] K = some ((s, a2, [], at', e, c2), (op, [], 0, [], K), (op, [], 0, [], K)) := by
      apply drayageref15_State_dep_l12_of
      unfold drayageref15_State_dep_l12_E
      rw [hwd, h2]
      have : (e != 0) = true := by rw [bne_iff_ne]; exact h3
      simp only [Option.bind_some, this, cond_true]
    have hstop := fun op' => rich_stop ((deep + 1 : Nat) : Int) ps (n3 : Int) [] at' e c1 op' [] 0 [] (K ++ [rE d]) h3
    simp only [fail_kept _ _ _ _ _ _ _ h3, Option.bind_some, hstop] at hR
    cases q1 : ((((K ++ [rE d]).length : Int) == 1) && isWord t) with
    | true =>
      rw [q1, cond_true] at hR
      exact ⟨n3, _, _, _, _, _, at', e, _, _, .inr (rdep_reader_rich_l0_of hR), hQ, h3, g4⟩
    | false =>
      rw [q1, cond_false] at hR
      cases q2 : (decide ((1 : Int) < ((K ++ [rE d]).length : Int)) && (t == [41])) with
      | true =>
        rw [q2, cond_true] at hR
        exact ⟨n3, _, _, _, _, _, at', e, _, _, .inl (rdep_reader_rich_l0_of hR), hQ, h3, g4⟩
      | false =>
        rw [q2, cond_false] at hR
        simp only [cond_some, cond_same] at hR
        exact ⟨n3, _, _, _, _, _, at', e, _, _, .inr (rdep_reader_rich_l0_of hR), hQ, h3, g4⟩
theorem both (hs : s.length ≤ 4000) : ∀ N, DepJ s ps N ∧ LoopJ s ps N := by
  intro N
  induction N using Nat.strongRecOn with
  | ind N ih =>
    have h := dep_of hs N fun M hM => (ih M hM).2
    exact ⟨h, loop_of hs N h fun M hM => (ih M hM).2⟩
 end
end Go.Proofs.Ytomaefbhcpmbiaa
 end
