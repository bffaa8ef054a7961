/- RdepParses: the row, out of the pure law.
   awake: by running it.
   RdepParses: the pure law. -/
import Derived.Test.YtomaefbhcpmbiaaYd
import Derived.Test.YtomaefbhcpmbiaaRows
import Derived.WalkKit
import Derived.ProofKit
import Derived.OpenShut
import Derived.ShutString
import Derived.ChangeOld
import Derived.Below
import Derived.SizedLaws
import Derived.Test.YtomaefbhcpmbiaaYb
import Derived.Test.YtomaefbhcpmbiaaPc
 section
set_option linter.unusedVariables false
namespace Go.Proofs.Ytomaefbhcpmbiaa.rdepParses
open Go.ChangeShapes Go.WideShapes Go.ChangeAt Go.RowKit
open Go.ChangeMaps (open_string shut_string)
open Go.Eng

/-- What is left: the law on lists of bytes. -/
def Pure : Prop := ∀ s : List UInt8, s.length ≤ 140737488351232 → drayagelaw15_RdepParses s = some true

theorem own : ownKnob Try.prog.godebug = none := by kernel_rfl

theorem walk (h : Pure) (s : ByteArray) (hs : s.size ≤ 140737488351232) (w : World) : Calls Try.prog 3 #[.string s] w fun e w' => e = .returned (.bool true) ∧ Below w.heap.size w w' := by
  have h1 := h s.data.toList (by simpa using hs)
  have h2 : (lim tp).call 3 [.str s.data.toList] [] = some (.bool true, []) := fnU_any tp_ren (c := Cod.bool) h1 rfl rfl []
  exact walk_of (vs := [.string s]) (ds := [.str s.data.toList]) tp_ok Try.func3 rfl (by kernel_rfl) (noPers (w := w)) (repL_mk rep_nothing repL_nil) rfl h2

set_option maxRecDepth 100000 in
theorem lifted (P : Pure) (os : Os) (started : os.Started) (H : Type) (enc : TypeId × Value → H) :
    ReturnsInHanded {} Try.checked os 3 .any (Rows.rdepParsesSpec.pre6 enc Try.prog Try.f3 Rows.rdepParsesRow.domain false) (Rows.rdepParsesSpec.post enc Try.prog Try.f3 false true false false) := by
  refine returnsInHanded_of_change_sized (C := Try.checked) own started (by kernel_rfl) Try.func3
    (ChangeSpec.witness6 (enc := enc) (C := Try.checked) false ⟨#[], #[.string ByteArray.empty], []⟩ 8 (by kernel_rfl) (by kernel_rfl) (by kernel_rfl) (by kernel_rfl)) ?_
  intro W base args ds gs before hval0 hW hcnd hsz0 _
  have hsz : (DataW.weightsEach Try.prog (Try.f3.params.toList ++ Rows.rdepParsesSpec.plain.varTypes Try.prog) (ds ++ gs)).all (· ≤ reachBytes) = true := hsz0
  have hval : ∀ (j : Nat) t v, Try.f3.params[j]? = some t → args[j]? = some v → Value.okWide Try.prog W .any base t v := hval0
  have hW' := hW
  obtain ⟨p, q, hA0, hV, rfl, hfz, hnd⟩ := hW
  have hA : DataW.TrodAll enc Try.prog W 0 (fun _ => true) true Try.f3.params.toList args.toList ds p := hA0
  rw [Try.params3] at hA hval hsz
  obtain ⟨v0, vs0, d0, ds0, p0, q0, hargs, rfl, rfl, h0, r0⟩ := trodAll_cons hA
  obtain ⟨rfl, rfl, rfl⟩ := trodAll_nil r0
  obtain rfl : args = #[v0] := by cases args; simp_all
  obtain ⟨rfl, rfl⟩ := trodVars_none hV
  obtain ⟨a0, rfl, rfl, rfl, y0⟩ := open_string Try.underlying9 (hval 0 9 v0 rfl rfl) h0
  have w0 : a0.size ≤ 140737488351232 := by
    have z := sized_string hsz (j := 0) (t := 9) rfl rfl
    rw [Array.length_toList] at z
    exact z
  clear hA0 hval0 hsz0 hsz
  refine (walk P a0 w0 W).mono fun e W' ⟨he, bel⟩ => ?_
  subst he
  exact ⟨_, rfl, _, _, _, [], _, [], hW', trodAll_mk1 (shut_bool Try.underlying4 _), (trodAll_cons_mk (shut_string Try.underlying9 y0) trodAll_mk0), rfl, bel.frame _, fun h => by cases h⟩
theorem over (P : Pure) : Rows.rdepParsesRow.holds Try.pinned (OpenSpec.ofChange Rows.rdepParsesSpec) :=
  OpenClaim.holds_of_wide 3 Try.f3 rfl rfl rfl rfl rfl rfl rfl ⟨rfl, rfl, rfl, rfl, rfl⟩ rfl rfl rfl rfl rfl (by kernel_rfl) Try.func3 (by kernel_rfl)
    (of_decide_eq_true (by kernel_rfl)) (by unfold Func.isWrapper; first | (rw [if_pos (by decide +kernel)]; kernel_rfl) | (rw [if_neg (by decide +kernel)]; exact ⟨rfl, rfl⟩))
    (fun os started H enc _ => lifted P os started H enc)
theorem proved_of (P : Pure) : Rows.RdepParsesSaid := over P
end Go.Proofs.Ytomaefbhcpmbiaa.rdepParses
 end

 section
set_option maxRecDepth 1000000
namespace Go.Proofs.Ytomaefbhcpmbiaa
open Go Go.Eng Go.Proofs
theorem awake_run : (runF tp 200).call 6 [] [] = some (.bool true, []) := by kernel_rfl
theorem awake_true : drayagelaw15_awake = some true := by
  unfold drayagelaw15_awake FnU
  rw [lim_call.2 ⟨200, awake_run⟩]; rfl
end Go.Proofs.Ytomaefbhcpmbiaa
 end

 section
set_option linter.unusedVariables false
set_option linter.unusedSimpArgs false
namespace Go.Proofs.Ytomaefbhcpmbiaa
open Go Go.Eng Go.Proofs

theorem same_loop {d : R5} (f : AV → R5) (h1 : ∀ k ∈ d.2.2.2.2, k = rE (f k)) (h2 : ∀ k ∈ d.2.2.2.2, drayageref15_Same (f k).1 (f k).2.1 (f k).2.2.1 (f k).2.2.2.1 (f k).2.2.2.2 (f k).1 (f k).2.1 (f k).2.2.1 (f k).2.2.2.1 (f k).2.2.2.2 = some true) (hl : d.2.2.2.2.length ≤ 4611686018427387904) :
    ∀ (l : List AV) (i : Nat), d.2.2.2.2.drop i = l → i ≤ d.2.2.2.2.length →
    drayageref15_Same_l4 (i : Int) d.1 d.2.1 d.2.2.1 d.2.2.2.1 d.2.2.2.2 d.1 d.2.1 d.2.2.1 d.2.2.2.1 d.2.2.2.2 = some (Sum.inl ((d.1, d.2.1, d.2.2.1, d.2.2.2.1, d.2.2.2.2), (d.1, d.2.1, d.2.2.1, d.2.2.2.1, d.2.2.2.2)))
  | [], i, h, hi => by
    apply drayageref15_Same_l4_of
    unfold drayageref15_Same_l4_E
    rw [out_dec h]
    rfl
  | k :: t, i, h, hi => by
    obtain ⟨g1, g2, g3, g4⟩ := drop_cons h
    have hk : k ∈ d.2.2.2.2 := List.mem_of_getElem? g2
    have hs := h2 k hk
    have ih := same_loop f h1 h2 hl t (i + 1) g3 (by omega)
    have he := h1 k hk
    apply drayageref15_Same_l4_of
    unfold drayageref15_Same_l4_E
    rw [in_dec h]
    simp only [getL_of h, cond_true]
    rw [he]
    simp only [rE, dAgg, dCons, dStr, dInt, dSl, dNil, BEq.rfl, Bool.and_self, and_self, if_true, hs, Option.bind_some, Bool.not_true, cond_false]
    rw [wr_succ (by omega)]
    exact ih
theorem same_refl {d : R5} (h : Wf d) : drayageref15_Same d.1 d.2.1 d.2.2.1 d.2.2.2.1 d.2.2.2.2 d.1 d.2.1 d.2.2.1 d.2.2.2.1 d.2.2.2.2 = some true := by
  induction h with
  | mk d f hl h1 h2 ih =>
    have hL := same_loop f h1 ih hl d.2.2.2.2 0 rfl (by omega)
    have hL' : drayageref15_Same_l4 0 d.1 d.2.1 d.2.2.1 d.2.2.2.1 d.2.2.2.2 d.1 d.2.1 d.2.2.1 d.2.2.2.1 d.2.2.2.2 = _ := hL
    apply drayageref15_Same_of
    unfold drayageref15_Same_E
    have e1 : ((d.2.2.2.2.length : Int) != (d.2.2.2.2.length : Int)) = false := by simp
    simp only [beq_self_eq_true, Bool.not_true, Bool.and_self, cond_false, Option.bind_some, e1]
    rw [hL']
    rfl
/-- What both make of a text. -/
theorem parse_both (s : List UInt8) (hs : s.length ≤ 4000) : ∃ (d : R5) (f : List UInt8 × Int × Int), rdep_Parse s = some (d, f) ∧ drayageref15_Parse s = some (d, f) ∧ Wf d := by
  have hA := At_zero s hs
  have hw0 : Wf ([], [], 0, [], []) := Wf.of _ WfL.nil
  have k7 : ∀ (g1 g2 : List UInt8) (g3 : Int) (g4 : List UInt8) (g5 : List AV) (g6 : List UInt8) (g7 g8 : Int) (ps : List AV) (n : Int) (f1 : List UInt8) (f2 f3 c : Int) (d : R5) (t : List UInt8) (m : Int),
      ∃ r, rdep_Parse_k7 g1 g2 g3 g4 g5 g6 g7 g8 ps n f1 f2 f3 c d.1 d.2.1 d.2.2.1 d.2.2.2.1 d.2.2.2.2 t m = some r ∧ r.1 = (if f3 ≠ 0 then ([], [], 0, [], []) else d) ∧ r.2.1 = (if f3 ≠ 0 then (f1, f2, f3) else ([], 0, 0)) := by
    intro g1 g2 g3 g4 g5 g6 g7 g8 ps n f1 f2 f3 c d t m
    by_cases h : f3 = 0
    · refine ⟨(d, ([], 0, 0), (ps, n, f1, f2, f3), c, d, (t, m)), ?_, ?_, ?_⟩
      · apply rdep_Parse_k7_of
        unfold rdep_Parse_k7_E
        have : (f3 != 0) = false := by rw [bne_eq_false_iff_eq]; exact h
        rw [this]
        rfl
      · rw [if_neg (by simpa using h)]
      · rw [if_neg (by simpa using h)]
    · refine ⟨(([], [], 0, [], []), (f1, f2, f3), (ps, n, f1, f2, f3), c, d, (t, m)), ?_, ?_, ?_⟩
      · apply rdep_Parse_k7_of
        unfold rdep_Parse_k7_E
        have : (f3 != 0) = true := by rw [bne_iff_ne]; exact h
        rw [this]
        rfl
      · rw [if_pos h]
      · rw [if_pos h]
  rcases (both hs s.length).1 0 0 0 0 (by omega) hA (by omega) (by omega) with ⟨d, n2, a2, c2, h1, h2, h3, h4, h5, h6⟩ | ⟨d, n2, b, c1, d2, a2, c2, at', e, h1, h2, h3, h4⟩
  · obtain ⟨t, m, n3, hlk, ht, hl, g1, g2, g3, g4⟩ := step hs h3
    have h1' : rdep_reader_dep ((T s 0).map tE) 0 [] 0 0 0 0 = _ := h1
    have h2' : drayageref15_State_dep s 0 [] 0 0 0 0 = _ := h2
    cases htn : t == [] with
    | true =>
      refine ⟨d, ([], 0, 0), ?_, ?_, h6⟩
      · obtain ⟨r, k1, k2, k3⟩ := k7 [] [] 0 [] [] [] 0 0 ((T s 0).map tE) (n2 : Int) [] 0 0 (c2 : Int) d t (m : Int)
        apply rdep_Parse_of
        unfold rdep_Parse_E
        simp only [parts_is s hs, Option.bind_some, h1', hlk, htn, Bool.not_true, cond_false, k1]
        rw [k2, k3]
        rfl
      · apply drayageref15_Parse_of
        unfold drayageref15_Parse_E
        have e0 : ((0 : Int) != 0) = false := rfl
        simp only [h2', Option.bind_some, e0, cond_false, hl, htn, Bool.not_true]
    | false =>
      refine ⟨([], [], 0, [], []), ([], (m : Int), 3), ?_, ?_, hw0⟩
      · obtain ⟨r, k1, k2, k3⟩ := k7 [] [] 0 [] [] [] 0 0 ((T s 0).map tE) (n2 : Int) [] (m : Int) 3 (c2 : Int) d t (m : Int)
        apply rdep_Parse_of
        unfold rdep_Parse_E
        simp only [parts_is s hs, Option.bind_some, h1', hlk, htn, Bool.not_false, cond_true, fail_new _ _ _ _ (show (3 : Int) ≠ 0 by decide), k1]
        rw [k2, k3]
        rfl
      · apply drayageref15_Parse_of
        unfold drayageref15_Parse_E
        have e0 : ((0 : Int) != 0) = false := rfl
        simp only [h2', Option.bind_some, e0, cond_false, hl, htn, Bool.not_false, cond_true, bad_is]
  · obtain ⟨t, m, n3, hlk, ht, hl, g1, g2, g3, g4⟩ := step hs h4
    have h1' : rdep_reader_dep ((T s 0).map tE) 0 [] 0 0 0 0 = _ := h1
    have h2' : drayageref15_State_dep s 0 [] 0 0 0 0 = _ := h2
    refine ⟨([], [], 0, [], []), ([], at', e), ?_, ?_, hw0⟩
    · obtain ⟨r, k1, k2, k3⟩ := k7 [] [] 0 [] [] [] 0 0 ((T s 0).map tE) (n2 : Int) [] at' e c1 d t (m : Int)
      apply rdep_Parse_of
      unfold rdep_Parse_E
      rw [if_pos h3] at k2 k3
      cases htn : t == [] with
      | true =>
        simp only [parts_is s hs, Option.bind_some, h1', hlk, htn, Bool.not_true, cond_false, k1]
        rw [k2, k3]
      | false =>
        simp only [parts_is s hs, Option.bind_some, h1', hlk, htn, Bool.not_false, cond_true, fail_kept _ _ _ _ _ _ _ h3, k1]
        rw [k2, k3]
    · apply drayageref15_Parse_of
      unfold drayageref15_Parse_E
      have e0 : (e != 0) = true := by rw [bne_iff_ne]; exact h3
      simp only [h2', Option.bind_some, e0, cond_true]
theorem pure_law (s : List UInt8) : drayagelaw15_RdepParses s = some true := by
  apply drayagelaw15_RdepParses_of
  unfold drayagelaw15_RdepParses_E
  rw [awake_true]
  simp only [Option.bind_some, Bool.not_true, cond_false]
  by_cases h : (4000 : Int) < (s.length : Int)
  · rw [decide_eq_true h]; rfl
  · rw [decide_eq_false h, cond_false]
    obtain ⟨d, f, h1, h2, h3⟩ := parse_both s (by omega)
    simp only [h1, h2, Option.bind_some, same_refl h3, cond_true, beq_self_eq_true, Bool.and_self]
end Go.Proofs.Ytomaefbhcpmbiaa
 end
