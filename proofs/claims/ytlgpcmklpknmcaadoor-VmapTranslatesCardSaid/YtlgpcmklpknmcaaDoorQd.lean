/- A core in a format: both prints; pieces of its text.
   The program's Parse: nothing fails; what is printed is read.
   The program's Parse: its answer. -/
import Derived.Test.YtlgpcmklpknmcaaDoorQc
 section
set_option linter.unusedVariables false
set_option linter.unusedSimpArgs false
namespace Go.Proofs.YtlgpcmklpknmcaaDoor
open Go Go.Eng Go.Proofs

theorem txt_two {f : Int} (h : f ≠ 3) (e : Int) (ns : List Int) (le pre : List UInt8) (pn rev : Int) : txt f e ns le pre pn rev = txt 1 e ns le pre pn rev := by
  unfold txt preT sg dash
  rw [if_neg h, if_neg h, if_neg (by decide : ¬ (1 : Int) = 3), if_neg (by decide : ¬ (1 : Int) = 3)]
/-- May a core be printed in a format? -/
def okR (f e : Int) (ns : List Int) (le pre : List UInt8) (pn rev : Int) : Bool :=
  okC e ns le pre pn rev && ((f != 3) || ((e == 0) && decide ((txt f e ns le pre pn rev).length ≤ 64)))
theorem okC_parts {e : Int} {ns : List Int} {le pre : List UInt8} {pn rev : Int} (h : okC e ns le pre pn rev = true) :
    0 < ns.length ∧ ns.length ≤ 64 ∧ leOk le = true ∧ preOk pre pn = true ∧ within e = true ∧ within pn = true ∧ within rev = true ∧ ns.all within = true ∧ (txt 1 e ns le pre pn rev).length ≤ 64 := by
  unfold okC at h
  simp only [Bool.and_eq_true, Bool.not_eq_true', Bool.or_eq_false_iff, decide_eq_false_iff_not] at h
  obtain ⟨⟨⟨⟨⟨a, b⟩, c⟩, d⟩, g1, g2, g3, g4⟩, k⟩ := h
  exact ⟨by omega, by omega, c, d, g1, g2, g3, g4, by omega⟩
theorem leOk_len {le : List UInt8} (h : leOk le = true) : le.length ≤ 1 := by
  match le, h with
  | [], _ => simp
  | [_], _ => simp
theorem idxL_mem : ∀ (l : List (List UInt8)) (x : List UInt8) (i : Nat), 0 ≤ idxL l x i → x ∈ l
  | [], x, i, h => by have : idxL [] x i = -1 := rfl; omega
  | y :: l, x, i, h => by
    by_cases e : (x == y) = true
    · rw [beq_iff_eq] at e; subst e; exact List.mem_cons_self
    · rw [idxL_no e] at h; exact List.mem_cons_of_mem _ (idxL_mem l x _ h)
theorem preOk_cases {pre : List UInt8} {pn : Int} (h : preOk pre pn = true) : (pre = [] ∧ pn = 0) ∨ pre ∈ words4 := by
  unfold preOk at h
  rw [Bool.or_eq_true, Bool.and_eq_true, decide_eq_true_eq, beq_iff_eq, beq_iff_eq] at h
  rcases h with h | h
  · exact .inl h
  · exact .inr (idxL_mem _ _ _ h)
theorem words4_len {w : List UInt8} (h : w ∈ words4) : w.length ≤ 5 := by
  have : ∀ w ∈ words4, w.length ≤ 5 := by decide
  exact this w h
theorem preOk_len {pre : List UInt8} {pn : Int} (h : preOk pre pn = true) : pre.length ≤ 5 := by
  rcases preOk_cases h with ⟨rfl, _⟩ | h
  · simp
  · exact words4_len h
theorem known_is (f : Int) : vmap_known f = some (decide (1 ≤ f) && decide (f ≤ 3)) := by
  apply vmap_known_of
  unfold vmap_known_E
  simp only [cond_some, cond_and, Option.bind_some]
theorem print_is {f : Int} (hf : 1 ≤ f ∧ f ≤ 3) (e : Int) (ns : List Int) (le pre : List UInt8) (pn rev : Int) (hn : ns.length ≤ 300) (hl : le.length ≤ 100) (hpl : pre.length ≤ 100) :
    vmap_Print f e (iA ns) le pre pn rev = some (if okR f e ns le pre pn rev then (txt f e ns le pre pn rev, 0) else ([], 11)) := by
  apply vmap_Print_of
  unfold vmap_Print_E
  rw [known_is, decide_eq_true hf.1, decide_eq_true hf.2, check_is _ _ _ _ _ _ hn hl hpl]
  unfold okR
  cases hC : okC e ns le pre pn rev with
  | false => rfl
  | true =>
    obtain ⟨_, h2, h3, h4, h5, h6, h7, h8, h9⟩ := okC_parts hC
    have e0 : ((0 : Int) != 0) = false := rfl
    simp only [Option.bind_some, Bool.and_self, Bool.not_true, cond_false, if_true, e0, text_is f e ns le pre pn rev hn h8 h5 h6 h7 hl hpl, cond_some, cond_and, cond_or, Bool.true_and]
    have hL : decide (((txt f e ns le pre pn rev).length : Int) ≤ 64) = decide ((txt f e ns le pre pn rev).length ≤ 64) := by rw [Bool.eq_iff_iff, decide_eq_true_iff, decide_eq_true_iff]; omega
    rw [hL]
    rcases Bool.eq_false_or_eq_true ((f != 3) || ((e == 0) && decide ((txt f e ns le pre pn rev).length ≤ 64))) with h | h <;> rw [h] <;> rfl
theorem rprint_is {f : Int} (hf : 1 ≤ f ∧ f ≤ 3) (e : Int) (ns : List Int) (le pre : List UInt8) (pn rev : Int) (hn : ns.length ≤ 300) (hl : le.length ≤ 100) (hpl : pre.length ≤ 100) :
    drayageref13_Print f e (iA ns) le pre pn rev = some (if okR f e ns le pre pn rev then (txt f e ns le pre pn rev, 0) else ([], 11)) := by
  apply drayageref13_Print_of
  unfold drayageref13_Print_E
  rw [decide_eq_false (by omega : ¬ f < 1), decide_eq_false (by omega : ¬ (3 : Int) < f), rcheck_is _ _ _ _ _ _ hn hl hpl]
  unfold okR
  cases hC : okC e ns le pre pn rev with
  | false => rfl
  | true =>
    obtain ⟨_, h2, h3, h4, h5, h6, h7, h8, h9⟩ := okC_parts hC
    have e0 : ((0 : Int) != 0) = false := rfl
    simp only [Option.bind_some, cond_false, if_true, e0, rtext_is f e ns le pre pn rev h2 h8 h5 h6 h7 hl hpl, cond_some, cond_and, cond_or, Bool.true_and]
    have hL : decide ((64 : Int) < ((txt f e ns le pre pn rev).length : Int)) = !(decide ((txt f e ns le pre pn rev).length ≤ 64)) := by rw [Bool.eq_iff_iff]; simp; omega
    rw [hL]
    by_cases h3f : f = 3
    · subst h3f
      have b1 : ((3 : Int) == 3) = true := rfl
      have b2 : ((3 : Int) != 3) = false := rfl
      rw [b1, b2]
      simp only [Bool.true_and, Bool.false_or]
      have hx : (e != 0) = !(e == 0) := rfl
      rw [hx]
      rcases Bool.eq_false_or_eq_true (decide ((txt 3 e ns le pre pn rev).length ≤ 64)) with h | h <;> rcases Bool.eq_false_or_eq_true (e == 0) with he | he <;> rw [h, he] <;> rfl
    · have b1 : (f == 3) = false := by simpa using h3f
      have b2 : (f != 3) = true := by simpa using h3f
      rw [b1, b2, txt_two h3f, decide_eq_true h9]
      rfl
/-! ### The pieces of a core's text -/
/-- Numbers behind the first. -/
def dT : List Int → List UInt8
  | [] => []
  | n :: t => 46 :: (dec n ++ dT t)
theorem nT_dT : ∀ (t : List Int) (i : Nat), nT (i + 1) t = dT t
  | [], i => rfl
  | n :: t, i => by rw [nT, nT_dT t (i + 1), dT, if_pos (by omega)]; simp
theorem nT_zero (n : Int) (t : List Int) : nT 0 (n :: t) = dec n ++ dT t := by
  rw [nT, nT_dT, if_neg (by omega)]; simp
/-- What is behind the letter. -/
def tl1 (f : Int) (rev : Int) : List UInt8 := dash f ++ dec rev
def tl2 (f : Int) (pre : List UInt8) (pn rev : Int) : List UInt8 := preT f pre pn ++ tl1 f rev
theorem txt_zero (f : Int) (n : Int) (t : List Int) (le pre : List UInt8) (pn rev : Int) : txt f 0 (n :: t) le pre pn rev = dec n ++ (dT t ++ (le ++ tl2 f pre pn rev)) := by
  unfold txt tl2 tl1 epT
  rw [if_pos rfl, nT_zero]; simp
theorem txt_ep {e : Int} (he : e ≠ 0) (f : Int) (ns : List Int) (le pre : List UInt8) (pn rev : Int) : txt f e ns le pre pn rev = dec e ++ 58 :: txt f 0 ns le pre pn rev := by
  unfold txt epT
  rw [if_pos rfl, if_neg he]; simp
/-- What neither is a digit, nor a letter, nor a point or a colon. -/
def sign1 (c : UInt8) : Bool := c == 45 || c == 95 || c == 126
theorem tl1_head (f rev : Int) : ∃ t, tl1 f rev = 45 :: t := by
  unfold tl1 dash; split <;> exact ⟨_, rfl⟩
theorem tl2_head (f : Int) (pre : List UInt8) (pn rev : Int) : ∃ c t, tl2 f pre pn rev = c :: t ∧ sign1 c = true := by
  unfold tl2 preT sg
  obtain ⟨t, ht⟩ := tl1_head f rev
  by_cases h : pre = []
  · rw [if_pos h, ht]; exact ⟨45, t, rfl, by decide⟩
  · rw [if_neg h]
    split
    · exact ⟨95, _, rfl, by decide⟩
    · exact ⟨126, _, rfl, by decide⟩
theorem le_cases {le : List UInt8} (h : leOk le = true) : le = [] ∨ ∃ c, le = [c] ∧ 97 ≤ c.toNat ∧ c.toNat ≤ 122 := by
  match le, h with
  | [], _ => exact .inl rfl
  | [c], h =>
    unfold leOk at h
    rw [Bool.and_eq_true, decide_eq_true_eq, decide_eq_true_eq] at h
    exact .inr ⟨c, rfl, h⟩
theorem rest_head {le : List UInt8} (h : leOk le = true) (f : Int) (pre : List UInt8) (pn rev : Int) : ∃ c t, le ++ tl2 f pre pn rev = c :: t ∧ (sign1 c = true ∨ (97 ≤ c.toNat ∧ c.toNat ≤ 122)) := by
  rcases le_cases h with rfl | ⟨c, rfl, h1, h2⟩
  · obtain ⟨c, t, h1, h2⟩ := tl2_head f pre pn rev
    exact ⟨c, t, h1, .inl h2⟩
  · exact ⟨c, _, rfl, .inr ⟨h1, h2⟩⟩
theorem sign1_dg (c : UInt8) : sign1 c = true → dg c = false ∧ c ≠ 46 ∧ c ≠ 58 ∧ (c.toNat < 97 ∨ 122 < c.toNat) := by
  refine fin_byte (p := fun c => sign1 c = true → dg c = false ∧ c ≠ 46 ∧ c ≠ 58 ∧ (c.toNat < 97 ∨ 122 < c.toNat)) ?_ c
  decide +kernel
theorem small_dg (c : UInt8) : 97 ≤ c.toNat ∧ c.toNat ≤ 122 → dg c = false ∧ c ≠ 46 ∧ c ≠ 58 := by
  refine fin_byte (p := fun c => 97 ≤ c.toNat ∧ c.toNat ≤ 122 → dg c = false ∧ c ≠ 46 ∧ c ≠ 58) ?_ c
  decide +kernel
theorem dg_not (c : UInt8) : dg c = true → c ≠ 58 ∧ c ≠ 114 ∧ c ≠ 46 ∧ c ≠ 45 := by
  refine fin_byte (p := fun c => dg c = true → c ≠ 58 ∧ c ≠ 114 ∧ c ≠ 46 ∧ c ≠ 45) ?_ c
  decide +kernel
theorem rest_stop {le : List UInt8} (h : leOk le = true) (f : Int) (pre : List UInt8) (pn rev : Int) : (le ++ tl2 f pre pn rev).takeWhile dg = [] ∧ (le ++ tl2 f pre pn rev).head? ≠ some 46 := by
  obtain ⟨c, t, h1, h2⟩ := rest_head h f pre pn rev
  rw [h1]
  have : dg c = false ∧ c ≠ 46 := by
    rcases h2 with h2 | h2
    · have := sign1_dg c h2; exact ⟨this.1, this.2.1⟩
    · have := small_dg c h2; exact ⟨this.1, this.2.1⟩
  rw [List.takeWhile_cons, this.1]
  exact ⟨rfl, by simpa using this.2⟩
theorem tl1_stop (f rev : Int) : (tl1 f rev).takeWhile dg = [] := by
  obtain ⟨t, h⟩ := tl1_head f rev
  rw [h]; rfl
theorem dT_stop {R : List UInt8} (h : R.takeWhile dg = []) (t : List Int) : (dT t ++ R).takeWhile dg = [] := by
  cases t with
  | nil => exact h
  | cons n t => rfl
theorem dec_mem {n : Int} {c : UInt8} (h : c ∈ dec n) : dg c = true := List.all_eq_true.1 (dec_dg n) c h
/-- No colon in numbers. -/
theorem dT_colon : ∀ t : List Int, (58 : UInt8) ∉ dT t
  | [] => List.not_mem_nil
  | n :: t => by
    intro h
    rw [dT] at h
    rcases List.mem_cons.1 h with h | h
    · cases h
    · rcases List.mem_append.1 h with h | h
      · exact (dg_not _ (dec_mem h)).1 rfl
      · exact dT_colon t h
theorem words_colon {w : List UInt8} (h : w ∈ words4) : (58 : UInt8) ∉ w := by
  have : ∀ w ∈ words4, (58 : UInt8) ∉ w := by decide
  exact this w h
theorem txt_colon {ns : List Int} {le pre : List UInt8} {pn : Int} (f rev : Int) (hn : 0 < ns.length) (hl : leOk le = true) (hp : preOk pre pn = true) : (58 : UInt8) ∉ txt f 0 ns le pre pn rev := by
  cases ns with
  | nil => simp at hn
  | cons n t =>
    rw [txt_zero]
    intro h
    rcases List.mem_append.1 h with h | h
    · exact (dg_not _ (dec_mem h)).1 rfl
    rcases List.mem_append.1 h with h | h
    · exact dT_colon t h
    rcases List.mem_append.1 h with h | h
    · rcases le_cases hl with rfl | ⟨c, rfl, h1⟩
      · cases h
      · rw [List.mem_singleton] at h
        exact (small_dg c h1).2.2 h.symm
    unfold tl2 tl1 at h
    rcases List.mem_append.1 h with h | h
    · unfold preT at h
      split at h
      · cases h
      · rename_i hpre
        have hw : pre ∈ words4 := by
          rcases preOk_cases hp with ⟨e, _⟩ | e
          · exact absurd e hpre
          · exact e
        rcases List.mem_append.1 h with h | h
        · rcases List.mem_append.1 h with h | h
          · unfold sg at h; split at h <;> simp at h
          · exact words_colon hw h
        · exact (dg_not _ (dec_mem h)).1 rfl
    · rcases List.mem_append.1 h with h | h
      · unfold dash at h; split at h <;> simp at h
      · exact (dg_not _ (dec_mem h)).1 rfl
end Go.Proofs.YtlgpcmklpknmcaaDoor
 end

 section
set_option linter.unusedVariables false
set_option linter.unusedSimpArgs false
namespace Go.Proofs.YtlgpcmklpknmcaaDoor
open Go Go.Eng Go.Proofs

theorem isPre_eq : ∀ (p s : List UInt8), (decide (p.length ≤ s.length) && (s.take p.length == p)) = p.isPrefixOf s
  | [], s => by rw [List.length_nil, List.take_zero, decide_eq_true (Nat.zero_le _)]; cases s <;> rfl
  | a :: p, [] => rfl
  | a :: p, b :: s => by
    have ih := isPre_eq p s
    rw [List.length_cons, List.length_cons, List.take_succ_cons]
    have e1 : decide (p.length + 1 ≤ s.length + 1) = decide (p.length ≤ s.length) := by rw [Bool.eq_iff_iff, decide_eq_true_iff, decide_eq_true_iff]; omega
    have e2 : ((b :: s.take p.length) == (a :: p)) = ((b == a) && (s.take p.length == p)) := rfl
    have e3 : (a :: p).isPrefixOf (b :: s) = ((a == b) && p.isPrefixOf s) := rfl
    have e4 : (b == a) = (a == b) := by rw [Bool.eq_iff_iff, beq_iff_eq, beq_iff_eq]; exact eq_comm
    rw [e1, e2, e3, ← ih, e4]
    cases decide (p.length ≤ s.length) <;> cases (a == b) <;> rfl
theorem hasp_is (s p : List UInt8) : strings_HasPrefix s p = some (p.isPrefixOf s) := by
  rw [prefix_is, isPre_eq]
theorem pre_len {p s : List UInt8} (h : p.isPrefixOf s = true) : p.length ≤ s.length := by
  rw [← isPre_eq, Bool.and_eq_true, decide_eq_true_eq] at h
  exact h.1
theorem ihasp_is (s p : List UInt8) : i_stringslite_HasPrefix s p = some (p.isPrefixOf s) := by
  rw [← isPre_eq]
  apply i_stringslite_HasPrefix_of
  unfold i_stringslite_HasPrefix_E
  by_cases h : p.length ≤ s.length
  · rw [decide_eq_true h, decide_eq_true (by omega), cutS_to h]; rfl
  · rw [decide_eq_false h, decide_eq_false (by omega)]; rfl
theorem cutp_is (s p : List UInt8) : strings_CutPrefix s p = some (if p.isPrefixOf s = true then (s.drop p.length, true) else (s, false)) := by
  apply strings_CutPrefix_of
  unfold strings_CutPrefix_E
  have : i_stringslite_CutPrefix s p = some (if p.isPrefixOf s = true then (s.drop p.length, true) else (s, false)) := by
    apply i_stringslite_CutPrefix_of
    unfold i_stringslite_CutPrefix_E
    rw [ihasp_is]
    by_cases h : p.isPrefixOf s = true
    · rw [h, if_pos rfl]
      simp only [Option.bind_some, Bool.not_true, cond_false]
      rw [cutS_from (pre_len h)]
    · have h' : p.isPrefixOf s = false := Bool.eq_false_iff.2 h
      rw [h', if_neg (by simp)]; rfl
  rw [this]
  by_cases h : p.isPrefixOf s = true
  · rw [if_pos h]; rfl
  · rw [if_neg h]; rfl
def trimP (p s : List UInt8) : List UInt8 := if p.isPrefixOf s = true then s.drop p.length else s
theorem trimp_is (s p : List UInt8) : strings_TrimPrefix s p = some (trimP p s) := by
  apply strings_TrimPrefix_of
  unfold strings_TrimPrefix_E
  have : i_stringslite_TrimPrefix s p = some (trimP p s) := by
    apply i_stringslite_TrimPrefix_of
    unfold i_stringslite_TrimPrefix_E trimP
    rw [ihasp_is]
    by_cases h : p.isPrefixOf s = true
    · rw [h, if_pos rfl]
      simp only [Option.bind_some, cond_true]
      rw [cutS_from (pre_len h)]
    · have h' : p.isPrefixOf s = false := Bool.eq_false_iff.2 h
      rw [h', if_neg (by simp)]; rfl
  rw [this]; rfl
theorem trimP_len (p s : List UInt8) : (trimP p s).length ≤ s.length := by
  unfold trimP; split
  · rw [List.length_drop]; omega
  · exact Nat.le_refl _
/-- The number with which a text begins, and the rest. -/
noncomputable def tk (s : List UInt8) : Int × List UInt8 := (vmap_take s).getD (0, [])
theorem tk_is {s : List UInt8} (hs : s.length ≤ 100000) : vmap_take s = some (tk s) ∧ (tk s).2.length ≤ s.length := by
  obtain ⟨n, r, h1, h2⟩ := take_tot s hs
  unfold tk
  rw [h1]; exact ⟨rfl, h2⟩
theorem tk_dec {n : Int} (hn : within n = true) {r : List UInt8} (hr : r.takeWhile dg = []) (hl : r.length ≤ 90000) : tk (dec n ++ r) = (n, r) := by
  unfold tk
  rw [take_dec hn hr hl]; rfl
/-! ### The numbers -/
abbrev Z6 : Int × List AV × List UInt8 × List UInt8 × Int × Int := (0, [], [], [], 0, 0)
theorem l10_tot (f : Int) (s : List UInt8) (e : Int) : ∀ (n : Nat) (rest : List UInt8) (ns : List Int), rest.length ≤ n → ns.length + rest.length ≤ 2000 →
    ∃ rest' ns', vmap_Parse_l10 f s rest 0 [] [] [] 0 0 e (iA ns) [] [] 0 0 = some (f, s, rest', Z6, (e, iA ns', [], [], 0, 0)) ∧ rest'.length ≤ rest.length ∧ ns'.length ≤ ns.length + rest.length + 1
  | n, rest, ns, hn, hb => by
    obtain ⟨h1, h2⟩ := tk_is (s := rest) (by omega)
    have hR : ∀ K : Option (Int × List UInt8 × List UInt8 × (Int × List AV × List UInt8 × List UInt8 × Int × Int) × (Int × List AV × List UInt8 × List UInt8 × Int × Int)), roomL ((iA ns).length + ([AV.int .i64 (tk rest).1]).length) 8 K = K := fun K => room_of (by simp; omega) (by omega) K
    have hA : iA ns ++ [AV.int .i64 (tk rest).1] = iA (ns ++ [(tk rest).1]) := by simp
    cases hc : (cond (decide ((tk rest).1 < 0)) true (!(([46] : List UInt8).isPrefixOf (tk rest).2))) with
    | true =>
      refine ⟨(tk rest).2, ns ++ [(tk rest).1], vmap_Parse_l10_of ?_, h2, by rw [List.length_append, List.length_singleton]; omega⟩
      unfold vmap_Parse_l10_E
      rw [h1]
      simp only [Option.bind_some, hR, hasp_is, cond_some, hc, cond_true, hA]
    | false =>
      have hp : ([46] : List UInt8).isPrefixOf (tk rest).2 = true := by
        cases hh : ([46] : List UInt8).isPrefixOf (tk rest).2
        · rw [hh] at hc; cases h0 : decide ((tk rest).1 < 0) <;> rw [h0] at hc <;> cases hc
        · rfl
      have hlen := pre_len hp
      simp only [List.length_singleton] at hlen
      cases n with
      | zero => omega
      | succ n =>
        obtain ⟨rest', ns', g1, g2, g3⟩ := l10_tot f s e n ((tk rest).2.drop 1) (ns ++ [(tk rest).1]) (by rw [List.length_drop]; omega) (by rw [List.length_drop]; simp; omega)
        rw [List.length_drop] at g2 g3
        refine ⟨rest', ns', vmap_Parse_l10_of ?_, by omega, by simp at g3; omega⟩
        unfold vmap_Parse_l10_E
        rw [h1]
        have hcut : ∀ K : List UInt8 → Option (Int × List UInt8 × List UInt8 × (Int × List AV × List UInt8 × List UInt8 × Int × Int) × (Int × List AV × List UInt8 × List UInt8 × Int × Int)), cutS (tk rest).2 1 ((tk rest).2.length : Int) K = K ((tk rest).2.drop 1) := fun K => cutS_from (a := 1) hlen K
        simp only [Option.bind_some, hR, hasp_is, cond_some, hc, cond_false, hcut, hA]
        exact g1
theorem pre_cons (a : UInt8) (s : List UInt8) : ([a] : List UInt8).isPrefixOf s = (s.head? == some a) := by
  cases s with
  | nil => rfl
  | cons b t =>
    have e3 : ([a] : List UInt8).isPrefixOf (b :: t) = ((a == b) && true) := by cases t <;> rfl
    have e4 : (a == b) = (b == a) := by rw [Bool.eq_iff_iff, beq_iff_eq, beq_iff_eq]; exact eq_comm
    rw [e3, Bool.and_true, e4]; rfl
theorem l10_dec (f : Int) (s : List UInt8) (e : Int) (R : List UInt8) (h1 : R.takeWhile dg = []) (h2 : R.head? ≠ some 46) (hR : R.length ≤ 1000) : ∀ (t : List Int) (n : Int) (ns : List Int), within n = true → t.all within = true → ns.length + t.length ≤ 1000 →
    vmap_Parse_l10 f s (dec n ++ (dT t ++ R)) 0 [] [] [] 0 0 e (iA ns) [] [] 0 0 = some (f, s, R, Z6, (e, iA (ns ++ n :: t), [], [], 0, 0))
  | t, n, ns, hn, ht, hb => by
    have hlen : (dT t ++ R).length ≤ 90000 := by
      have := nT_len t 1 ht
      rw [nT_dT t 0] at this
      rw [List.length_append]; omega
    have e1 := take_dec hn (dT_stop h1 t) hlen
    obtain ⟨k, hk, _⟩ := within_nat hn
    have hneg : decide (n < 0) = false := decide_eq_false (by omega)
    have hA : iA ns ++ [AV.int .i64 n] = iA (ns ++ [n]) := by simp
    have hRm : ∀ K : Option (Int × List UInt8 × List UInt8 × (Int × List AV × List UInt8 × List UInt8 × Int × Int) × (Int × List AV × List UInt8 × List UInt8 × Int × Int)), roomL ((iA ns).length + ([AV.int .i64 n]).length) 8 K = K := fun K => room_of (by simp; omega) (by omega) K
    cases t with
    | nil =>
      have hp : ([46] : List UInt8).isPrefixOf R = false := by rw [pre_cons, beq_eq_false_iff_ne]; exact h2
      apply vmap_Parse_l10_of
      unfold vmap_Parse_l10_E
      rw [e1]
      simp only [Option.bind_some, hRm, hneg, hasp_is, dT, List.nil_append, hp, cond_some, cond_false, Bool.not_false, cond_true, hA]
    | cons m t =>
      rw [List.all_cons, Bool.and_eq_true] at ht
      have ih := l10_dec f s e R h1 h2 hR t m (ns ++ [n]) ht.1 ht.2 (by simp at hb ⊢; omega)
      have hp : ([46] : List UInt8).isPrefixOf (dT (m :: t) ++ R) = true := by rw [pre_cons]; rfl
      have hcut : ∀ K : List UInt8 → Option (Int × List UInt8 × List UInt8 × (Int × List AV × List UInt8 × List UInt8 × Int × Int) × (Int × List AV × List UInt8 × List UInt8 × Int × Int)), cutS (dT (m :: t) ++ R) 1 ((dT (m :: t) ++ R).length : Int) K = K (dec m ++ (dT t ++ R)) := fun K => by
        rw [dT, List.cons_append, cutS_one, List.append_assoc]
      apply vmap_Parse_l10_of
      unfold vmap_Parse_l10_E
      rw [e1]
      simp only [Option.bind_some, hRm, hneg, hasp_is, hp, cond_some, cond_false, Bool.not_true, hcut, hA]
      rw [ih]
      simp
/-! ### The words -/
abbrev St := List UInt8 × List UInt8 × Int
noncomputable def stp (x p : List UInt8) (st : St) : St := if (x.isPrefixOf st.1 && st.2.1 == []) = true then ((tk (st.1.drop x.length)).2, p, (tk (st.1.drop x.length)).1) else st
theorem stp_len {x p : List UInt8} {st : St} (h : st.1.length ≤ 100000) : (stp x p st).1.length ≤ st.1.length := by
  unfold stp; split
  · have := (tk_is (s := st.1.drop x.length) (by rw [List.length_drop]; omega)).2
    rw [List.length_drop] at this
    exact Nat.le_trans this (by omega)
  · exact Nat.le_refl _
theorem stp_pre {x p : List UInt8} {st : St} (hp : p.length ≤ 5) (h : st.2.1.length ≤ 5) : (stp x p st).2.1.length ≤ 5 := by
  unfold stp; split
  · exact hp
  · exact h
abbrev S2 : List AV := [AV.str [126], AV.str [95]]
theorem l21_one {f : Int} {s rest p : List UInt8} {W : List AV} {len oi : Int} {e : Int} {A : List AV} {le pre : List UInt8} {pn rv : Int} {x : List UInt8} (hx : x.length ≤ 10) (hp : p.length ≤ 10) (hr : rest.length ≤ 100000)
    {i j : Int} (hi : decide (i < 2) = true) (hj : IntKind.wrap .i64 (i + 1) = j) (hg : ∀ {R : Type} (K : AV → Option R), getL S2 i K = K (AV.str x)) {w}
    (h : vmap_Parse_l21 f s (stp (x ++ p) p (rest, pre, pn)).1 p W len oi S2 2 j 0 [] [] [] 0 0 e A le (stp (x ++ p) p (rest, pre, pn)).2.1 (stp (x ++ p) p (rest, pre, pn)).2.2 rv = some w) :
    vmap_Parse_l21 f s rest p W len oi S2 2 i 0 [] [] [] 0 0 e A le pre pn rv = some w := by
  apply vmap_Parse_l21_of
  unfold vmap_Parse_l21_E
  rw [hi, hg]
  simp only [dStr, cond_true, catS_of (show x.length + p.length ≤ 1000000 by omega), cutp_is, Option.bind_some, hj]
  unfold stp at h
  by_cases h1 : (x ++ p).isPrefixOf rest = true
  · rw [if_pos h1]
    rw [h1, Bool.true_and] at h
    simp only [cond_true, Option.bind_some]
    by_cases h2 : (pre == []) = true
    · rw [h2, if_pos rfl] at h
      have ht := (tk_is (s := rest.drop (x ++ p).length) (by rw [List.length_drop]; omega)).1
      rw [h2]
      simp only [cond_true, ht, Option.bind_some]
      exact h
    · rw [if_neg h2] at h
      have h2' : (pre == []) = false := by simpa using h2
      rw [h2']
      exact h
  · have h1' : (x ++ p).isPrefixOf rest = false := Bool.eq_false_iff.2 h1
    rw [if_neg h1]
    rw [h1', Bool.false_and, if_neg (by simp)] at h
    exact h
noncomputable def stp2 (p : List UInt8) (st : St) : St := stp ([95] ++ p) p (stp ([126] ++ p) p st)
theorem l21_is {f : Int} {s rest p : List UInt8} {W : List AV} {len oi : Int} {e : Int} {A : List AV} {le pre : List UInt8} {pn rv : Int} (hp : p.length ≤ 10) (hr : rest.length ≤ 100000) :
    vmap_Parse_l21 f s rest p W len oi S2 2 0 0 [] [] [] 0 0 e A le pre pn rv = some (f, s, (stp2 p (rest, pre, pn)).1, W, len, oi, Z6, (e, A, le, (stp2 p (rest, pre, pn)).2.1, (stp2 p (rest, pre, pn)).2.2, rv)) := by
  have hr2 : (stp ([126] ++ p) p (rest, pre, pn)).1.length ≤ 100000 := Nat.le_trans (stp_len (st := (rest, pre, pn)) hr) hr
  refine l21_one (x := [126]) (j := 1) (by simp) hp hr (by decide) (by decide) (fun K => getL_get (i := 0) rfl K) ?_
  refine l21_one (x := [95]) (j := 2) (by simp) hp hr2 (by decide) (by decide) (fun K => getL_get (i := 1) rfl K) ?_
  apply vmap_Parse_l21_of
  unfold vmap_Parse_l21_E
  rfl
theorem l18_one {f : Int} {s rest p : List UInt8} {e : Int} {A : List AV} {le pre : List UInt8} {pn rv : Int} (hp : p.length ≤ 10) (hr : rest.length ≤ 100000)
    {i j : Int} (hi : decide (i < 4) = true) (hj : IntKind.wrap .i64 (i + 1) = j) (hg : ∀ {R : Type} (K : AV → Option R), getL (words4.map AV.str) i K = K (AV.str p)) {w}
    (h : vmap_Parse_l18 f s (stp2 p (rest, pre, pn)).1 (words4.map AV.str) 4 j 0 [] [] [] 0 0 e A le (stp2 p (rest, pre, pn)).2.1 (stp2 p (rest, pre, pn)).2.2 rv = some w) :
    vmap_Parse_l18 f s rest (words4.map AV.str) 4 i 0 [] [] [] 0 0 e A le pre pn rv = some w := by
  apply vmap_Parse_l18_of
  unfold vmap_Parse_l18_E
  rw [hi, hg]
  have h21 := l21_is (f := f) (s := s) (W := words4.map AV.str) (len := 4) (oi := i) (e := e) (A := A) (le := le) (pre := pre) (pn := pn) (rv := rv) hp hr
  have h21' : vmap_Parse_l21 f s rest p (words4.map AV.str) 4 i ([AV.str [126], AV.str [95]]) ((List.length ([AV.str [126], AV.str [95]] : List AV) : Nat) : Int) 0 0 [] [] [] 0 0 e A le pre pn rv = _ := h21
  simp only [dStr, cond_true]
  rw [h21']
  simp only [Option.bind_some, hj]
  exact h
noncomputable def scanP (st : St) : St := stp2 [114, 99] (stp2 [112, 114, 101] (stp2 [98, 101, 116, 97] (stp2 [97, 108, 112, 104, 97] st)))
theorem stp2_len {p : List UInt8} {st : St} (h : st.1.length ≤ 100000) : (stp2 p st).1.length ≤ st.1.length := by
  unfold stp2
  have h1 := stp_len (x := [126] ++ p) (p := p) h
  exact Nat.le_trans (stp_len (Nat.le_trans h1 h)) h1
theorem stp2_pre {p : List UInt8} {st : St} (hp : p.length ≤ 5) (h : st.2.1.length ≤ 5) : (stp2 p st).2.1.length ≤ 5 := stp_pre hp (stp_pre hp h)
theorem scanP_len {st : St} (h : st.1.length ≤ 100000) : (scanP st).1.length ≤ st.1.length := by
  have h1 := stp2_len (p := [97, 108, 112, 104, 97]) h
  have h2 := stp2_len (p := [98, 101, 116, 97]) (st := stp2 [97, 108, 112, 104, 97] st) (by omega)
  have h3 := stp2_len (p := [112, 114, 101]) (st := stp2 [98, 101, 116, 97] (stp2 [97, 108, 112, 104, 97] st)) (by omega)
  have h4 := stp2_len (p := [114, 99]) (st := stp2 [112, 114, 101] (stp2 [98, 101, 116, 97] (stp2 [97, 108, 112, 104, 97] st))) (by omega)
  unfold scanP
  omega
theorem scanP_pre {st : St} (h : st.2.1.length ≤ 5) : (scanP st).2.1.length ≤ 5 := stp2_pre (by simp) (stp2_pre (by simp) (stp2_pre (by simp) (stp2_pre (by simp) h)))
theorem l18_is {f : Int} {s rest : List UInt8} {e : Int} {A : List AV} {le pre : List UInt8} {pn rv : Int} (hr : rest.length ≤ 100000) :
    vmap_Parse_l18 f s rest (words4.map AV.str) 4 0 0 [] [] [] 0 0 e A le pre pn rv = some (f, s, (scanP (rest, pre, pn)).1, Z6, (e, A, le, (scanP (rest, pre, pn)).2.1, (scanP (rest, pre, pn)).2.2, rv)) := by
  have h1 := stp2_len (p := [97, 108, 112, 104, 97]) (st := (rest, pre, pn)) hr
  have h2 := stp2_len (p := [98, 101, 116, 97]) (st := stp2 [97, 108, 112, 104, 97] (rest, pre, pn)) (Nat.le_trans h1 hr)
  have h3 := stp2_len (p := [112, 114, 101]) (st := stp2 [98, 101, 116, 97] (stp2 [97, 108, 112, 104, 97] (rest, pre, pn))) (Nat.le_trans h2 (Nat.le_trans h1 hr))
  refine l18_one (p := [97, 108, 112, 104, 97]) (j := 1) (by simp) hr (by decide) (by decide) (fun K => getL_get (i := 0) rfl K) ?_
  refine l18_one (p := [98, 101, 116, 97]) (j := 2) (by simp) (Nat.le_trans h1 hr) (by decide) (by decide) (fun K => getL_get (i := 1) rfl K) ?_
  refine l18_one (p := [112, 114, 101]) (j := 3) (by simp) (Nat.le_trans h2 (Nat.le_trans h1 hr)) (by decide) (by decide) (fun K => getL_get (i := 2) rfl K) ?_
  refine l18_one (p := [114, 99]) (j := 4) (by simp) (Nat.le_trans h3 (Nat.le_trans h2 (Nat.le_trans h1 hr))) (by decide) (by decide) (fun K => getL_get (i := 3) rfl K) ?_
  apply vmap_Parse_l18_of
  unfold vmap_Parse_l18_E
  rfl
end Go.Proofs.YtlgpcmklpknmcaaDoor
 end

 section
set_option linter.unusedVariables false
set_option linter.unusedSimpArgs false
namespace Go.Proofs.YtlgpcmklpknmcaaDoor
open Go Go.Eng Go.Proofs

/-- The number behind the dash. -/
noncomputable def revOf (rest : List UInt8) : Int := (tk (trimP [114] (trimP [45] rest))).1
/-- What a reader says, in the end. -/
def endV (f : Int) (s : List UInt8) (e : Int) (ns : List Int) (le pre : List UInt8) (pn rv : Int) : Bool := okR f e ns le pre pn rv && (txt f e ns le pre pn rv == s)
theorem k17_is' {f : Int} (hf : 1 ≤ f ∧ f ≤ 3) {s rest : List UInt8} {e : Int} {ns : List Int} {le : List UInt8} {rv : Int} (hr : rest.length ≤ 100000) (hn : ns.length ≤ 300) (hl : le.length ≤ 100) :
    ∃ (b : Bool) (q : Int × List AV × List UInt8 × List UInt8 × Int × Int), b = endV f s e ns le (scanP (rest, [], 0)).2.1 (scanP (rest, [], 0)).2.2 (revOf (scanP (rest, [], 0)).1) ∧
    vmap_Parse_k17 f s rest 0 [] [] [] 0 0 e (iA ns) le [] 0 rv =
      some (cond b (0, (e, iA ns, le, (scanP (rest, [], 0)).2.1, (scanP (rest, [], 0)).2.2, revOf (scanP (rest, [], 0)).1), q) (11, Z6, q)) := by
  refine ⟨_, (e, iA ns, le, (scanP (rest, [], 0)).2.1, (scanP (rest, [], 0)).2.2, revOf (scanP (rest, [], 0)).1), rfl, vmap_Parse_k17_of ?_⟩
  have hpl : (scanP (rest, [], 0)).2.1.length ≤ 100 := Nat.le_trans (scanP_pre (st := (rest, [], 0)) (by simp)) (by omega)
  have hsl := scanP_len (st := (rest, [], 0)) hr
  have ht : vmap_take (trimP [114] (trimP [45] (scanP (rest, [], 0)).1)) = some (tk (trimP [114] (trimP [45] (scanP (rest, [], 0)).1))) := (tk_is (Nat.le_trans (trimP_len _ _) (Nat.le_trans (trimP_len _ _) (Nat.le_trans hsl hr)))).1
  unfold vmap_Parse_k17_E
  have h18 : vmap_Parse_l18 f s rest (words4.map AV.str) ((words4.map AV.str).length : Int) 0 0 [] [] [] 0 0 e (iA ns) le [] 0 rv = _ := l18_is (f := f) (s := s) (e := e) (A := iA ns) (le := le) (pre := []) (pn := 0) (rv := rv) hr
  simp only [pres_is, Option.bind_some, h18, trimp_is, ht]
  have hp := print_is hf e ns le (scanP (rest, [], 0)).2.1 (scanP (rest, [], 0)).2.2 (revOf (scanP (rest, [], 0)).1) hn hl hpl
  have hp' : vmap_Print f e (iA ns) le (scanP (rest, [], 0)).2.1 (scanP (rest, [], 0)).2.2 (tk (trimP [114] (trimP [45] (scanP (rest, [], 0)).1))).1 = _ := hp
  rw [hp']
  unfold endV
  cases hR : okR f e ns le (scanP (rest, [], 0)).2.1 (scanP (rest, [], 0)).2.2 (revOf (scanP (rest, [], 0)).1) with
  | false => rfl
  | true =>
    have e0 : ((0 : Int) != 0) = false := rfl
    simp only [if_true, Option.bind_some, e0, cond_false, Bool.true_and]
    rcases Bool.eq_false_or_eq_true (txt f e ns le (scanP (rest, [], 0)).2.1 (scanP (rest, [], 0)).2.2 (revOf (scanP (rest, [], 0)).1) == s) with h | h
    · rw [h]; rfl
    · rw [h]; rfl
/-- The letter, and what is behind it. -/
def lett : List UInt8 → List UInt8 × List UInt8
  | [] => ([], [])
  | c :: t => if 97 ≤ c.toNat ∧ c.toNat ≤ 122 then ([c], t) else ([], c :: t)
noncomputable def stR (rest : List UInt8) : St := scanP ((lett rest).2, [], 0)
theorem k10_is {f : Int} (hf : 1 ≤ f ∧ f ≤ 3) {s rest rest1 : List UInt8} {e : Int} {ns : List Int} (h10 : vmap_Parse_l10 f s rest 0 [] [] [] 0 0 e [] [] [] 0 0 = some (f, s, rest1, Z6, (e, iA ns, [], [], 0, 0))) (hr : rest1.length ≤ 100000) (hn : ns.length ≤ 300) :
    ∃ (b : Bool) (q : Int × List AV × List UInt8 × List UInt8 × Int × Int), b = endV f s e ns (lett rest1).1 (stR rest1).2.1 (stR rest1).2.2 (revOf (stR rest1).1) ∧
    vmap_Parse_k10 f s rest 0 [] [] [] 0 0 e [] [] [] 0 0 =
      some (cond b (0, (e, iA ns, (lett rest1).1, (stR rest1).2.1, (stR rest1).2.2, revOf (stR rest1).1), q) (11, Z6, q)) := by
  unfold stR
  cases rest1 with
  | nil =>
    obtain ⟨b, q, h1, h2⟩ := k17_is' hf (s := s) (rest := []) (e := e) (ns := ns) (le := []) (rv := 0) (by simp) hn (by simp)
    have hw : ((!(([] : List UInt8) == []))) = false := rfl
    refine ⟨b, q, h1, vmap_Parse_k10_of ?_⟩
    unfold vmap_Parse_k10_E
    simp only [h10, Option.bind_some, hw, cond_false, h2]
    cases b <;> rfl
  | cons c t =>
    have hw : ((!((c :: t) == ([] : List UInt8)))) = true := rfl
    have e1 : decide ((97 : Int) ≤ (UInt8.toNat c : Int)) = decide (97 ≤ c.toNat) := by rw [Bool.eq_iff_iff, decide_eq_true_iff, decide_eq_true_iff]; omega
    have e2 : decide ((UInt8.toNat c : Int) ≤ 122) = decide (c.toNat ≤ 122) := by rw [Bool.eq_iff_iff, decide_eq_true_iff, decide_eq_true_iff]; omega
    by_cases hc : 97 ≤ c.toNat ∧ c.toNat ≤ 122
    · have hle : lett (c :: t) = ([c], t) := if_pos hc
      have hcut : ∀ K : List UInt8 → Option (Int × (Int × List AV × List UInt8 × List UInt8 × Int × Int) × (Int × List AV × List UInt8 × List UInt8 × Int × Int)), cutS (c :: t) 0 1 K = K [c] := fun K => cutS_to (s := c :: t) (b := 1) (by simp) K
      obtain ⟨b, q, h1, h2⟩ := k17_is' hf (s := s) (rest := t) (e := e) (ns := ns) (le := [c]) (rv := 0) (by simp at hr; omega) hn (by simp)
      simp only [hle]
      refine ⟨b, q, h1, vmap_Parse_k10_of ?_⟩
      unfold vmap_Parse_k10_E
      simp only [h10, Option.bind_some, hw, cond_true, idxS_zero, e1, e2, decide_eq_true hc.1, decide_eq_true hc.2, hcut, cutS_one, h2]
      all_goals (cases b <;> rfl)
    · have hle : lett (c :: t) = ([], c :: t) := if_neg hc
      obtain ⟨b, q, h1, h2⟩ := k17_is' hf (s := s) (rest := c :: t) (e := e) (ns := ns) (le := []) (rv := 0) hr hn (by simp)
      have hx : (cond (decide (97 ≤ c.toNat)) (decide (c.toNat ≤ 122)) false) = false := by
        rw [cond_and, Bool.eq_false_iff]
        intro h
        rw [Bool.and_eq_true, decide_eq_true_eq, decide_eq_true_eq] at h
        exact hc h
      simp only [hle]
      refine ⟨b, q, h1, vmap_Parse_k10_of ?_⟩
      unfold vmap_Parse_k10_E
      simp only [h10, Option.bind_some, hw, cond_true, idxS_zero, e1, e2, cond_some, hx, cond_false, h2]
      all_goals (cases b <;> rfl)
/-- A reader's answer: a core that is printed as the text, or refused. -/
def Ans (f : Int) (s : List UInt8) (r : (Int × List AV × List UInt8 × List UInt8 × Int × Int) × Int) : Prop :=
  (∃ e ns le pre pn rv, endV f s e ns le pre pn rv = true ∧ r = ((e, iA ns, le, pre, pn, rv), 0)) ∨ r = (Z6, 11)
/-- From the epoch and the numbers on. -/
theorem tail_is {f : Int} (hf : 1 ≤ f ∧ f ≤ 3) {s rest rest1 : List UInt8} {e : Int} {ns : List Int} (h10 : vmap_Parse_l10 f s rest 0 [] [] [] 0 0 e [] [] [] 0 0 = some (f, s, rest1, Z6, (e, iA ns, [], [], 0, 0))) (hr : rest1.length ≤ 100000) (hn : ns.length ≤ 300) :
    ∃ r, ((vmap_Parse_k10 f s rest 0 [] [] [] 0 0 e [] [] [] 0 0).bind fun r120 => (some ((r120.2.1.1, r120.2.1.2.1, r120.2.1.2.2.1, r120.2.1.2.2.2.1, r120.2.1.2.2.2.2.1, r120.2.1.2.2.2.2.2), r120.1))) = some r ∧ Ans f s r ∧
      (endV f s e ns (lett rest1).1 (stR rest1).2.1 (stR rest1).2.2 (revOf (stR rest1).1) = true → r = ((e, iA ns, (lett rest1).1, (stR rest1).2.1, (stR rest1).2.2, revOf (stR rest1).1), 0)) := by
  obtain ⟨b, q, h1, h2⟩ := k10_is hf h10 hr hn
  rw [h2]
  generalize (lett rest1).1 = le at h1 ⊢
  generalize (stR rest1).2.1 = pre at h1 ⊢
  generalize (stR rest1).2.2 = pn at h1 ⊢
  generalize revOf (stR rest1).1 = rv at h1 ⊢
  rw [← h1]
  cases b with
  | false => exact ⟨(Z6, 11), rfl, .inr rfl, fun h => nomatch h⟩
  | true => exact ⟨((e, iA ns, le, pre, pn, rv), 0), rfl, .inl ⟨e, ns, le, pre, pn, rv, h1.symm, rfl⟩, fun _ => rfl⟩
/-- Nothing fails, and what is answered is right. -/
theorem parse_tot {f : Int} {s : List UInt8} (hf : 1 ≤ f ∧ f ≤ 3) (hs : s.length ≤ 100) (hc : version_Check f s = some 0) : ∃ r, vmap_Parse f s = some r ∧ Ans f s r := by
  have e0 : ((0 : Int) != 0) = false := rfl
  rcases indexByte_cases 58 s with ⟨h1, h2⟩ | ⟨a, b, h1, h2, h3⟩
  · obtain ⟨rest', ns', g1, g2, g3⟩ := l10_tot f s 0 s.length s [] (Nat.le_refl _) (by simp; omega)
    simp only [List.length_nil] at g3
    obtain ⟨r, k1, k2, _⟩ := tail_is hf g1 (by omega) (by omega)
    refine ⟨r, vmap_Parse_of ?_, k2⟩
    unfold vmap_Parse_E
    rw [hc, cut_colon_none h1]
    simp only [Option.bind_some, e0, cond_false]
    exact k1
  · have hl : s.length = a.length + 1 + b.length := by rw [h1]; simp; omega
    have ht := tk_is (s := a) (by omega)
    obtain ⟨rest', ns', g1, g2, g3⟩ := l10_tot f s (tk a).1 b.length b [] (Nat.le_refl _) (by simp; omega)
    simp only [List.length_nil] at g3
    obtain ⟨r, k1, k2, _⟩ := tail_is hf g1 (by omega) (by omega)
    have hcut : strings_Cut s [58] = some (a, b, true) := by have hs' := hs; rw [h1] at h3 hs' ⊢; exact cut_colon h3 (by omega)
    refine ⟨r, vmap_Parse_of ?_, k2⟩
    unfold vmap_Parse_E
    rw [hc, hcut]
    simp only [Option.bind_some, e0, cond_false, cond_true, ht.1]
    exact k1
/-! ### What is printed is read -/
theorem stp_miss {x p : List UInt8} {st : St} (h : x.isPrefixOf st.1 = false) : stp x p st = st := by
  unfold stp; rw [h, Bool.false_and]; rfl
theorem stp_done {x p : List UInt8} {st : St} (h : st.2.1 ≠ []) : stp x p st = st := by
  unfold stp
  have : (st.2.1 == []) = false := by simpa using h
  rw [this, Bool.and_false]; rfl
theorem stp2_done {p : List UInt8} {st : St} (h : st.2.1 ≠ []) : stp2 p st = st := by
  unfold stp2; rw [stp_done (x := [126] ++ p) h, stp_done h]
theorem scan_none {st : St} {t : List UInt8} (h : st.1 = 45 :: t) : scanP st = st := by
  have h1 : ∀ p : List UInt8, stp2 p st = st := fun p => by
    unfold stp2
    rw [stp_miss (x := [126] ++ p) (by rw [h]; rfl), stp_miss (by rw [h]; rfl)]
  unfold scanP
  rw [h1, h1, h1, h1]
theorem stp_hit {x p T : List UInt8} {pn n : Int} (hn : within n = true) (hT : T.takeWhile dg = []) (hl : T.length ≤ 90000) : stp x p (x ++ (dec n ++ T), [], pn) = (T, p, n) := by
  have h1 : x.isPrefixOf (x ++ (dec n ++ T)) = true := by rw [List.isPrefixOf_iff_prefix]; exact List.prefix_append _ _
  unfold stp
  rw [h1, List.drop_left, tk_dec hn hT hl]
  rfl
theorem stp2_hit {x p T : List UInt8} {pn n : Int} (hx : x = [126] ∨ x = [95]) (hp : p ≠ []) (hn : within n = true) (hT : T.takeWhile dg = []) (hl : T.length ≤ 90000) : stp2 p ((x ++ p) ++ (dec n ++ T), [], pn) = (T, p, n) := by
  unfold stp2
  rcases hx with rfl | rfl
  · rw [stp_hit hn hT hl, stp_done (st := (T, p, n)) hp]
  · rw [stp_miss (x := [126] ++ p) (by rfl), stp_hit hn hT hl]
theorem stp2_miss {x p q R : List UInt8} {pn : Int} {a b : UInt8} (hx : x = [126] ∨ x = [95]) (hp : p.head? = some a) (hq : q.head? = some b) (h : a ≠ b) : stp2 p (x ++ q ++ R, [], pn) = (x ++ q ++ R, [], pn) := by
  have key : ∀ y : UInt8, ([y] ++ p).isPrefixOf (x ++ q ++ R) = false := fun y => by
    cases p with
    | nil => cases hp
    | cons a' p =>
      cases q with
      | nil => cases hq
      | cons b' q =>
        injection hp with hp; subst hp
        injection hq with hq; subst hq
        have hab : (a' == b') = false := by simpa using h
        have e : ∀ z : UInt8, ([y] ++ a' :: p).isPrefixOf ([z] ++ b' :: q ++ R) = ((y == z) && ((a' == b') && p.isPrefixOf (q ++ R))) := fun z => rfl
        rcases hx with rfl | rfl <;> rw [e, hab, Bool.false_and, Bool.and_false]
  unfold stp2
  rw [stp_miss (x := [126] ++ p) (st := (x ++ q ++ R, [], pn)) (key 126), stp_miss (st := (x ++ q ++ R, [], pn)) (key 95)]
theorem scan_some {x q T : List UInt8} {n : Int} (hx : x = [126] ∨ x = [95]) (hq : q ∈ words4) (hn : within n = true) (hT : T.takeWhile dg = []) (hl : T.length ≤ 90000) : scanP (x ++ q ++ (dec n ++ T), [], 0) = (T, q, n) := by
  unfold scanP
  have done : ∀ p : List UInt8, q ≠ [] → stp2 p (T, q, n) = (T, q, n) := fun p h => stp2_done h
  unfold words4 at hq
  simp only [List.mem_cons, List.not_mem_nil, or_false] at hq
  rcases hq with rfl | rfl | rfl | rfl
  · rw [stp2_hit hx (by decide) hn hT hl, done _ (by decide), done _ (by decide), done _ (by decide)]
  · rw [stp2_miss (p := [97, 108, 112, 104, 97]) hx rfl rfl (by decide), stp2_hit hx (by decide) hn hT hl, done _ (by decide), done _ (by decide)]
  · rw [stp2_miss (p := [97, 108, 112, 104, 97]) hx rfl rfl (by decide), stp2_miss (p := [98, 101, 116, 97]) hx rfl rfl (by decide), stp2_hit hx (by decide) hn hT hl, done _ (by decide)]
  · rw [stp2_miss (p := [97, 108, 112, 104, 97]) hx rfl rfl (by decide), stp2_miss (p := [98, 101, 116, 97]) hx rfl rfl (by decide), stp2_miss (p := [112, 114, 101]) hx rfl rfl (by decide), stp2_hit hx (by decide) hn hT hl]
theorem tl1_len {rev : Int} (f : Int) (h : within rev = true) : (tl1 f rev).length ≤ 20 := by
  have := dec_len h
  unfold tl1 dash
  split <;> simp <;> omega
theorem tl2_len {pn rev : Int} {pre : List UInt8} (f : Int) (hp : preOk pre pn = true) (hw : within pn = true) (h : within rev = true) : (tl2 f pre pn rev).length ≤ 50 := by
  have h1 := tl1_len f h
  have h2 := dec_len hw
  have h3 := preOk_len hp
  unfold tl2 preT sg
  split
  · simp; omega
  · split <;> simp <;> omega
theorem scan_tl2 {pre : List UInt8} {pn rev : Int} (f : Int) (hp : preOk pre pn = true) (hw : within pn = true) (hr : within rev = true) : scanP (tl2 f pre pn rev, [], 0) = (tl1 f rev, pre, pn) := by
  have hT := tl1_stop f rev
  have hl := tl1_len f hr
  unfold tl2 preT
  rcases preOk_cases hp with ⟨rfl, rfl⟩ | hm
  · rw [if_pos rfl]
    obtain ⟨t, ht⟩ := tl1_head f rev
    exact scan_none (st := ([] ++ tl1 f rev, [], 0)) (t := t) ht
  · have hne : pre ≠ [] := by rintro rfl; exact absurd hm (by decide)
    rw [if_neg hne]
    have hx : sg f = [126] ∨ sg f = [95] := by unfold sg; split <;> simp
    have := scan_some hx hm hw hT (by omega : (tl1 f rev).length ≤ 90000)
    rw [← this]
    simp only [List.append_assoc]
theorem rev_tl1 {rev : Int} (f : Int) (hr : within rev = true) : revOf (tl1 f rev) = rev := by
  have hk : tk (dec rev) = (rev, []) := by
    have := tk_dec hr (r := []) rfl (by simp)
    rw [List.append_nil] at this; exact this
  unfold revOf tl1 dash
  split
  · have e1 : trimP [45] ([45, 114] ++ dec rev) = 114 :: dec rev := rfl
    have e2 : trimP [114] (114 :: dec rev) = dec rev := by
      unfold trimP
      have : ([114] : List UInt8).isPrefixOf (114 :: dec rev) = true := by rw [pre_cons]; rfl
      rw [if_pos this]; rfl
    rw [e1, e2, hk]
  · have e1 : trimP [45] ([45] ++ dec rev) = dec rev := by
      unfold trimP
      have : ([45] : List UInt8).isPrefixOf ([45] ++ dec rev) = true := by rw [pre_cons]; rfl
      rw [if_pos this]; rfl
    have e2 : trimP [114] (dec rev) = dec rev := by
      unfold trimP
      obtain ⟨c, t, h1, h2⟩ := dec_head rev
      have hd : dg c = true := dec_mem (by rw [h1]; exact List.mem_cons_self)
      have : ([114] : List UInt8).isPrefixOf (dec rev) = false := by
        rw [pre_cons, h1, List.head?_cons, beq_eq_false_iff_ne]
        intro e
        injection e with e
        exact (dg_not c hd).2.1 e
      rw [this]; rfl
    rw [e1, e2, hk]
theorem lett_rest {le : List UInt8} (h : leOk le = true) (f : Int) (pre : List UInt8) (pn rev : Int) : lett (le ++ tl2 f pre pn rev) = (le, tl2 f pre pn rev) := by
  rcases le_cases h with rfl | ⟨c, rfl, h1⟩
  · obtain ⟨c, t, h1, h2⟩ := tl2_head f pre pn rev
    have h3 := (sign1_dg c h2).2.2.2
    rw [h1]
    show (if _ then _ else _) = _
    rw [if_neg (by omega)]
  · show (if _ then _ else _) = _
    rw [if_pos h1]; rfl
theorem rest_len {le pre : List UInt8} {pn rev : Int} (f : Int) (hl : leOk le = true) (hp : preOk pre pn = true) (hw : within pn = true) (hr : within rev = true) : (le ++ tl2 f pre pn rev).length ≤ 1000 := by
  have h1 := leOk_len hl
  have h2 := tl2_len f hp hw hr
  rw [List.length_append]; omega
theorem okR_len {f e : Int} {ns : List Int} {le pre : List UInt8} {pn rev : Int} (h : okR f e ns le pre pn rev = true) : (txt f e ns le pre pn rev).length ≤ 64 := by
  unfold okR at h
  rw [Bool.and_eq_true, Bool.or_eq_true, Bool.and_eq_true, decide_eq_true_eq] at h
  obtain ⟨h1, h2 | h2⟩ := h
  · have := (okC_parts h1).2.2.2.2.2.2.2.2
    rw [txt_two (by simpa using h2)]; exact this
  · exact h2.2
theorem split_one {c : UInt8} : ∀ {a a' b b' : List UInt8}, c ∉ a → c ∉ a' → a ++ c :: b = a' ++ c :: b' → a = a' ∧ b = b'
  | [], [], b, b', _, _, h => by injection h with _ h; exact ⟨rfl, h⟩
  | [], d :: a', b, b', _, h2, h => by injection h with h _; exact absurd (by rw [h]; exact List.mem_cons_self) h2
  | d :: a, [], b, b', h1, _, h => by injection h with h _; exact absurd (by rw [h]; exact List.mem_cons_self) h1
  | d :: a, d' :: a', b, b', h1, h2, h => by
    injection h with e h
    obtain ⟨i1, i2⟩ := split_one (fun x => h1 (List.mem_cons_of_mem _ x)) (fun x => h2 (List.mem_cons_of_mem _ x)) h
    exact ⟨by rw [e, i1], i2⟩
theorem okR_C {f e : Int} {ns : List Int} {le pre : List UInt8} {pn rev : Int} (h : okR f e ns le pre pn rev = true) : okC e ns le pre pn rev = true := by
  unfold okR at h
  rw [Bool.and_eq_true] at h
  exact h.1
/-- What is printed is read. -/
theorem parse_txt {f e : Int} {ns : List Int} {le pre : List UInt8} {pn rev : Int} (hf : 1 ≤ f ∧ f ≤ 3) (hR : okR f e ns le pre pn rev = true) (hc : version_Check f (txt f e ns le pre pn rev) = some 0) :
    vmap_Parse f (txt f e ns le pre pn rev) = some ((e, iA ns, le, pre, pn, rev), 0) := by
  have e0 : ((0 : Int) != 0) = false := rfl
  have hC := okR_C hR
  obtain ⟨n0, n1, h3, h4, h5, h6, h7, h8, h9⟩ := okC_parts hC
  obtain ⟨n, t, rfl⟩ : ∃ n t, ns = n :: t := by
    cases ns with
    | nil => simp at n0
    | cons n t => exact ⟨n, t, rfl⟩
  have hcolon := txt_colon (pn := pn) (pre := pre) f rev n0 h3 h4
  rw [List.all_cons, Bool.and_eq_true] at h8
  obtain ⟨r1, r2⟩ := rest_stop h3 f pre pn rev
  have r3 := rest_len f h3 h4 h6 h7
  have h10 := fun s => l10_dec f s e (le ++ tl2 f pre pn rev) r1 r2 r3 t n [] h8.1 h8.2 (by simp at n1 ⊢; omega)
  have hst : stR (le ++ tl2 f pre pn rev) = (tl1 f rev, pre, pn) := by
    unfold stR
    rw [lett_rest h3]; exact scan_tl2 f h4 h6 h7
  have hend : ∀ s, s = txt f e (n :: t) le pre pn rev → ∃ r, ((vmap_Parse_k10 f s (dec n ++ (dT t ++ (le ++ tl2 f pre pn rev))) 0 [] [] [] 0 0 e [] [] [] 0 0).bind fun r120 => (some ((r120.2.1.1, r120.2.1.2.1, r120.2.1.2.2.1, r120.2.1.2.2.2.1, r120.2.1.2.2.2.2.1, r120.2.1.2.2.2.2.2), r120.1))) = some r ∧ r = ((e, iA (n :: t), le, pre, pn, rev), 0) := fun s hs => by
    obtain ⟨r, k1, _, k3⟩ := tail_is hf (h10 s) (by omega) (by simp at n1 ⊢; omega)
    rw [hst, lett_rest h3, rev_tl1 f h7] at k3
    refine ⟨r, k1, k3 ?_⟩
    unfold endV
    rw [hs]
    have : okR f e ([] ++ n :: t) le pre pn rev = true := hR
    rw [this]
    simp
  obtain ⟨r, k1, rfl⟩ := hend _ rfl
  by_cases he : e = 0
  · subst he
    rcases indexByte_cases 58 (txt f 0 (n :: t) le pre pn rev) with ⟨h1, h2⟩ | ⟨a, b, h1, h2, _⟩
    · apply vmap_Parse_of
      unfold vmap_Parse_E
      rw [hc, cut_colon_none h1]
      simp only [Option.bind_some, e0, cond_false]
      rw [← k1, txt_zero]
    · exact absurd (by rw [h1]; exact List.mem_append_right _ List.mem_cons_self) hcolon
  · have htx := txt_ep he f (n :: t) le pre pn rev
    have hlen := okR_len hR
    have hdc : (58 : UInt8) ∉ dec e := fun h => (dg_not _ (dec_mem h)).1 rfl
    rcases indexByte_cases 58 (dec e ++ 58 :: txt f 0 (n :: t) le pre pn rev) with ⟨h1, h2⟩ | ⟨a, b, h1, h2, h3⟩
    · exact absurd (List.mem_append_right _ List.mem_cons_self) h2
    · obtain ⟨rfl, rfl⟩ := split_one hdc h2 h1
      have hcut : strings_Cut (dec e ++ 58 :: txt f 0 (n :: t) le pre pn rev) [58] = some (dec e, txt f 0 (n :: t) le pre pn rev, true) := cut_colon h3 (by rw [← htx]; omega)
      have hte : vmap_take (dec e) = some (e, []) := by
        have := take_dec h5 (r := []) rfl (by simp)
        rw [List.append_nil] at this; exact this
      apply vmap_Parse_of
      unfold vmap_Parse_E
      rw [hc]
      rw [htx] at k1 ⊢
      rw [hcut]
      simp only [Option.bind_some, e0, cond_false, cond_true, hte]
      rw [← k1, txt_zero]
end Go.Proofs.YtlgpcmklpknmcaaDoor
 end
