/- A core's text by the document; whether a core is right.
   Which of two cores is newer. -/
import Derived.Test.YtlgpcmklpknmcaaDoorPa
 section
set_option linter.unusedVariables false
set_option linter.unusedSimpArgs false
namespace Go.Proofs.YtlgpcmklpknmcaaDoor
open Go Go.Eng Go.Proofs

theorem rtext_loop (f e : Int) (ns : List Int) (le pre : List UInt8) (pn rev : Int) (hn : ns.length ≤ 64) : ∀ (l : List Int) (i : Nat) (b : List UInt8), ns.drop i = l → l.all within = true → b.length + 10 * l.length ≤ 50000 →
    drayageref13_text_l5 f b (i : Int) e (iA ns) le pre pn rev = some (f, b ++ nT i l, (e, iA ns, le, pre, pn, rev))
  | [], i, b, h, hw, hb => by
    have hd : (iA ns).drop i = [] := by rw [← List.map_drop, h]; rfl
    apply drayageref13_text_l5_of
    unfold drayageref13_text_l5_E
    rw [out_dec hd]
    simp [nT]
  | n :: t, i, b, h, hw, hb => by
    obtain ⟨h1, h2, h3, h4⟩ := drop_cons h
    rw [List.all_cons, Bool.and_eq_true] at hw
    have hl := dec_len hw.1
    simp only [List.length_cons] at hb
    have hd : (iA ns).drop i = AV.int .i64 n :: iA t := by rw [← List.map_drop, h]; rfl
    have k9 : ∀ s : List UInt8, s.length ≤ 60000 → drayageref13_text_k9 f s (i : Int) e (iA ns) le pre pn rev = some (f, s ++ dec n, (i : Int), (e, iA ns, le, pre, pn, rev)) := by
      intro s hs
      apply drayageref13_text_k9_of
      unfold drayageref13_text_k9_E
      rw [getL_of hd]
      simp only [dInt, if_true, rdec_is hw.1, Option.bind_some]
      rw [catS_of (by omega)]
    apply drayageref13_text_l5_of
    unfold drayageref13_text_l5_E
    rw [in_dec hd, decide_eq_true (by omega : (i : Int) < 70)]
    simp only [cond_true, Option.bind_some]
    by_cases hi : 0 < i
    · have ih := rtext_loop f e ns le pre pn rev hn t (i + 1) (b ++ [46] ++ dec n) h3 hw.2 (by simp; omega)
      rw [decide_eq_true (by omega), cond_true, catS_of (by simp; omega), k9 _ (by simp; omega)]
      simp only [Option.bind_some]
      rw [wr_succ (by omega), ih, nT, if_pos hi]
      simp
    · have ih := rtext_loop f e ns le pre pn rev hn t (i + 1) (b ++ dec n) h3 hw.2 (by simp; omega)
      rw [decide_eq_false (by omega), cond_false, k9 _ (by omega)]
      simp only [Option.bind_some]
      rw [wr_succ (by omega), ih, nT, if_neg hi]
      simp
theorem rtext_is (f e : Int) (ns : List Int) (le pre : List UInt8) (pn rev : Int) (hn : ns.length ≤ 64) (hw : ns.all within = true) (he : within e = true) (hp : within pn = true) (hr : within rev = true) (hl : le.length ≤ 100) (hpl : pre.length ≤ 100) :
    drayageref13_text f e (iA ns) le pre pn rev = some (txt f e ns le pre pn rev) := by
  have hrl := dec_len hr
  have hpl2 := dec_len hp
  have hnl := nT_len ns 0 hw
  have k16 : ∀ s : List UInt8, s.length ≤ 60000 → drayageref13_text_k16 f s e (iA ns) le pre pn rev = some (s ++ (dash f ++ dec rev), (e, iA ns, le, pre, pn, rev)) := by
    intro s hs
    apply drayageref13_text_k16_of
    unfold drayageref13_text_k16_E
    by_cases h3 : f = 3
    · have hc : (f == 3) = true := by rw [h3]; rfl
      rw [hc, cond_true, catS_of (by simp; omega), rdec_is hr]
      simp only [Option.bind_some]
      rw [catS_of (by simp; omega)]
      unfold dash; rw [if_pos h3, List.append_assoc]
    · have hc : (f == 3) = false := by simpa using h3
      rw [hc, cond_false, catS_of (by simp; omega), rdec_is hr]
      simp only [Option.bind_some]
      rw [catS_of (by simp; omega)]
      unfold dash; rw [if_neg h3, List.append_assoc]
  have k15 : ∀ s g : List UInt8, s.length ≤ 50000 → g.length ≤ 1 → drayageref13_text_k15 f s g e (iA ns) le pre pn rev = some (f, s ++ (g ++ pre ++ dec pn), (e, iA ns, le, pre, pn, rev)) := by
    intro s g hs hgl
    apply drayageref13_text_k15_of
    unfold drayageref13_text_k15_E
    rw [catS_of (by omega), catS_of (by simp; omega), rdec_is hp]
    simp only [Option.bind_some]
    rw [catS_of (by simp; omega)]
    simp only [List.append_assoc]
  have k4 : ∀ b : List UInt8, b.length ≤ 100 → drayageref13_text_k4 f b e (iA ns) le pre pn rev = some (b ++ nT 0 ns ++ le ++ preT f pre pn ++ (dash f ++ dec rev), (e, iA ns, le, pre, pn, rev)) := by
    intro b hb
    have h5 : drayageref13_text_l5 f b 0 e (iA ns) le pre pn rev = some (f, b ++ nT 0 ns, (e, iA ns, le, pre, pn, rev)) := rtext_loop f e ns le pre pn rev hn ns 0 b rfl hw (by omega)
    apply drayageref13_text_k4_of
    unfold drayageref13_text_k4_E
    rw [h5]
    simp only [Option.bind_some]
    rw [catS_of (by simp; omega)]
    by_cases h : pre = []
    · have hc : (!(pre == ([] : List UInt8))) = false := by rw [h]; rfl
      rw [hc, cond_false, k16 _ (by simp; omega)]
      unfold preT
      rw [if_pos h, List.append_nil]
      rfl
    · have hc : (!(pre == ([] : List UInt8))) = true := by simpa using h
      rw [hc, cond_true]
      unfold preT sg
      rw [if_neg h]
      by_cases h3 : f = 3
      · have hc3 : (f == 3) = true := by rw [h3]; rfl
        rw [hc3, cond_true, if_pos h3, k15 _ [95] (by simp; omega) (by simp)]
        simp only [Option.bind_some]
        rw [k16 _ (by simp; omega)]
        rfl
      · have hc3 : (f == 3) = false := by simpa using h3
        rw [hc3, cond_false, if_neg h3, k15 _ [126] (by simp; omega) (by simp)]
        simp only [Option.bind_some]
        rw [k16 _ (by simp; omega)]
        rfl
  have hel := dec_len he
  apply drayageref13_text_of
  unfold drayageref13_text_E
  by_cases h0 : e = 0
  · have hc : (e != 0) = false := by rw [h0]; rfl
    rw [hc, cond_false, k4 [] (by simp)]
    simp only [Option.bind_some]
    unfold txt epT
    rw [if_pos h0]
  · have hc : (e != 0) = true := by simpa using h0
    rw [hc, cond_true, rdec_is he]
    simp only [Option.bind_some]
    rw [catS_of (by simp; omega), k4 (dec e ++ [58]) (by simp; omega)]
    simp only [Option.bind_some]
    unfold txt epT
    rw [if_neg h0]

/-! ### Words -/
def idxL : List (List UInt8) → List UInt8 → Nat → Int
  | [], _, _ => -1
  | y :: t, x, i => if x == y then (i : Int) else idxL t x (i + 1)
theorem idxL_yes {y x : List UInt8} {t : List (List UInt8)} {i : Nat} (h : (x == y) = true) : idxL (y :: t) x i = (i : Int) := if_pos h
theorem idxL_no {y x : List UInt8} {t : List (List UInt8)} {i : Nat} (h : ¬ (x == y) = true) : idxL (y :: t) x i = idxL t x (i + 1) := if_neg h
theorem sidx_loop (s : List (List UInt8)) (x : List UInt8) (hs : s.length ≤ 1000) : ∀ (l : List (List UInt8)) (i : Nat), s.drop i = l →
    slices_Index_string_string_l2 (s.map AV.str) x (s.length : Int) (i : Int) = some (if 0 ≤ idxL l x i then Sum.inr (idxL l x i) else Sum.inl ())
  | [], i, h => by
    apply slices_Index_string_string_l2_of
    unfold slices_Index_string_string_l2_E
    rw [out_dec h]
    rfl
  | y :: t, i, h => by
    obtain ⟨h1, h2, h3, h4⟩ := drop_cons h
    have ih := sidx_loop s x hs t (i + 1) h3
    have hd : (s.map AV.str).drop i = AV.str y :: t.map AV.str := by rw [← List.map_drop, h]; rfl
    apply slices_Index_string_string_l2_of
    unfold slices_Index_string_string_l2_E
    rw [in_dec h, getL_of hd, wr_succ (by omega), ih]
    simp only [dStr, cond_true]
    by_cases hxy : (x == y) = true
    · rw [idxL_yes hxy, hxy, cond_true, if_pos (by omega)]
    · have hf : (x == y) = false := by simpa using hxy
      rw [idxL_no hxy, hf]; rfl
theorem idxL_ge : ∀ (l : List (List UInt8)) (x : List UInt8) (i : Nat), -1 ≤ idxL l x i
  | [], x, i => by unfold idxL; omega
  | y :: t, x, i => by
    unfold idxL
    have := idxL_ge t x (i + 1)
    split <;> omega
theorem sidx_is (s : List (List UInt8)) (x : List UInt8) (hs : s.length ≤ 1000) : slices_Index_string_string (s.map AV.str) x = some (idxL s x 0) := by
  apply slices_Index_string_string_of
  unfold slices_Index_string_string_E
  have h : slices_Index_string_string_l2 (s.map AV.str) x (s.length : Int) 0 = _ := sidx_loop s x hs s 0 rfl
  rw [List.length_map, h]
  have hg := idxL_ge s x 0
  by_cases h0 : 0 ≤ idxL s x 0
  · rw [if_pos h0]; rfl
  · rw [if_neg h0]
    have : idxL s x 0 = -1 := by omega
    rw [this]; rfl
def words4 : List (List UInt8) := [[97, 108, 112, 104, 97], [98, 101, 116, 97], [112, 114, 101], [114, 99]]
def rk (x : List UInt8) : Int := idxL words4 x 0
theorem pres_is : vmap_pres = some (words4.map AV.str) := vmap_pres_of rfl
theorem rk_is (x : List UInt8) : slices_Index_string_string (words4.map AV.str) x = some (rk x) := sidx_is words4 x (by decide)
theorem contains4 (x : List UInt8) : slices_Contains_string_string (words4.map AV.str) x = some (decide (0 ≤ rk x)) := by
  apply slices_Contains_string_string_of
  unfold slices_Contains_string_string_E
  rw [rk_is]; rfl
theorem rk_nil : rk [] = -1 := by decide
theorem rword_is (k : Nat) (w : List UInt8) (h : words4[k]? = some w) : drayageref13_word (k : Int) = some w := by
  apply drayageref13_word_of
  unfold drayageref13_word_E
  have hg : ∀ K : AV → Option (List UInt8), getL [AV.str [97, 108, 112, 104, 97], AV.str [98, 101, 116, 97], AV.str [112, 114, 101], AV.str [114, 99]] (k : Int) K = K (AV.str w) := fun K => getL_get (by
    show (words4.map AV.str)[k]? = _
    rw [List.getElem?_map, h]; rfl) K
  rw [hg]; rfl
theorem rank_loop (x : List UInt8) : ∀ (l : List (List UInt8)) (i : Nat), words4.drop i = l → drayageref13_Rank_l2 x (i : Int) = some (if 0 ≤ idxL l x i then Sum.inr (idxL l x i) else Sum.inl x)
  | [], i, h => by
    have := drop_nil h
    have h4 : words4.length = 4 := rfl
    apply drayageref13_Rank_l2_of
    unfold drayageref13_Rank_l2_E
    rw [decide_eq_false (by omega)]
    rfl
  | y :: t, i, h => by
    obtain ⟨h1, h2, h3, h4⟩ := drop_cons h
    have h5 : words4.length = 4 := rfl
    have ih := rank_loop x t (i + 1) h3
    apply drayageref13_Rank_l2_of
    unfold drayageref13_Rank_l2_E
    rw [decide_eq_true (by omega), rword_is i y h2, wr_succ (by omega), ih]
    simp only [cond_true, Option.bind_some]
    have : (y == x) = (x == y) := by
      rw [Bool.eq_iff_iff, beq_iff_eq, beq_iff_eq]; exact eq_comm
    rw [this]
    by_cases hxy : (x == y) = true
    · rw [idxL_yes hxy, hxy, cond_true, if_pos (by omega)]
    · have hf : (x == y) = false := by simpa using hxy
      rw [idxL_no hxy, hf]; rfl
theorem rank_is (x : List UInt8) : drayageref13_Rank x = some (if x = [] then 4 else rk x) := by
  apply drayageref13_Rank_of
  unfold drayageref13_Rank_E
  have h : drayageref13_Rank_l2 x 0 = _ := rank_loop x words4 0 rfl
  rw [h]
  have hg := idxL_ge words4 x 0
  by_cases h0 : 0 ≤ idxL words4 x 0
  · rw [if_pos h0]
    have hx : x ≠ [] := by
      rintro rfl
      have : idxL words4 [] 0 = -1 := rk_nil
      omega
    rw [if_neg hx]; rfl
  · rw [if_neg h0]
    by_cases hx : x = []
    · subst hx; rfl
    · rw [if_neg hx]
      have : (x == ([] : List UInt8)) = false := by simpa using hx
      simp only [Option.bind_some, Sum.elim_inl, this, cond_false]
      have h1 : rk x = idxL words4 x 0 := rfl
      rw [h1]
      congr 1; omega

/-! ### Is a core right? -/
theorem within_is (n : Int) : vmap_within n = some (within n) := by
  apply vmap_within_of
  unfold vmap_within_E within
  simp only [cond_some, cond_and, Option.bind_some]
theorem check1_is (n : Int) : vmap_Check_1 n = some (!(within n)) := by
  apply vmap_Check_1_of
  unfold vmap_Check_1_E
  rw [within_is]; rfl
theorem rnumber_is (n : Int) : drayageref13_number n = some (within n) := by
  apply drayageref13_number_of
  unfold drayageref13_number_E within
  simp only [cond_some, cond_and, Option.bind_some]
theorem cf62_loop (s : List Int) (hs : s.length ≤ 1000) : ∀ (l : List Int) (i : Nat), s.drop i = l →
    ∃ w, slices_IndexFunc_int_int_f62_l2 (iA s) (s.length : Int) (i : Int) = some w ∧ (if l.all within then w = Sum.inl () else ∃ k : Nat, w = Sum.inr (k : Int))
  | [], i, h => by
    refine ⟨Sum.inl (), slices_IndexFunc_int_int_f62_l2_of ?_, by simp⟩
    unfold slices_IndexFunc_int_int_f62_l2_E
    rw [out_dec h]; rfl
  | n :: t, i, h => by
    obtain ⟨h1, h2, h3, h4⟩ := drop_cons h
    obtain ⟨w, ih, hw⟩ := cf62_loop s hs t (i + 1) h3
    have hd : (iA s).drop i = AV.int .i64 n :: iA t := by rw [← List.map_drop, h]; rfl
    cases hn : within n with
    | true =>
      refine ⟨w, slices_IndexFunc_int_int_f62_l2_of ?_, by rw [List.all_cons, hn, Bool.true_and]; exact hw⟩
      unfold slices_IndexFunc_int_int_f62_l2_E
      rw [in_dec h, getL_of hd, wr_succ (by omega), ih]
      simp only [dInt, cond_true, if_true, check1_is, hn, Option.bind_some, Bool.not_true, cond_false]
    | false =>
      refine ⟨Sum.inr (i : Int), slices_IndexFunc_int_int_f62_l2_of ?_, by rw [List.all_cons, hn, Bool.false_and]; exact ⟨i, rfl⟩⟩
      unfold slices_IndexFunc_int_int_f62_l2_E
      rw [in_dec h, getL_of hd, wr_succ (by omega), ih]
      simp only [dInt, cond_true, if_true, check1_is, hn, Option.bind_some, Bool.not_false]
theorem cf62_is (s : List Int) (hs : s.length ≤ 1000) : slices_ContainsFunc_int_int_f62 (iA s) = some (!(s.all within)) := by
  obtain ⟨w, h1, h2⟩ := cf62_loop s hs s 0 rfl
  have h1' : slices_IndexFunc_int_int_f62_l2 (iA s) (s.length : Int) 0 = some w := h1
  apply slices_ContainsFunc_int_int_f62_of
  unfold slices_ContainsFunc_int_int_f62_E
  have : slices_IndexFunc_int_int_f62 (iA s) = some (Sum.elim (fun _ => -1) (fun k => k) w) := by
    apply slices_IndexFunc_int_int_f62_of
    unfold slices_IndexFunc_int_int_f62_E
    rw [List.length_map, h1']
    cases w <;> rfl
  rw [this]
  cases ha : s.all within with
  | true => rw [ha] at h2; simp only [if_true] at h2; subst h2; rfl
  | false =>
    rw [ha] at h2
    simp only [Bool.false_eq_true, if_false] at h2
    obtain ⟨k, rfl⟩ := h2
    simp only [Option.bind_some, Sum.elim_inr, Bool.not_false]
    rw [decide_eq_true (by omega)]
def leOk : List UInt8 → Bool
  | [] => true
  | [c] => decide (97 ≤ c.toNat) && decide (c.toNat ≤ 122)
  | _ :: _ :: _ => false
def preOk (pre : List UInt8) (pn : Int) : Bool := (pre == [] && pn == 0) || decide (0 ≤ rk pre)
def okC (e : Int) (ns : List Int) (le pre : List UInt8) (pn rev : Int) : Bool :=
  !(decide (ns.length = 0) || decide (64 < ns.length)) && leOk le && preOk pre pn && (within e && (within pn && (within rev && ns.all within))) && !(decide (64 < (txt 1 e ns le pre pn rev).length))
theorem check_is (e : Int) (ns : List Int) (le pre : List UInt8) (pn rev : Int) (hn : ns.length ≤ 300) (hl : le.length ≤ 100) (hpl : pre.length ≤ 100) :
    vmap_Check e (iA ns) le pre pn rev = some (if okC e ns le pre pn rev then 0 else 11) := by
  apply vmap_Check_of
  unfold vmap_Check_E
  rw [room_of (by simp; omega) (by omega)]
  have e1 : [AV.int .i64 e, AV.int .i64 pn, AV.int .i64 rev] ++ iA ns = iA ([e, pn, rev] ++ ns) := by simp
  have hcf : slices_ContainsFunc_int_int_f62 ([AV.int .i64 e, AV.int .i64 pn, AV.int .i64 rev] ++ iA ns) = some (!(([e, pn, rev] ++ ns).all within)) := by rw [e1]; exact cf62_is _ (by simp; omega)
  have hle : cond (le == []) true (cond ((le.length : Int) == 1) (cond (!(Op.bytesLess le [97])) (Op.bytesLess le [122] || le == [122]) false) false) = leOk le := by
    cases le with
    | nil => rfl
    | cons c t =>
      cases t with
      | nil =>
        have h1 : Op.bytesLess [c] [97] = decide (c.toNat < 97) := by
          show (decide (c < 97) || (c == 97 && false)) = _
          rw [Bool.and_false, Bool.or_false]
          have : (c < 97) ↔ (c.toNat < 97) := UInt8.lt_iff_toNat_lt
          simp [this]
        have h2 : (Op.bytesLess [c] [122] || [c] == [122]) = decide (c.toNat ≤ 122) := by
          have e2 : Op.bytesLess [c] [122] = decide (c.toNat < 122) := by
            show (decide (c < 122) || (c == 122 && false)) = _
            rw [Bool.and_false, Bool.or_false]
            have : (c < 122) ↔ (c.toNat < 122) := UInt8.lt_iff_toNat_lt
            simp [this]
          have e3 : ([c] == ([122] : List UInt8)) = decide (c.toNat = 122) := by
            rw [Bool.eq_iff_iff, beq_iff_eq, decide_eq_true_iff]
            constructor
            · intro h; cases h; rfl
            · intro h
              have : c = 122 := UInt8.toNat_inj.1 h
              rw [this]
          rw [e2, e3]
          rw [Bool.eq_iff_iff, Bool.or_eq_true, decide_eq_true_iff, decide_eq_true_iff, decide_eq_true_iff]
          omega
        rw [h1, h2]
        have h3 : (!(decide (c.toNat < 97))) = decide (97 ≤ c.toNat) := by
          rw [Bool.eq_iff_iff, Bool.not_eq_true', decide_eq_false_iff_not, decide_eq_true_iff]; omega
        rw [h3]
        have h4 : (([c] : List UInt8) == []) = false := rfl
        have h5 : (((([c] : List UInt8).length : Nat) : Int) == 1) = true := rfl
        rw [h4, h5]
        show cond false true (cond true (cond (decide (97 ≤ c.toNat)) (decide (c.toNat ≤ 122)) false) false) = (decide (97 ≤ c.toNat) && decide (c.toNat ≤ 122))
        cases decide (97 ≤ c.toNat) <;> rfl
      | cons d t =>
        have h5 : ((((c :: d :: t).length : Nat) : Int) == 1) = false := by
          rw [beq_eq_false_iff_ne]; simp only [List.length_cons]; omega
        rw [h5]; rfl
  simp only [cond_some, Option.bind_some, pres_is, contains4, hcf, hle]
  have hpre : cond (cond (pre == []) (pn == 0) false) true (decide (0 ≤ rk pre)) = preOk pre pn := by
    unfold preOk
    cases pre == [] <;> cases pn == 0 <;> rfl
  rw [hpre]
  have hlen : cond (((iA ns).length : Int) == 0) true (decide ((64 : Int) < ((iA ns).length : Int))) = (decide (ns.length = 0) || decide (64 < ns.length)) := by
    rw [List.length_map]
    have h1 : ((ns.length : Int) == 0) = decide (ns.length = 0) := by
      rw [Bool.eq_iff_iff, beq_iff_eq, decide_eq_true_iff]; omega
    have h2 : decide ((64 : Int) < (ns.length : Int)) = decide (64 < ns.length) := by
      rw [Bool.eq_iff_iff, decide_eq_true_iff, decide_eq_true_iff]; omega
    rw [h1, h2]
    cases decide (ns.length = 0) <;> rfl
  rw [hlen]
  have hall : ([e, pn, rev] ++ ns).all within = (within e && (within pn && (within rev && ns.all within))) := by simp
  rw [hall]
  unfold okC
  cases (decide (ns.length = 0) || decide (64 < ns.length)) with
  | true => rfl
  | false =>
    cases leOk le with
    | false => rfl
    | true =>
      cases preOk pre pn with
      | false => rfl
      | true =>
        cases hw : (within e && (within pn && (within rev && ns.all within))) with
        | false => rfl
        | true =>
          simp only [Bool.and_eq_true] at hw
          rw [text_is 1 e ns le pre pn rev hn hw.2.2.2 hw.1 hw.2.1 hw.2.2.1 hl hpl]
          have h2 : decide ((64 : Int) < ((txt 1 e ns le pre pn rev).length : Int)) = decide (64 < (txt 1 e ns le pre pn rev).length) := by
            rw [Bool.eq_iff_iff, decide_eq_true_iff, decide_eq_true_iff]; omega
          simp only [Bool.not_true, cond_false, cond_true, Option.bind_some, h2, Bool.not_false, Bool.and_self, Bool.true_and]
          cases decide (64 < (txt 1 e ns le pre pn rev).length) <;> rfl
theorem rall_loop (e : Int) (ns : List Int) (le pre : List UInt8) (pn rev : Int) (hn : ns.length ≤ 300) : ∀ (l : List Int) (i : Nat), ns.drop i = l →
    drayageref13_Check_l4 (i : Int) e (iA ns) le pre pn rev = some (if l.all within then Sum.inl (e, iA ns, le, pre, pn, rev) else Sum.inr (11, (e, iA ns, le, pre, pn, rev)))
  | [], i, h => by
    have hd : (iA ns).drop i = [] := by rw [← List.map_drop, h]; rfl
    apply drayageref13_Check_l4_of
    unfold drayageref13_Check_l4_E
    rw [out_dec hd]; rfl
  | n :: t, i, h => by
    obtain ⟨h1, h2, h3, h4⟩ := drop_cons h
    have hd : (iA ns).drop i = AV.int .i64 n :: iA t := by rw [← List.map_drop, h]; rfl
    have ih := rall_loop e ns le pre pn rev hn t (i + 1) h3
    apply drayageref13_Check_l4_of
    unfold drayageref13_Check_l4_E
    rw [in_dec hd, getL_of hd, wr_succ (by omega), ih]
    simp only [dInt, cond_true, if_true, rnumber_is, Option.bind_some]
    rw [List.all_cons]
    cases within n <;> rfl
theorem rcheck_is (e : Int) (ns : List Int) (le pre : List UInt8) (pn rev : Int) (hn : ns.length ≤ 300) (hl : le.length ≤ 100) (hpl : pre.length ≤ 100) :
    drayageref13_Check e (iA ns) le pre pn rev = some (if okC e ns le pre pn rev then 0 else 11) := by
  apply drayageref13_Check_of
  unfold drayageref13_Check_E
  have h4 : drayageref13_Check_l4 0 e (iA ns) le pre pn rev = _ := rall_loop e ns le pre pn rev hn ns 0 rfl
  simp only [cond_some, Option.bind_some, rnumber_is, rank_is, h4]
  have hlen : cond (decide (((iA ns).length : Int) < 1)) true (decide ((64 : Int) < ((iA ns).length : Int))) = (decide (ns.length = 0) || decide (64 < ns.length)) := by
    rw [List.length_map]
    have h1 : decide ((ns.length : Int) < 1) = decide (ns.length = 0) := by
      rw [Bool.eq_iff_iff, decide_eq_true_iff, decide_eq_true_iff]; omega
    have h2 : decide ((64 : Int) < (ns.length : Int)) = decide (64 < ns.length) := by
      rw [Bool.eq_iff_iff, decide_eq_true_iff, decide_eq_true_iff]; omega
    rw [h1, h2]
    cases decide (ns.length = 0) <;> rfl
  rw [hlen]
  have hpre : (cond (decide ((if pre = [] then 4 else rk pre) < 0)) true (cond (pre == []) (pn != 0) false)) = !(preOk pre pn) := by
    unfold preOk
    by_cases hp : pre = []
    · subst hp
      rw [if_pos rfl, rk_nil]
      have : ((pn != 0) : Bool) = !(pn == 0) := rfl
      rw [this]
      cases pn == 0 <;> rfl
    · rw [if_neg hp]
      have : (pre == ([] : List UInt8)) = false := by simpa using hp
      rw [this]
      by_cases h0 : 0 ≤ rk pre
      · rw [decide_eq_true h0, decide_eq_false (by omega)]; rfl
      · rw [decide_eq_false h0, decide_eq_true (by omega)]; rfl
  unfold okC
  cases hb : (decide (ns.length = 0) || decide (64 < ns.length)) with
  | true => rfl
  | false =>
    cases he : within e with
    | false =>
      simp only [Bool.not_false, Bool.not_true, cond_true, cond_false, Bool.false_and, Bool.and_false, Bool.false_eq_true, if_false]
    | true =>
      cases hp : within pn with
      | false => simp only [Bool.not_false, Bool.not_true, cond_true, cond_false, Bool.false_and, Bool.and_false, Bool.false_eq_true, if_false]
      | true =>
        cases hr : within rev with
        | false => simp only [Bool.not_false, Bool.not_true, cond_true, cond_false, Bool.false_and, Bool.and_false, Bool.false_eq_true, if_false]
        | true =>
          simp only [Bool.not_true, cond_false]
          rw [hpre]
          cases hq : preOk pre pn with
          | false => simp only [Bool.not_false, cond_true, Bool.and_false, Bool.false_and, Bool.false_eq_true, if_false]
          | true =>
            simp only [Bool.not_true, cond_false, Bool.not_false, Bool.true_and, Bool.and_true]
            cases ha : ns.all within with
            | false => simp only [Bool.false_eq_true, if_false, Sum.elim_inr, Bool.and_false, Bool.false_and]
            | true =>
              simp only [if_true, Sum.elim_inl, Bool.and_true]
              have hn64 : ns.length ≤ 64 := by
                simp only [Bool.or_eq_false_iff, decide_eq_false_iff_not] at hb; omega
              rw [rtext_is 1 e ns le pre pn rev hn64 ha he hp hr hl hpl]
              have h2 : decide ((64 : Int) < ((txt 1 e ns le pre pn rev).length : Int)) = decide (64 < (txt 1 e ns le pre pn rev).length) := by
                rw [Bool.eq_iff_iff, decide_eq_true_iff, decide_eq_true_iff]; omega
              simp only [Option.bind_some, h2]
              have hle : ∀ K : Bool → Option Int, ((cond (decide ((1 : Int) < (le.length : Int))) (some true) (cond ((le.length : Int) == 1) (idxS le 0 fun c30 => (cond (decide ((UInt8.toNat c30 : Int) < 97)) (some true) (idxS le 0 fun c31 => (some (decide ((122 : Int) < (UInt8.toNat c31 : Int))))))) (some false))).bind K) = K (!(leOk le)) := by
                intro K
                cases le with
                | nil => rfl
                | cons c t =>
                  cases t with
                  | nil =>
                    simp only [idxS_zero]
                    have h1 : decide ((UInt8.toNat c : Int) < 97) = !(decide (97 ≤ c.toNat)) := by
                      rw [Bool.eq_iff_iff, Bool.not_eq_true', decide_eq_false_iff_not, decide_eq_true_iff]; omega
                    have h2 : decide ((122 : Int) < (UInt8.toNat c : Int)) = !(decide (c.toNat ≤ 122)) := by
                      rw [Bool.eq_iff_iff, Bool.not_eq_true', decide_eq_false_iff_not, decide_eq_true_iff]; omega
                    rw [h1, h2]
                    have h4 : leOk [c] = (decide (97 ≤ c.toNat) && decide (c.toNat ≤ 122)) := rfl
                    rw [h4]
                    cases decide (97 ≤ c.toNat) <;> cases decide (c.toNat ≤ 122) <;> rfl
                  | cons d t =>
                    rw [decide_eq_true (by simp only [List.length_cons]; omega)]
                    rfl
              rw [hle]
              cases leOk le <;> cases decide (64 < (txt 1 e ns le pre pn rev).length) <;> rfl
end Go.Proofs.YtlgpcmklpknmcaaDoor
 end

 section
set_option linter.unusedVariables false
set_option linter.unusedSimpArgs false
namespace Go.Proofs.YtlgpcmklpknmcaaDoor
open Go Go.Eng Go.Proofs

theorem thn_assoc (a b c : Int) : thn (thn a b) c = thn a (thn b c) := by
  unfold thn
  by_cases h : a = 0
  · rw [if_pos h, if_pos h]
  · rw [if_neg h, if_neg h, if_neg h]
def leK : List UInt8 → Int × Int
  | [] => (0, 0)
  | c :: _ => (1, (c.toNat : Int))
def atK (ns : List Int) (le : List UInt8) (i : Nat) : Int × Int :=
  match ns[i]? with
  | some n => (2, n)
  | none => if i = ns.length then leK le else (0, 0)
theorem at_is (e : Int) (ns : List Int) (le pre : List UInt8) (pn rev : Int) (i : Nat) : vmap_at e (iA ns) le pre pn rev (i : Int) = some (atK ns le i) := by
  apply vmap_at_of
  unfold vmap_at_E atK
  rw [List.length_map]
  by_cases h : i < ns.length
  · have hg : ns[i]? = some (ns[i]'h) := List.getElem?_eq_getElem h
    have hg2 : (iA ns)[i]? = some (AV.int .i64 (ns[i]'h)) := by rw [List.getElem?_map, hg]; rfl
    rw [decide_eq_true (by omega), getL_get hg2, hg]
    simp only [dInt, cond_true, if_true]
  · have hg : ns[i]? = none := List.getElem?_eq_none (by omega)
    rw [decide_eq_false (by omega), hg]
    by_cases h2 : i = ns.length
    · have : ((i : Int) == (ns.length : Int)) = true := by rw [h2]; exact beq_self_eq_true _
      rw [this, if_pos h2]
      cases le with
      | nil => rfl
      | cons c t =>
        have hb : c.toNat < 256 := c.toNat_lt
        rw [idxS_zero, wr (by omega)]; rfl
    · have : ((i : Int) == (ns.length : Int)) = false := by rw [beq_eq_false_iff_ne]; omega
      rw [this, if_neg h2]; rfl
def stepC (p q : Int × Int) : Int := thn (icmp p.1 q.1) (icmp p.2 q.2)
def seqC (ns ns' : List Int) (le le' : List UInt8) : Nat → Nat → Int
  | _, 0 => 0
  | i, k + 1 => thn (stepC (atK ns le i) (atK ns' le' i)) (seqC ns ns' le le' (i + 1) k)
theorem cmp_loop (e e' : Int) (ns ns' : List Int) (le le' pre pre' : List UInt8) (pn pn' rev rev' : Int) (m : Nat) (hm : m ≤ 100000) : ∀ (k i : Nat) (out : Int), i + k = m →
    vmap_Compare_l5 out (m : Int) (i : Int) e (iA ns) le pre pn rev e' (iA ns') le' pre' pn' rev' = some (thn out (seqC ns ns' le le' i k), (e, iA ns, le, pre, pn, rev), (e', iA ns', le', pre', pn', rev'))
  | 0, i, out, h => by
    apply vmap_Compare_l5_of
    unfold vmap_Compare_l5_E
    rw [decide_eq_false (by omega)]
    unfold seqC
    have : thn out 0 = out := by unfold thn; split <;> omega
    rw [this]; rfl
  | k + 1, i, out, h => by
    have ih := cmp_loop e e' ns ns' le le' pre pre' pn pn' rev rev' m hm k (i + 1) (thn out (stepC (atK ns le i) (atK ns' le' i))) (by omega)
    apply vmap_Compare_l5_of
    unfold vmap_Compare_l5_E
    rw [decide_eq_true (by omega), at_is, at_is]
    simp only [cond_true, Option.bind_some, compare_int, or_three]
    rw [wr_succ (by omega)]
    unfold stepC at ih
    rw [ih, seqC, thn_assoc]
    rfl
def leC (le le' : List UInt8) : Int := stepC (leK le) (leK le')
def cmpL (le le' : List UInt8) : List Int → List Int → Int
  | [], [] => leC le le'
  | _ :: _, [] => 1
  | [], _ :: _ => -1
  | x :: t, y :: t' => thn (icmp x y) (cmpL le le' t t')
theorem leK_kind (le : List UInt8) : (leK le).1 = 0 ∨ (leK le).1 = 1 := by cases le <;> simp [leK]
theorem atK_beyond {ns : List Int} {le : List UInt8} {i : Nat} (h : ns.drop i = []) : (atK ns le i).1 = 0 ∨ (atK ns le i).1 = 1 := by
  have := drop_nil h
  unfold atK
  rw [List.getElem?_eq_none this]
  simp only
  split
  · exact leK_kind le
  · exact .inl rfl
theorem seq_eq (ns ns' : List Int) (le le' : List UInt8) : ∀ (k i : Nat) (l l' : List Int), ns.drop i = l → ns'.drop i = l' → i ≤ ns.length → i ≤ ns'.length → i + k = max ns.length ns'.length + 1 → seqC ns ns' le le' i k = cmpL le le' l l'
  | 0, i, l, l', h, h', hi, hi', hk => by omega
  | k + 1, i, l, l', h, h', hi, hi', hk => by
    rw [seqC]
    cases l with
    | nil =>
      have e1 := drop_nil h
      have ea : atK ns le i = leK le := by unfold atK; rw [List.getElem?_eq_none e1]; simp only; rw [if_pos (by omega)]
      cases l' with
      | nil =>
        have e2 := drop_nil h'
        have eb : atK ns' le' i = leK le' := by unfold atK; rw [List.getElem?_eq_none e2]; simp only; rw [if_pos (by omega)]
        have : k = 0 := by omega
        subst this
        rw [ea, eb, cmpL, seqC]
        unfold leC
        exact (by unfold thn; split <;> omega : thn (stepC (leK le) (leK le')) 0 = stepC (leK le) (leK le'))
      | cons y t' =>
        obtain ⟨g1, g2, g3, g4⟩ := drop_cons h'
        have eb : atK ns' le' i = (2, y) := by unfold atK; rw [g2]
        rw [ea, eb, cmpL]
        have hk := leK_kind le
        have : stepC (leK le) (2, y) = -1 := by
          unfold stepC
          have hc := icmp_cases (leK le).1 2
          have : icmp (leK le).1 2 = -1 := by omega
          simp only [this]; rfl
        rw [this]; rfl
    | cons x t =>
      obtain ⟨f1, f2, f3, f4⟩ := drop_cons h
      have ea : atK ns le i = (2, x) := by unfold atK; rw [f2]
      cases l' with
      | nil =>
        have e2 := drop_nil h'
        have eb : atK ns' le' i = leK le' := by unfold atK; rw [List.getElem?_eq_none e2]; simp only; rw [if_pos (by omega)]
        rw [ea, eb, cmpL]
        have hk := leK_kind le'
        have : stepC (2, x) (leK le') = 1 := by
          unfold stepC
          have hc := icmp_cases 2 (leK le').1
          have : icmp 2 (leK le').1 = 1 := by omega
          simp only [this]; rfl
        rw [this]; rfl
      | cons y t' =>
        obtain ⟨g1, g2, g3, g4⟩ := drop_cons h'
        have eb : atK ns' le' i = (2, y) := by unfold atK; rw [g2]
        rw [ea, eb, cmpL, seq_eq ns ns' le le' k (i + 1) t t' f3 g3 (by omega) (by omega) (by omega)]
        have : stepC (2, x) (2, y) = icmp x y := by
          unfold stepC
          have : icmp 2 2 = 0 := rfl
          simp only [this]; rfl
        rw [this]
def cmpN : List Int → List Int → Int
  | x :: t, y :: t' => thn (icmp x y) (cmpN t t')
  | _, _ => 0
theorem cmpN_left (l : List Int) : cmpN [] l = 0 := by cases l <;> rfl
theorem cmpN_right (l : List Int) : cmpN l [] = 0 := by cases l <;> rfl
theorem cmpL_eq (le le' : List UInt8) : ∀ l l' : List Int, cmpL le le' l l' = thn (cmpN l l') (thn (icmp (l.length : Int) (l'.length : Int)) (leC le le'))
  | [], [] => rfl
  | x :: t, [] => by
    rw [cmpL, cmpN_right]
    have : icmp (((x :: t).length : Nat) : Int) ((([] : List Int).length : Nat) : Int) = 1 := by
      have := icmp_cases (((x :: t).length : Nat) : Int) ((([] : List Int).length : Nat) : Int)
      simp only [List.length_cons, List.length_nil] at *
      omega
    rw [this]; rfl
  | [], y :: t' => by
    rw [cmpL, cmpN_left]
    have : icmp ((([] : List Int).length : Nat) : Int) (((y :: t').length : Nat) : Int) = -1 := by
      have := icmp_cases ((([] : List Int).length : Nat) : Int) (((y :: t').length : Nat) : Int)
      simp only [List.length_cons, List.length_nil] at *
      omega
    rw [this]; rfl
  | x :: t, y :: t' => by
    rw [cmpL, cmpN, cmpL_eq le le' t t', thn_assoc]
    have : icmp (((x :: t).length : Nat) : Int) (((y :: t').length : Nat) : Int) = icmp (t.length : Int) (t'.length : Int) := by
      have h1 := icmp_cases (((x :: t).length : Nat) : Int) (((y :: t').length : Nat) : Int)
      have h2 := icmp_cases (t.length : Int) (t'.length : Int)
      simp only [List.length_cons] at *
      omega
    rw [this]
theorem sign_is (a b : Int) : drayageref13_sign a b = some (icmp a b) := by
  apply drayageref13_sign_of
  unfold drayageref13_sign_E icmp
  by_cases h : a < b
  · rw [decide_eq_true h, if_pos h]; rfl
  · rw [decide_eq_false h, if_neg h]
    by_cases h2 : b < a
    · rw [decide_eq_true h2, if_pos h2]; rfl
    · rw [decide_eq_false h2, if_neg h2]; rfl
theorem rcmp_loop (e e' : Int) (ns ns' : List Int) (le le' pre pre' : List UInt8) (pn pn' rev rev' : Int) (hn : ns.length ≤ 1000) : ∀ (l l' : List Int) (i : Nat), ns.drop i = l → ns'.drop i = l' →
    drayageref13_Compare_l7 (i : Int) e (iA ns) le pre pn rev e' (iA ns') le' pre' pn' rev' =
      some (if cmpN l l' = 0 then Sum.inl ((e, iA ns, le, pre, pn, rev), (e', iA ns', le', pre', pn', rev')) else Sum.inr (cmpN l l', (e, iA ns, le, pre, pn, rev), (e', iA ns', le', pre', pn', rev')))
  | [], l', i, h, h' => by
    have hd : (iA ns).drop i = [] := by rw [← List.map_drop, h]; rfl
    have : cmpN [] l' = 0 := cmpN_left l'
    rw [this, if_pos rfl]
    apply drayageref13_Compare_l7_of
    unfold drayageref13_Compare_l7_E
    rw [out_dec hd]; rfl
  | x :: t, [], i, h, h' => by
    have hd : (iA ns).drop i = AV.int .i64 x :: iA t := by rw [← List.map_drop, h]; rfl
    have hd' : (iA ns').drop i = [] := by rw [← List.map_drop, h']; rfl
    have : cmpN (x :: t) [] = 0 := cmpN_right _
    rw [this, if_pos rfl]
    apply drayageref13_Compare_l7_of
    unfold drayageref13_Compare_l7_E
    rw [in_dec hd, out_dec hd']; rfl
  | x :: t, y :: t', i, h, h' => by
    obtain ⟨f1, f2, f3, f4⟩ := drop_cons h
    obtain ⟨g1, g2, g3, g4⟩ := drop_cons h'
    have hd : (iA ns).drop i = AV.int .i64 x :: iA t := by rw [← List.map_drop, h]; rfl
    have hd' : (iA ns').drop i = AV.int .i64 y :: iA t' := by rw [← List.map_drop, h']; rfl
    have ih := rcmp_loop e e' ns ns' le le' pre pre' pn pn' rev rev' hn t t' (i + 1) f3 g3
    apply drayageref13_Compare_l7_of
    unfold drayageref13_Compare_l7_E
    rw [in_dec hd, in_dec hd', getL_of hd, wr_succ (by omega), ih]
    simp only [cond_true, Option.bind_some, dInt, if_true]
    rw [getL_of hd']
    simp only [if_true, sign_is, Option.bind_some]
    rw [cmpN]
    by_cases hz : icmp x y = 0
    · rw [hz, thn_zero]; rfl
    · have : (icmp x y != 0) = true := by simpa using hz
      rw [this, thn_ne hz, if_neg hz]; rfl
theorem compare_1 (e : Int) (A : List AV) (le pre : List UInt8) (pn rev : Int) : vmap_Compare_1 e A le pre pn rev = some (if pre = [] then 4 else rk pre) := by
  apply vmap_Compare_1_of
  unfold vmap_Compare_1_E
  rw [pres_is]
  simp only [Option.bind_some, rk_is]
  by_cases h : pre = []
  · subst h; rfl
  · have : (pre == ([] : List UInt8)) = false := by simpa using h
    rw [this, if_neg h]; rfl
def rkE (pre : List UInt8) : Int := if pre = [] then 4 else rk pre
/-- What both compute. -/
def coreC (e e' : Int) (ns ns' : List Int) (le le' pre pre' : List UInt8) (pn pn' rev rev' : Int) : Int :=
  thn (icmp e e') (thn (cmpL le le' ns ns') (thn (icmp (rkE pre) (rkE pre')) (thn (icmp pn pn') (icmp rev rev'))))
theorem compare_is (e e' : Int) (ns ns' : List Int) (le le' pre pre' : List UInt8) (pn pn' rev rev' : Int) (hn : ns.length ≤ 300) (hl : le.length ≤ 100) (hp : pre.length ≤ 100) (hn' : ns'.length ≤ 300) (hl' : le'.length ≤ 100) (hp' : pre'.length ≤ 100) :
    vmap_Compare e (iA ns) le pre pn rev e' (iA ns') le' pre' pn' rev' = some (if okC e ns le pre pn rev && okC e' ns' le' pre' pn' rev' then coreC e e' ns ns' le le' pre pre' pn pn' rev rev' else 0) := by
  apply vmap_Compare_of
  unfold vmap_Compare_E
  rw [check_is e ns le pre pn rev hn hl hp, check_is e' ns' le' pre' pn' rev' hn' hl' hp']
  cases okC e ns le pre pn rev with
  | false => rfl
  | true =>
    cases okC e' ns' le' pre' pn' rev' with
    | false => rfl
    | true =>
      have hmax : IntKind.wrap .i64 ((if ((iA ns).length : Int) < ((iA ns').length : Int) then ((iA ns').length : Int) else ((iA ns).length : Int)) + 1) = ((max ns.length ns'.length + 1 : Nat) : Int) := by
        rw [List.length_map, List.length_map]
        by_cases h : (ns.length : Int) < (ns'.length : Int)
        · rw [if_pos h, wr (by omega)]; omega
        · rw [if_neg h, wr (by omega)]; omega
      have hloop : vmap_Compare_l5 (icmp e e') ((max ns.length ns'.length + 1 : Nat) : Int) 0 e (iA ns) le pre pn rev e' (iA ns') le' pre' pn' rev' = _ := cmp_loop e e' ns ns' le le' pre pre' pn pn' rev rev' (max ns.length ns'.length + 1) (by omega) (max ns.length ns'.length + 1) 0 (icmp e e') (by omega)
      have e0 : ((0 : Int) != 0) = false := rfl
      simp only [if_true, e0, Option.bind_some, cond_false, compare_int, hmax, hloop, compare_1, or_four, Bool.and_self]
      rw [seq_eq ns ns' le le' _ 0 ns ns' rfl rfl (by omega) (by omega) (by omega), thn_assoc]
      rfl
theorem bytes_leC {le le' : List UInt8} (h : leOk le = true) (h' : leOk le' = true) : (if le = le' then (0 : Int) else if Op.bytesLess le le' = true then -1 else 1) = leC le le' := by
  have one : ∀ {l : List UInt8}, leOk l = true → l = [] ∨ ∃ c, l = [c] := by
    intro l hl
    match l, hl with
    | [], _ => exact .inl rfl
    | [c], _ => exact .inr ⟨c, rfl⟩
    | _ :: _ :: _, hl => cases hl
  rcases one h with rfl | ⟨c, rfl⟩ <;> rcases one h' with rfl | ⟨d, rfl⟩
  · rfl
  · rfl
  · rfl
  · have h1 : Op.bytesLess [c] [d] = decide (c.toNat < d.toNat) := by
      show (decide (c < d) || (c == d && false)) = _
      rw [Bool.and_false, Bool.or_false]
      have : (c < d) ↔ (c.toNat < d.toNat) := UInt8.lt_iff_toNat_lt
      simp [this]
    rw [h1]
    have h2 : leC [c] [d] = icmp (c.toNat : Int) (d.toNat : Int) := by
      unfold leC stepC leK
      have : icmp 1 1 = 0 := rfl
      simp only [this]; rfl
    rw [h2]
    have h3 := icmp_cases (c.toNat : Int) (d.toNat : Int)
    by_cases hcd : c = d
    · subst hcd; rw [if_pos rfl]; omega
    · have hne : c.toNat ≠ d.toNat := fun e => hcd (UInt8.toNat_inj.1 e)
      rw [if_neg (by simpa using hcd)]
      by_cases hlt : c.toNat < d.toNat
      · rw [decide_eq_true hlt, if_pos rfl]; omega
      · rw [decide_eq_false hlt, if_neg (by simp)]; omega
theorem rcompare_is (e e' : Int) (ns ns' : List Int) (le le' pre pre' : List UInt8) (pn pn' rev rev' : Int) (hn : ns.length ≤ 300) (hl : le.length ≤ 100) (hp : pre.length ≤ 100) (hn' : ns'.length ≤ 300) (hl' : le'.length ≤ 100) (hp' : pre'.length ≤ 100) :
    drayageref13_Compare e (iA ns) le pre pn rev e' (iA ns') le' pre' pn' rev' = some (if okC e ns le pre pn rev && okC e' ns' le' pre' pn' rev' then coreC e e' ns ns' le le' pre pre' pn pn' rev rev' else 0) := by
  apply drayageref13_Compare_of
  unfold drayageref13_Compare_E
  rw [rcheck_is e ns le pre pn rev hn hl hp, rcheck_is e' ns' le' pre' pn' rev' hn' hl' hp']
  cases hok : okC e ns le pre pn rev with
  | false => rfl
  | true =>
    cases hok' : okC e' ns' le' pre' pn' rev' with
    | false => rfl
    | true =>
      have lo : leOk le = true := by unfold okC at hok; simp only [Bool.and_eq_true] at hok; exact hok.1.1.1.2
      have lo' : leOk le' = true := by unfold okC at hok'; simp only [Bool.and_eq_true] at hok'; exact hok'.1.1.1.2
      have hle := bytes_leC lo lo'
      have hloop : drayageref13_Compare_l7 0 e (iA ns) le pre pn rev e' (iA ns') le' pre' pn' rev' = _ := rcmp_loop e e' ns ns' le le' pre pre' pn pn' rev rev' (by omega) ns ns' 0 rfl rfl
      have e0 : ((0 : Int) != 0) = false := rfl
      simp only [if_true, e0, Option.bind_some, cond_false, sign_is, hloop, rank_is, Bool.and_self]
      unfold coreC
      rw [cmpL_eq, thn_assoc, thn_assoc]
      by_cases h1 : icmp e e' = 0
      · rw [h1, thn_zero]
        have : ((0 : Int) != 0) = false := rfl
        rw [this, cond_false]
        by_cases h2 : cmpN ns ns' = 0
        · rw [if_pos h2, h2, thn_zero]
          simp only [Sum.elim_inl, List.length_map]
          by_cases h3 : icmp (ns.length : Int) (ns'.length : Int) = 0
          · have hlen : (ns.length : Int) = (ns'.length : Int) := by have := icmp_cases (ns.length : Int) (ns'.length : Int); omega
            have : ((ns.length : Int) != (ns'.length : Int)) = false := by rw [hlen]; simp
            rw [this, h3, thn_zero, cond_false, ← hle]
            by_cases h4 : le = le'
            · have : (!(le == le')) = false := by rw [h4]; simp
              rw [this, if_pos h4, thn_zero, cond_false]
              unfold rkE
              by_cases h5 : icmp (if pre = [] then 4 else rk pre) (if pre' = [] then 4 else rk pre') = 0
              · rw [h5, thn_zero]
                have : ((0 : Int) != 0) = false := rfl
                rw [this, cond_false]
                by_cases h6 : icmp pn pn' = 0
                · rw [h6, thn_zero]; rfl
                · have : (icmp pn pn' != 0) = true := by simpa using h6
                  rw [this, thn_ne h6]; rfl
              · have : (icmp (if pre = [] then 4 else rk pre) (if pre' = [] then 4 else rk pre') != 0) = true := by simpa using h5
                rw [this, thn_ne h5]; rfl
            · have : (!(le == le')) = true := by simpa using h4
              rw [this, if_neg h4, cond_true]
              cases Op.bytesLess le le' <;> rfl
          · have : ((ns.length : Int) != (ns'.length : Int)) = true := by
              have := icmp_cases (ns.length : Int) (ns'.length : Int)
              rw [bne_iff_ne]; omega
            rw [this, thn_ne h3]; rfl
        · rw [if_neg h2, thn_ne h2]; rfl
      · have : (icmp e e' != 0) = true := by simpa using h1
        rw [this, thn_ne h1]; rfl
/-- VmapCompares, but for awake. -/
theorem compares_law (hw : drayagelaw13_awake = some true) (e e' : Int) (ns ns' : List Int) (le le' pre pre' : List UInt8) (pn pn' rev rev' : Int) :
    drayagelaw13_VmapCompares e (iA ns) le pre pn rev e' (iA ns') le' pre' pn' rev' = some true := by
  have light : ∀ (e : Int) (ns : List Int) (le pre : List UInt8) (pn rev : Int), drayagelaw13_light e (iA ns) le pre pn rev = some (decide (ns.length ≤ 300) && decide (le.length ≤ 100) && decide (pre.length ≤ 100)) := by
    intro e ns le pre pn rev
    apply drayagelaw13_light_of
    unfold drayagelaw13_light_E
    simp only [cond_some, cond_and, Option.bind_some, List.length_map]
    have h1 : decide ((ns.length : Int) ≤ 300) = decide (ns.length ≤ 300) := by rw [Bool.eq_iff_iff, decide_eq_true_iff, decide_eq_true_iff]; omega
    have h2 : decide ((le.length : Int) ≤ 100) = decide (le.length ≤ 100) := by rw [Bool.eq_iff_iff, decide_eq_true_iff, decide_eq_true_iff]; omega
    have h3 : decide ((pre.length : Int) ≤ 100) = decide (pre.length ≤ 100) := by rw [Bool.eq_iff_iff, decide_eq_true_iff, decide_eq_true_iff]; omega
    rw [h1, h2, h3]
  apply drayagelaw13_VmapCompares_of
  unfold drayagelaw13_VmapCompares_E
  rw [hw, light, light]
  cases hA : (decide (ns.length ≤ 300) && decide (le.length ≤ 100) && decide (pre.length ≤ 100)) with
  | false => rfl
  | true =>
    cases hB : (decide (ns'.length ≤ 300) && decide (le'.length ≤ 100) && decide (pre'.length ≤ 100)) with
    | false => rfl
    | true =>
      simp only [Bool.and_eq_true, decide_eq_true_eq] at hA hB
      rw [compare_is e e' ns ns' le le' pre pre' pn pn' rev rev' hA.1.1 hA.1.2 hA.2 hB.1.1 hB.1.2 hB.2, rcompare_is e e' ns ns' le le' pre pre' pn pn' rev rev' hA.1.1 hA.1.2 hA.2 hB.1.1 hB.1.2 hB.2]
      simp
end Go.Proofs.YtlgpcmklpknmcaaDoor
 end
