/- Names, words, signs: both answers are one.
   The parts of a text: those of the program are those that the document's reader sees. -/
import Derived.Test.YtomaefbhcpmbiaaPa
 section
set_option linter.unusedVariables false
set_option linter.unusedSimpArgs false
namespace Go.Proofs.Ytomaefbhcpmbiaa
open Go Go.Eng Go.Proofs

/-- Letters, digits and the slash. -/
def al (c : UInt8) : Bool := ((decide ((97 : Int) ≤ (UInt8.toNat c : Int)) && decide ((UInt8.toNat c : Int) ≤ 122)) || ((decide ((65 : Int) ≤ (UInt8.toNat c : Int)) && decide ((UInt8.toNat c : Int) ≤ 90)) || ((decide ((48 : Int) ≤ (UInt8.toNat c : Int)) && decide ((UInt8.toNat c : Int) ≤ 57)) || ((UInt8.toNat c : Int) == 47))))
def sp (c : UInt8) : Bool := ([46, 95, 43, 45, 58] : List UInt8).contains c
/-- How many brackets are open behind a text; none: it is no name. -/
def nm : Bool → Nat → List UInt8 → Option Nat
  | _, o, [] => some o
  | f, o, c :: t =>
    if al c then nm false o t else if f then none else if c = 40 then nm false (o + 1) t
    else if c = 41 then (match o with | 0 => none | o + 1 => nm false o t)
    else if sp c then nm false o t else none
theorem nm_cons (f : Bool) (o : Nat) (c : UInt8) (t : List UInt8) : nm f o (c :: t) = if al c then nm false o t else if f then none else if c = 40 then nm false (o + 1) t
    else if c = 41 then (match o with | 0 => none | o + 1 => nm false o t)
    else if sp c then nm false o t else none := by cases o <;> rfl
theorem al40 : al 40 = false := rfl
theorem al41 : al 41 = false := rfl
theorem sp40 : sp 40 = false := rfl
theorem sp41 : sp 41 = false := rfl
theorem byte_lit (c : UInt8) (d : UInt8) {n : Int} (h : (UInt8.toNat d : Int) = n) : ((UInt8.toNat c : Int) == n) = (c == d) := by
  rw [← h, byte_beq]
theorem al_cond {R : Type} (c : UInt8) (K : Bool → Option R) : ((cond (decide ((97 : Int) ≤ (UInt8.toNat c : Int))) (some (decide ((UInt8.toNat c : Int) ≤ 122))) (some false)).bind fun b20 => ((cond b20 (some true) (cond (decide ((65 : Int) ≤ (UInt8.toNat c : Int))) (some (decide ((UInt8.toNat c : Int) ≤ 90))) (some false))).bind fun b21 => ((cond b21 (some true) (cond (decide ((48 : Int) ≤ (UInt8.toNat c : Int))) (some (decide ((UInt8.toNat c : Int) ≤ 57))) (some false))).bind fun b22 => ((cond b22 (some true) (some ((UInt8.toNat c : Int) == 47))).bind K)))) = K (al c) := by
  simp only [cond_some, Option.bind_some, cond_and, cond_or, al, Bool.or_assoc]
theorem vname_loop (s : List UInt8) (hs : s.length ≤ 4611686018427387904) : ∀ (l : List UInt8) (i o : Nat), i ≤ s.length → o ≤ i → s.drop i = l →
    rdep_Name_l3 s (o : Int) (i : Int) = some (match nm (i == 0) o l with | some n => Sum.inl (s, (n : Int)) | none => Sum.inr false)
  | [], i, o, hi, ho, h => by
    apply rdep_Name_l3_of
    unfold rdep_Name_l3_E
    rw [out_dec h]
    rfl
  | c :: t, i, o, hi, ho, h => by
    obtain ⟨h1, h2, h3, h4⟩ := drop_cons h
    have i1 : (i + 1 == 0) = false := by simp
    have ih0 := vname_loop s hs t (i + 1) o (by omega) (by omega) h3
    rw [i1] at ih0
    apply rdep_Name_l3_of
    unfold rdep_Name_l3_E
    rw [in_dec h, idxS_of h, cond_true, al_cond]
    have e40 : ((UInt8.toNat c : Int) == 40) = (c == 40) := byte_lit c 40 rfl
    have e41 : ((UInt8.toNat c : Int) == 41) = (c == 41) := byte_lit c 41 rfl
    have ei : ((i : Int) == 0) = (i == 0) := by rw [Bool.eq_iff_iff, beq_iff_eq, beq_iff_eq]; omega
    simp only [cond_some, Option.bind_some, cond_and, cond_or, strings_IndexByte_is, indexByte_has, wr_succ (show i ≤ 4611686018427387904 by omega), ih0, e40, e41, ei]
    rw [nm_cons]
    have hsp : ([46, 95, 43, 45, 58] : List UInt8).contains c = sp c := rfl
    rw [hsp]
    by_cases c40 : c = 40
    · subst c40
      rw [al40]
      by_cases hi0 : i = 0
      · subst hi0
        rfl
      · have q1 : (i == 0) = false := by simpa using hi0
        have q2 : decide ((0 : Int) < (i : Int)) = true := decide_eq_true (by omega)
        have ih1 := vname_loop s hs t (i + 1) (o + 1) (by omega) (by omega) h3
        rw [i1] at ih1
        rw [q1, q2, wr_succ (by omega : o ≤ 4611686018427387904)]
        simp only [beq_self_eq_true, Bool.and_self, cond_true, Bool.false_eq_true, if_false, if_true]
        exact ih1
    · have q40 : (c == 40) = false := by simpa using c40
      rw [q40, Bool.false_and, cond_false]
      rw [if_neg c40]
      by_cases c41 : c = 41
      · subst c41
        rw [al41, if_pos rfl, sp41]
        simp only [beq_self_eq_true, Bool.true_and, Bool.false_eq_true, if_false]
        cases o with
        | zero =>
          have q : decide ((0 : Int) < ((0 : Nat) : Int)) = false := rfl
          rw [q]
          cases i == 0 <;> rfl
        | succ o =>
          have q : decide ((0 : Int) < ((o + 1 : Nat) : Int)) = true := decide_eq_true (by omega)
          have qi : (i == 0) = false := by rw [beq_eq_false_iff_ne]; omega
          have ih1 := vname_loop s hs t (i + 1) o (by omega) (by omega) h3
          rw [i1] at ih1
          rw [q, qi, wr_pred (by omega)]
          simp only [cond_true, Bool.false_eq_true, if_false]
          exact ih1
      · have q41 : (c == 41) = false := by simpa using c41
        rw [q41, Bool.false_and, cond_false, if_neg c41]
        cases al c <;> cases i == 0 <;> cases sp c <;> rfl
/-- Is that a name? -/
def nmOk (s : List UInt8) : Bool := !(s == []) && (decide ((s.length : Int) ≤ 64) && (nm true 0 s == some 0))
theorem vname_is (s : List UInt8) (hs : s.length ≤ 4611686018427387904) : rdep_Name s = some (nmOk s) := by
  apply rdep_Name_of
  unfold rdep_Name_E
  have h := vname_loop s hs s 0 0 (by omega) (by omega) rfl
  have h' : rdep_Name_l3 s 0 0 = some (match nm true 0 s with | some n => Sum.inl (s, (n : Int)) | none => Sum.inr false) := h
  rw [h']
  unfold nmOk
  cases hn : nm true 0 s with
  | none =>
    simp only [Option.bind_some, Sum.elim_inr]
    have : ((none : Option Nat) == some 0) = false := rfl
    rw [this, Bool.and_false, Bool.and_false]
  | some n =>
    simp only [Option.bind_some, Sum.elim_inl, cond_some, cond_and]
    have : (some n == some 0) = ((n : Int) == 0) := by
      rw [Bool.eq_iff_iff, beq_iff_eq, beq_iff_eq, Option.some_inj]; omega
    rw [this, Bool.and_assoc]
theorem rname_loop (s : List UInt8) (hs : s.length ≤ 4611686018427387904) : ∀ (l : List UInt8) (i o : Nat), i ≤ s.length → o ≤ i → s.drop i = l →
    drayageref15_Name_l5 s (o : Int) (i : Int) = some (match nm (i == 0) o l with | some n => Sum.inl (n : Int) | none => Sum.inr false)
  | [], i, o, hi, ho, h => by
    apply drayageref15_Name_l5_of
    unfold drayageref15_Name_l5_E
    rw [out_dec h]
    rfl
  | c :: t, i, o, hi, ho, h => by
    obtain ⟨h1, h2, h3, h4⟩ := drop_cons h
    have i1 : (i + 1 == 0) = false := by simp
    have ih0 := rname_loop s hs t (i + 1) o (by omega) (by omega) h3
    rw [i1] at ih0
    apply drayageref15_Name_l5_of
    unfold drayageref15_Name_l5_E
    rw [in_dec h, idxS_of h, cond_true, al_cond]
    have e40 : ((UInt8.toNat c : Int) == 40) = (c == 40) := byte_lit c 40 rfl
    have e41 : ((UInt8.toNat c : Int) == 41) = (c == 41) := byte_lit c 41 rfl
    have e46 : ((UInt8.toNat c : Int) == 46) = (c == 46) := byte_lit c 46 rfl
    have e95 : ((UInt8.toNat c : Int) == 95) = (c == 95) := byte_lit c 95 rfl
    have e43 : ((UInt8.toNat c : Int) == 43) = (c == 43) := byte_lit c 43 rfl
    have e45 : ((UInt8.toNat c : Int) == 45) = (c == 45) := byte_lit c 45 rfl
    have e58 : ((UInt8.toNat c : Int) == 58) = (c == 58) := byte_lit c 58 rfl
    have ei : ((i : Int) == 0) = (i == 0) := by rw [Bool.eq_iff_iff, beq_iff_eq, beq_iff_eq]; omega
    have hsp : ((((((c != 46) && (c != 95)) && (c != 43)) && (c != 45)) && (c != 58))) = !sp c := by
      unfold sp
      simp only [List.contains_cons, List.contains_nil, Bool.or_false, bne, Bool.not_or, Bool.and_assoc]
    simp only [cond_some, Option.bind_some, cond_and, cond_or, wr_succ (show i ≤ 4611686018427387904 by omega), ih0, e40, e41, ei, bne, e46, e95, e43, e45, e58]
    unfold bne at hsp
    rw [hsp]
    rw [nm_cons]
    cases ha : al c with
    | true => rfl
    | false =>
      rw [cond_false]
      cases hi0 : i == 0 with
      | true => rfl
      | false =>
        rw [cond_false]
        have hine : i ≠ 0 := by simpa using hi0
        by_cases c40 : c = 40
        · subst c40
          have ih1 := rname_loop s hs t (i + 1) (o + 1) (by omega) (by omega) h3
          rw [i1] at ih1
          rw [wr_succ (by omega : o ≤ 4611686018427387904)]
          simp only [beq_self_eq_true, cond_true, Bool.false_eq_true, if_false, if_true]
          exact ih1
        · have q40 : (c == 40) = false := by simpa using c40
          rw [q40, cond_false]
          simp only [if_neg c40]
          by_cases c41 : c = 41
          · subst c41
            simp only [beq_self_eq_true, cond_true, Bool.false_eq_true, if_false, if_true]
            cases o with
            | zero => rfl
            | succ o =>
              have ih1 := rname_loop s hs t (i + 1) o (by omega) (by omega) h3
              rw [i1] at ih1
              rw [wr_pred (by omega), decide_eq_false (by omega : ¬ ((o : Int) < 0))]
              exact ih1
          · have q41 : (c == 41) = false := by simpa using c41
            rw [q41, cond_false, if_neg c41]
            cases sp c <;> rfl
theorem rname_is (s : List UInt8) (hs : s.length ≤ 4611686018427387904) : drayageref15_Name s = some (nmOk s) := by
  apply drayageref15_Name_of
  unfold drayageref15_Name_E
  have h := rname_loop s hs s 0 0 (by omega) (by omega) rfl
  have h' : drayageref15_Name_l5 s 0 0 = some (match nm true 0 s with | some n => Sum.inl (n : Int) | none => Sum.inr false) := h
  rw [h']
  unfold nmOk
  simp only [cond_some, cond_or, Option.bind_some]
  cases s with
  | nil => rfl
  | cons c t =>
    have e1 : decide (((c :: t).length : Int) < 1) = false := decide_eq_false (by rw [List.length_cons]; omega)
    have e2 : ((c :: t) == ([] : List UInt8)) = false := rfl
    rw [e1, e2, Bool.false_or, Bool.not_false, Bool.true_and]
    by_cases h64 : (64 : Int) < ((c :: t).length : Int)
    · rw [decide_eq_true h64, decide_eq_false (by omega)]; rfl
    · rw [decide_eq_false h64, decide_eq_true (by omega), cond_false, Bool.true_and]
      cases hn : nm true 0 (c :: t) with
      | none => rfl
      | some n =>
        have : (some n == some 0) = ((n : Int) == 0) := by
          rw [Bool.eq_iff_iff, beq_iff_eq, beq_iff_eq, Option.some_inj]; omega
        rw [this]
        rfl

/-- The first place of a text among others. -/
def idxL : List (List UInt8) → List UInt8 → Nat → Int
  | [], _, _ => -1
  | x :: t, w, i => if (w == x) = true then (i : Int) else idxL t w (i + 1)
theorem idxL_cons (x : List UInt8) (t : List (List UInt8)) (w : List UInt8) (i : Nat) : idxL (x :: t) w i = if (w == x) = true then (i : Int) else idxL t w (i + 1) := rfl
theorem idxL_ge (w : List UInt8) : ∀ (l : List (List UInt8)) (i : Nat), -1 ≤ idxL l w i
  | [], _ => by unfold idxL; omega
  | x :: t, i => by
    unfold idxL
    have := idxL_ge w t (i + 1)
    split <;> omega
theorem index_loop (ls : List (List UInt8)) (w : List UInt8) (hs : ls.length ≤ 4611686018427387904) : ∀ (l : List (List UInt8)) (i : Nat), i ≤ ls.length → ls.drop i = l →
    slices_Index_string_string_l2 (ls.map AV.str) w (ls.length : Int) (i : Int) = some (if idxL l w i = -1 then Sum.inl () else Sum.inr (idxL l w i))
  | [], i, hi, h => by
    apply slices_Index_string_string_l2_of
    unfold slices_Index_string_string_l2_E
    rw [out_dec h]
    rfl
  | c :: t, i, hi, h => by
    obtain ⟨h1, h2, h3, h4⟩ := drop_cons h
    have hm : (ls.map AV.str).drop i = AV.str c :: t.map AV.str := by rw [← List.map_drop, h]; rfl
    apply slices_Index_string_string_l2_of
    unfold slices_Index_string_string_l2_E
    rw [in_dec h, getL_of hm, wr_succ (by omega), index_loop ls w hs t (i + 1) (by omega) h3, idxL_cons]
    simp only [dStr, cond_true]
    cases hw : w == c with
    | true =>
      have : ¬ ((i : Int) = -1) := by omega
      simp only [if_true, cond_true, if_neg this]
    | false => rfl
theorem index_is (ls : List (List UInt8)) (w : List UInt8) (hs : ls.length ≤ 4611686018427387904) : slices_Index_string_string (ls.map AV.str) w = some (idxL ls w 0) := by
  apply slices_Index_string_string_of
  unfold slices_Index_string_string_E
  have h := index_loop ls w hs ls 0 (by omega) rfl
  have h' : slices_Index_string_string_l2 (ls.map AV.str) w (ls.length : Int) 0 = _ := h
  rw [List.length_map, h']
  by_cases e : idxL ls w 0 = -1
  · rw [if_pos e, e]; rfl
  · rw [if_neg e]; rfl
/-- One of the six words. -/
def wordL : List (List UInt8) := [[97, 110, 100], [111, 114], [105, 102], [117, 110, 108, 101, 115, 115], [119, 105, 116, 104], [119, 105, 116, 104, 111, 117, 116]]
def isWord (w : List UInt8) : Bool := decide (0 ≤ idxL wordL w 0)
theorem words_is : rdep_words = some (wordL.map AV.str) := rdep_words_of rfl
theorem contains_is (w : List UInt8) : slices_Contains_string_string (wordL.map AV.str) w = some (isWord w) := by
  apply slices_Contains_string_string_of
  unfold slices_Contains_string_string_E
  rw [index_is wordL w (by decide)]
  rfl
theorem word_is (w : List UInt8) : drayageref15_Word w = some (isWord w) := by
  apply drayageref15_Word_of
  unfold drayageref15_Word_E isWord wordL idxL idxL idxL idxL idxL idxL idxL
  cases w == [97, 110, 100] <;> cases w == [111, 114] <;> cases w == [105, 102] <;> cases w == [117, 110, 108, 101, 115, 115] <;> cases w == [119, 105, 116, 104] <;> cases w == [119, 105, 116, 104, 111, 117, 116] <;> rfl
/-- A relation's number. -/
def signL : List (List UInt8) := [[60], [60, 61], [61], [62, 61], [62]]
def opOf (w : List UInt8) : Int := idxL signL w 0 + 1
theorem idxL_lt (w : List UInt8) : ∀ (l : List (List UInt8)) (i : Nat), idxL l w i < (i + l.length : Nat)
  | [], _ => by unfold idxL; omega
  | x :: t, i => by
    unfold idxL
    have := idxL_lt w t (i + 1)
    rw [List.length_cons]
    split <;> omega
theorem signs_is : rdep_signs = some (([] :: signL).map AV.str) := rdep_signs_of rfl
theorem sign_is (i : Nat) (x : List UInt8) (h : (([] :: signL) : List (List UInt8))[i]? = some x) : drayageref15_sign (i : Int) = some x := by
  apply drayageref15_sign_of
  unfold drayageref15_sign_E
  have : ((([] :: signL) : List (List UInt8)).map AV.str)[i]? = some (AV.str x) := by rw [List.getElem?_map, h]; rfl
  exact (getL_get this _).trans rfl
theorem op_loop (w : List UInt8) : ∀ (l : List (List UInt8)) (i : Nat), i ≤ 5 → signL.drop i = l → drayageref15_Op_l2 w ((i + 1 : Nat) : Int) = some (if idxL l w i = -1 then Sum.inl () else Sum.inr (idxL l w i + 1))
  | [], i, hi, h => by
    have := drop_nil h
    have h5 : signL.length = 5 := rfl
    have : i = 5 := by omega
    subst this
    apply drayageref15_Op_l2_of
    rfl
  | c :: t, i, hi, h => by
    obtain ⟨h1, h2, h3, h4⟩ := drop_cons h
    have h5 : signL.length = 5 := rfl
    apply drayageref15_Op_l2_of
    unfold drayageref15_Op_l2_E
    rw [decide_eq_true (by omega : ((i + 1 : Nat) : Int) < 6), sign_is (i + 1) c (by rw [List.getElem?_cons_succ]; exact h2), wr_succ (by omega), op_loop w t (i + 1) (by omega) h3]
    have hsym : (c == w) = (w == c) := by rw [Bool.eq_iff_iff, beq_iff_eq, beq_iff_eq]; exact eq_comm
    have hx : idxL (c :: t) w i = if (w == c) = true then (i : Int) else idxL t w (i + 1) := rfl
    rw [hx]
    simp only [cond_true, Option.bind_some, hsym]
    cases hw : w == c with
    | true =>
      have : ¬ ((i : Int) = -1) := by omega
      simp only [if_true, cond_true, if_neg this]
      congr 1
    | false => rfl
theorem op_is (w : List UInt8) : drayageref15_Op w = some (opOf w) := by
  apply drayageref15_Op_of
  unfold drayageref15_Op_E
  have h := op_loop w signL 0 (by omega) rfl
  have h' : drayageref15_Op_l2 w 1 = _ := h
  rw [h']
  unfold opOf
  by_cases e : idxL signL w 0 = -1
  · rw [if_pos e, e]; rfl
  · rw [if_neg e]; rfl
end Go.Proofs.Ytomaefbhcpmbiaa
 end

 section
set_option linter.unusedVariables false
set_option linter.unusedSimpArgs false
namespace Go.Proofs.Ytomaefbhcpmbiaa
open Go Go.Eng Go.Proofs

/-- How long a word is. -/
def wLen : Nat → List UInt8 → Nat
  | _, [] => 0
  | o, c :: t => if c = 32 then 0 else if c = 40 then wLen (o + 1) t + 1 else if c = 41 then (match o with | 0 => 0 | o + 1 => wLen o t + 1) else wLen o t + 1
theorem wLen_cons (o : Nat) (c : UInt8) (t : List UInt8) : wLen o (c :: t) = if c = 32 then 0 else if c = 40 then wLen (o + 1) t + 1 else if c = 41 then (match o with | 0 => 0 | o + 1 => wLen o t + 1) else wLen o t + 1 := by cases o <;> rfl
/-- How long a part is. -/
def tLen : List UInt8 → Nat
  | [] => 0
  | c :: t => if c = 40 ∨ c = 41 then 1 else wLen 0 (c :: t)
theorem tLen_cons (c : UInt8) (t : List UInt8) : tLen (c :: t) = if c = 40 ∨ c = 41 then 1 else wLen 0 (c :: t) := rfl
theorem wLen_le : ∀ (l : List UInt8) (o : Nat), wLen o l ≤ l.length
  | [], o => by cases o <;> exact Nat.le_refl _
  | c :: t, o => by
    have h1 := wLen_le t (o + 1)
    have h2 := wLen_le t o
    have h3 := wLen_le t (o - 1)
    rw [wLen_cons, List.length_cons]
    split
    · omega
    · split
      · omega
      · split
        · cases o with
          | zero => simp
          | succ o => simp only [Nat.add_sub_cancel] at h3; simp only; omega
        · omega
theorem tLen_le (l : List UInt8) : tLen l ≤ l.length := by
  cases l with
  | nil => exact Nat.le_refl _
  | cons c t =>
    rw [tLen_cons]
    split
    · rw [List.length_cons]; omega
    · exact wLen_le _ _
theorem tLen_pos {c : UInt8} {t : List UInt8} (h : c ≠ 32) : 0 < tLen (c :: t) := by
  rw [tLen_cons]
  split
  · omega
  · rename_i h2
    rw [wLen_cons, if_neg h, if_neg (fun e => h2 (.inl e)), if_neg (fun e => h2 (.inr e))]
    omega
def toks (p : Nat) (l : List UInt8) : List (List UInt8 × Nat) :=
  match l with
  | [] => []
  | c :: t => if h : c = 32 then toks (p + 1) t else ((c :: t).take (tLen (c :: t)), p) :: toks (p + tLen (c :: t)) ((c :: t).drop (tLen (c :: t)))
termination_by l.length
decreasing_by
  · rw [List.length_cons]; omega
  · have := tLen_pos (t := t) h
    rw [List.length_drop, List.length_cons]; omega
theorem toks_nil (p : Nat) : toks p [] = [] := by rw [toks]
theorem toks_blank (p : Nat) (t : List UInt8) : toks p (32 :: t) = toks (p + 1) t := by rw [toks]; simp
theorem toks_tok (p : Nat) {c : UInt8} (t : List UInt8) (h : c ≠ 32) : toks p (c :: t) = ((c :: t).take (tLen (c :: t)), p) :: toks (p + tLen (c :: t)) ((c :: t).drop (tLen (c :: t))) := by
  rw [toks]; simp [h]
theorem toks_le : ∀ (n : Nat) (l : List UInt8) (p : Nat), l.length ≤ n → (toks p l).length ≤ l.length
  | _, [], p, _ => by rw [toks_nil]; exact Nat.le_refl _
  | 0, c :: t, p, h => by rw [List.length_cons] at h; omega
  | n + 1, c :: t, p, h => by
    rw [List.length_cons] at h
    by_cases hc : c = 32
    · subst hc
      rw [toks_blank, List.length_cons]
      have := toks_le n t (p + 1) (by omega)
      omega
    · rw [toks_tok p t hc, List.length_cons]
      have h2 := tLen_pos (t := t) hc
      have := toks_le n ((c :: t).drop (tLen (c :: t))) (p + tLen (c :: t)) (by rw [List.length_drop, List.length_cons]; omega)
      rw [List.length_drop] at this
      have h3 := tLen_le (c :: t)
      rw [List.length_cons] at h3 this ⊢
      omega
/-- How many blanks. -/
def sk (l : List UInt8) : Nat := (l.takeWhile (fun c => c == 32)).length
theorem sk_blank (t : List UInt8) : sk (32 :: t) = sk t + 1 := by
  unfold sk
  rw [List.takeWhile_cons]
  rfl
theorem sk_tok {c : UInt8} (t : List UInt8) (h : c ≠ 32) : sk (c :: t) = 0 := by
  unfold sk
  rw [List.takeWhile_cons]
  have : (c == 32) = false := by simpa using h
  simp only [this]
  rfl
theorem toks_sk : ∀ (l : List UInt8) (p : Nat), toks (p + sk l) (l.drop (sk l)) = toks p l
  | [], p => rfl
  | c :: t, p => by
    by_cases h : c = 32
    · subst h
      rw [sk_blank, List.drop_succ_cons, toks_blank, ← toks_sk t (p + 1)]
      congr 1
      omega
    · rw [sk_tok t h]; rfl
theorem sk_le (l : List UInt8) : sk l ≤ l.length := takeWhile_le _ l
theorem sk_head (l : List UInt8) : ∀ c t, l.drop (sk l) = c :: t → c ≠ 32 := by
  induction l with
  | nil => intro c t h; cases h
  | cons d u ih =>
    intro c t h
    by_cases hd : d = 32
    · subst hd
      rw [sk_blank, List.drop_succ_cons] at h
      exact ih c t h
    · rw [sk_tok u hd] at h
      cases h
      exact hd

/-- A part in the memory. -/
def tE (x : List UInt8 × Nat) : AV := AV.agg [AV.str x.1, AV.int .i64 (x.2 : Int)]
theorem k17_is (s : List UInt8) (out : List (List UInt8 × Nat)) (i j : Nat) (hij : i ≤ j) (hj : j ≤ s.length) (ho : out.length ≤ 50000) :
    rdep_parts_k17 s (out.map tE) (j : Int) (i : Int) = some (s, ((out ++ [((s.take j).drop i, i)]).map tE, (j : Int))) := by
  apply rdep_parts_k17_of
  unfold rdep_parts_k17_E
  rw [cutS_of hij hj, room_of (by simp; omega) (by omega), List.map_append]
  rfl
/-- The inner loop of the program. -/
theorem l6_is (s : List UInt8) (out : List AV) (fr : Int) (hs : s.length ≤ 4611686018427387904) : ∀ (l : List UInt8) (i o : Nat), s.drop i = l → i ≤ s.length → o ≤ i →
    rdep_parts_l6 s out (i : Int) fr (o : Int) = some (s, out, ((i + wLen o l : Nat) : Int), fr)
  | [], i, o, h, hi, ho => by
    have : wLen o [] = 0 := by cases o <;> rfl
    rw [this]
    apply rdep_parts_l6_of
    unfold rdep_parts_l6_E
    rw [out_dec h]
    rfl
  | c :: t, i, o, h, hi, ho => by
    obtain ⟨h1, h2, h3, h4⟩ := drop_cons h
    have ih0 := l6_is s out fr hs t (i + 1) o h3 (by omega) (by omega)
    have ih1 := l6_is s out fr hs t (i + 1) (o + 1) h3 (by omega) (by omega)
    apply rdep_parts_l6_of
    unfold rdep_parts_l6_E
    have e40 : ((UInt8.toNat c : Int) == 40) = (c == 40) := byte_lit c 40 rfl
    have e41 : ((UInt8.toNat c : Int) == 41) = (c == 41) := byte_lit c 41 rfl
    have e32 : ((UInt8.toNat c : Int) == 32) = (c == 32) := byte_lit c 32 rfl
    simp only [in_dec h, idxS_of h, cond_true, bne, e40, e41, e32, cond_some, Option.bind_some, cond_and, cond_or]
    rw [wr_succ (by omega), wr_succ (by omega), ih0, ih1, wLen_cons]
    by_cases c32 : c = 32
    · subst c32
      rfl
    · have q32 : (c == 32) = false := by simpa using c32
      rw [q32, if_neg c32]
      by_cases c40 : c = 40
      · subst c40
        simp only [Bool.not_false, Bool.true_and, cond_true, beq_self_eq_true, if_true, Bool.false_or, Bool.or_false]
        have : ((40 : UInt8) == 41) = false := rfl
        rw [this]
        simp only [Bool.not_false, Bool.true_or, cond_true]
        rw [Nat.add_right_comm, Nat.add_assoc]
      · have q40 : (c == 40) = false := by simpa using c40
        rw [q40, if_neg c40]
        by_cases c41 : c = 41
        · subst c41
          simp only [Bool.not_false, Bool.true_and, cond_true, cond_false, beq_self_eq_true, if_true, Bool.not_true, Bool.false_or]
          cases o with
          | zero => rfl
          | succ o =>
            have q : decide ((0 : Int) < ((o + 1 : Nat) : Int)) = true := decide_eq_true (by omega)
            rw [q, wr_pred (by omega), l6_is s out fr hs t (i + 1) o h3 (by omega) (by omega)]
            simp only [cond_true]
            rw [Nat.add_right_comm, Nat.add_assoc]
        · have q41 : (c == 41) = false := by simpa using c41
          rw [q41, if_neg c41]
          simp only [Bool.not_false, Bool.true_and, Bool.true_or, cond_true, cond_false]
          rw [Nat.add_right_comm, Nat.add_assoc]
theorem parts_loop (s : List UInt8) (hs : s.length ≤ 4000) : ∀ (n : Nat) (l : List UInt8) (i : Nat) (out : List (List UInt8 × Nat)), l.length ≤ n → s.drop i = l → i ≤ s.length → out.length ≤ i →
    rdep_parts_l3 s (out.map tE) (i : Int) = some (s, (out ++ toks i l).map tE)
  | _, [], i, out, hn, h, hi, ho => by
    apply rdep_parts_l3_of
    unfold rdep_parts_l3_E
    rw [out_dec h, toks_nil, List.append_nil]
    rfl
  | 0, c :: t, i, out, hn, h, hi, ho => by rw [List.length_cons] at hn; omega
  | n + 1, c :: t, i, out, hn, h, hi, ho => by
    obtain ⟨h1, h2, h3, h4⟩ := drop_cons h
    rw [List.length_cons] at hn
    apply rdep_parts_l3_of
    unfold rdep_parts_l3_E
    have e40 : ((UInt8.toNat c : Int) == 40) = (c == 40) := byte_lit c 40 rfl
    have e41 : ((UInt8.toNat c : Int) == 41) = (c == 41) := byte_lit c 41 rfl
    have e32 : ((UInt8.toNat c : Int) == 32) = (c == 32) := byte_lit c 32 rfl
    simp only [in_dec h, idxS_of h, cond_true, e40, e41, e32]
    rw [wr_succ (by omega)]
    by_cases c32 : c = 32
    · subst c32
      rw [toks_blank]
      exact parts_loop s hs n t (i + 1) out (by omega) h3 (by omega) (by omega)
    · have q32 : (c == 32) = false := by simpa using c32
      rw [q32, cond_false, toks_tok i t c32]
      have hpos := tLen_pos (t := t) c32
      have hle := tLen_le (c :: t)
      rw [List.length_cons] at hle
      have hd : s.drop (i + tLen (c :: t)) = (c :: t).drop (tLen (c :: t)) := by rw [← List.drop_drop, h]
      have hrec := parts_loop s hs n ((c :: t).drop (tLen (c :: t))) (i + tLen (c :: t)) (out ++ [((c :: t).take (tLen (c :: t)), i)]) (by rw [List.length_drop, List.length_cons]; omega) hd (by omega) (by rw [List.length_append, List.length_singleton]; omega)
      rw [List.append_assoc] at hrec
      have htk : (s.take (i + tLen (c :: t))).drop i = (c :: t).take (tLen (c :: t)) := by
        rw [List.drop_take, h]
        congr 1
        omega
      have hk := k17_is s out i (i + tLen (c :: t)) (by omega) (by omega) (by omega)
      rw [htk] at hk
      by_cases c40 : c = 40
      · subst c40
        have hl : tLen (40 :: t) = 1 := rfl
        rw [hl] at hrec hk ⊢
        simp only [beq_self_eq_true, cond_true]
        rw [hk]
        exact hrec
      · have q40 : (c == 40) = false := by simpa using c40
        rw [q40, cond_false]
        by_cases c41 : c = 41
        · subst c41
          have hl : tLen (41 :: t) = 1 := rfl
          rw [hl] at hrec hk ⊢
          simp only [beq_self_eq_true, cond_true]
          rw [hk]
          exact hrec
        · have q41 : (c == 41) = false := by simpa using c41
          have hl : tLen (c :: t) = wLen 0 (c :: t) := by
            rw [tLen_cons, if_neg (fun e => Or.elim e c40 c41)]
          have h6 := l6_is s (out.map tE) (i : Int) (by omega) (c :: t) i 0 h (by omega) (by omega)
          have h6' : rdep_parts_l6 s (out.map tE) (i : Int) (i : Int) 0 = _ := h6
          rw [← hl] at h6'
          rw [q41, cond_false, h6']
          simp only [Option.bind_some]
          rw [hk]
          exact hrec
/-- All that is left from a place on, the end too. -/
def T (s : List UInt8) (a : Nat) : List (List UInt8 × Nat) := toks a (s.drop a) ++ [([], s.length)]
theorem parts_is (s : List UInt8) (hs : s.length ≤ 4000) : rdep_parts s = some ((T s 0).map tE) := by
  apply rdep_parts_of
  unfold rdep_parts_E
  have h := parts_loop s hs s.length s 0 [] (Nat.le_refl _) rfl (by omega) (by simp)
  have h' : rdep_parts_l3 s [] 0 = some (s, ([] ++ toks 0 s).map tE) := h
  rw [h', List.nil_append]
  have hl := toks_le s.length s 0 (Nat.le_refl _)
  simp only [Option.bind_some]
  rw [room_of (by simp; omega) (by omega)]
  unfold T
  rw [List.drop_zero, List.map_append]
  rfl
theorem T_length (s : List UInt8) (hs : s.length ≤ 4000) : ((T s 0).map tE).length ≤ 4001 := by
  have hl := toks_le s.length s 0 (Nat.le_refl _)
  unfold T
  rw [List.drop_zero, List.length_map, List.length_append, List.length_singleton]
  omega

/-- The document's reader. -/
theorem skip_loop (s : List UInt8) (hs : s.length ≤ 4611686018427387904) (f1 : List UInt8) (f2 f3 c : Int) : ∀ (l : List UInt8) (i : Nat), s.drop i = l → i ≤ s.length →
    drayageref15_State_skip_l0 s (i : Int) f1 f2 f3 c = some (s, ((i + sk l : Nat) : Int), f1, f2, f3, c)
  | [], i, h, hi => by
    apply drayageref15_State_skip_l0_of
    unfold drayageref15_State_skip_l0_E
    rw [out_dec h]
    rfl
  | d :: t, i, h, hi => by
    obtain ⟨h1, h2, h3, h4⟩ := drop_cons h
    apply drayageref15_State_skip_l0_of
    unfold drayageref15_State_skip_l0_E
    have e32 : ((UInt8.toNat d : Int) == 32) = (d == 32) := byte_lit d 32 rfl
    rw [in_dec h, idxS_of h, e32, wr_succ (by omega), skip_loop s hs f1 f2 f3 c t (i + 1) h3 (by omega)]
    by_cases c32 : d = 32
    · subst c32
      rw [sk_blank]
      simp only [cond_true, beq_self_eq_true, Option.bind_some]
      rw [Nat.add_right_comm, Nat.add_assoc]
    · have q32 : (d == 32) = false := by simpa using c32
      rw [sk_tok t c32, q32]
      rfl
theorem skip_is (s : List UInt8) (hs : s.length ≤ 4611686018427387904) (f1 : List UInt8) (f2 f3 c : Int) (i : Nat) (hi : i ≤ s.length) : drayageref15_State_skip s (i : Int) f1 f2 f3 c = some ((), (s, ((i + sk (s.drop i) : Nat) : Int), f1, f2, f3, c)) := by
  apply drayageref15_State_skip_of
  unfold drayageref15_State_skip_E
  rw [skip_loop s hs f1 f2 f3 c _ i rfl hi]
  rfl
theorem l8_is (s : List UInt8) (hs : s.length ≤ 4611686018427387904) (at' : Int) (f1 : List UInt8) (f2 f3 c : Int) : ∀ (l : List UInt8) (i o : Nat), s.drop i = l → i ≤ s.length → o ≤ i →
    drayageref15_State_look_l8 (i : Int) (o : Int) s at' f1 f2 f3 c = some (((i + wLen o l : Nat) : Int), (s, at', f1, f2, f3, c))
  | [], i, o, h, hi, ho => by
    have : wLen o [] = 0 := by cases o <;> rfl
    rw [this]
    apply drayageref15_State_look_l8_of
    unfold drayageref15_State_look_l8_E
    rw [out_dec h]
    rfl
  | d :: t, i, o, h, hi, ho => by
    obtain ⟨h1, h2, h3, h4⟩ := drop_cons h
    have ih0 := l8_is s hs at' f1 f2 f3 c t (i + 1) o h3 (by omega) (by omega)
    have ih1 := l8_is s hs at' f1 f2 f3 c t (i + 1) (o + 1) h3 (by omega) (by omega)
    have e40 : ((UInt8.toNat d : Int) == 40) = (d == 40) := byte_lit d 40 rfl
    have e41 : ((UInt8.toNat d : Int) == 41) = (d == 41) := byte_lit d 41 rfl
    have e32 : ((UInt8.toNat d : Int) == 32) = (d == 32) := byte_lit d 32 rfl
    have k11 : ∀ x : Int, drayageref15_State_look_k11_E (i : Int) x s at' f1 f2 f3 c = (cond (d == 41) (cond (decide ((IntKind.wrap .i64 (x - 1)) < 0)) (some (Sum.inr ((i : Int), (s, at', f1, f2, f3, c)))) (some (Sum.inl (((i + 1 : Nat) : Int), (IntKind.wrap .i64 (x - 1)), (s, at', f1, f2, f3, c))))) (some (Sum.inl (((i + 1 : Nat) : Int), x, (s, at', f1, f2, f3, c))))) := by
      intro x
      unfold drayageref15_State_look_k11_E
      rw [idxS_of h, e41, wr_succ (by omega)]
    apply drayageref15_State_look_l8_of
    unfold drayageref15_State_look_l8_E
    simp only [in_dec h, idxS_of h, cond_true, bne, e40, e32, Option.bind_some]
    rw [wLen_cons]
    by_cases c32 : d = 32
    · subst c32
      rfl
    · have q32 : (d == 32) = false := by simpa using c32
      rw [q32, if_neg c32]
      by_cases c40 : d = 40
      · subst c40
        have hk := k11 ((o + 1 : Nat) : Int)
        have : ((40 : UInt8) == 41) = false := rfl
        rw [this, cond_false] at hk
        simp only [Bool.not_false, cond_true, beq_self_eq_true, if_true]
        rw [wr_succ (by omega), drayageref15_State_look_k11_of hk]
        simp only [Option.bind_some, Sum.elim_inl]
        rw [ih1, Nat.add_right_comm, Nat.add_assoc]
      · have q40 : (d == 40) = false := by simpa using c40
        rw [q40, if_neg c40]
        simp only [Bool.not_false, cond_true, cond_false]
        by_cases c41 : d = 41
        · subst c41
          have hk := k11 (o : Int)
          simp only [beq_self_eq_true, cond_true] at hk
          rw [if_pos rfl]
          cases o with
          | zero =>
            have : decide (IntKind.wrap .i64 (((0 : Nat) : Int) - 1) < 0) = true := by rw [wr (by omega)]; rfl
            rw [this, cond_true] at hk
            rw [drayageref15_State_look_k11_of hk]
            rfl
          | succ o =>
            have : decide (IntKind.wrap .i64 (((o + 1 : Nat) : Int) - 1) < 0) = false := by rw [wr (by omega)]; exact decide_eq_false (by omega)
            rw [this, cond_false, wr_pred (by omega)] at hk
            rw [drayageref15_State_look_k11_of hk]
            simp only [Option.bind_some, Sum.elim_inl]
            rw [l8_is s hs at' f1 f2 f3 c t (i + 1) o h3 (by omega) (by omega), Nat.add_right_comm, Nat.add_assoc]
        · have q41 : (d == 41) = false := by simpa using c41
          have hk := k11 (o : Int)
          rw [q41, cond_false] at hk
          rw [if_neg c41, drayageref15_State_look_k11_of hk]
          simp only [Option.bind_some, Sum.elim_inl]
          rw [ih0, Nat.add_right_comm, Nat.add_assoc]
theorem look_is (s : List UInt8) (hs : s.length ≤ 4000) (f1 : List UInt8) (f2 f3 c : Int) (i : Nat) (hi : i ≤ s.length) (m : Nat) (hm : m = i + sk (s.drop i)) :
    drayageref15_State_look s (i : Int) f1 f2 f3 c = some ((s.drop m).take (tLen (s.drop m)), (s, (m : Int), f1, f2, f3, c)) := by
  apply drayageref15_State_look_of
  unfold drayageref15_State_look_E
  rw [skip_is s (by omega) f1 f2 f3 c i hi, ← hm]
  have hml : m ≤ s.length := by
    have := sk_le (s.drop i)
    rw [List.length_drop] at this
    omega
  simp only [Option.bind_some]
  cases hd : s.drop m with
  | nil =>
    have := drop_nil hd
    have e : ((m : Int) == (s.length : Int)) = true := by rw [beq_iff_eq]; omega
    rw [e]
    rfl
  | cons d t =>
    obtain ⟨h1, h2, h3, h4⟩ := drop_cons hd
    have e : ((m : Int) == (s.length : Int)) = false := by rw [beq_eq_false_iff_ne]; omega
    have e40 : ((UInt8.toNat d : Int) == 40) = (d == 40) := byte_lit d 40 rfl
    have e41 : ((UInt8.toNat d : Int) == 41) = (d == 41) := byte_lit d 41 rfl
    simp only [e, cond_false, idxS_of hd, e40, e41, cond_some, cond_or, Option.bind_some]
    have hle := tLen_le (d :: t)
    rw [List.length_cons] at hle
    have htk : ∀ k : Nat, k = tLen (d :: t) → (s.take (m + k)).drop m = (d :: t).take (tLen (d :: t)) := by
      intro k hk
      rw [List.drop_take, hd, hk]
      congr 1
      omega
    by_cases hb : d = 40 ∨ d = 41
    · have hl : tLen (d :: t) = 1 := by rw [tLen_cons, if_pos hb]
      have : ((d == 40) || (d == 41)) = true := by
        rcases hb with rfl | rfl <;> rfl
      rw [this, cond_true, wr_succ (by omega), cutS_of (by omega) (by omega), htk 1 hl.symm]
    · have hl : tLen (d :: t) = wLen 0 (d :: t) := by rw [tLen_cons, if_neg hb]
      have : ((d == 40) || (d == 41)) = false := by
        rw [Bool.or_eq_false_iff, beq_eq_false_iff_ne, beq_eq_false_iff_ne]
        exact ⟨fun e => hb (.inl e), fun e => hb (.inr e)⟩
      have h8 := l8_is s (by omega) (m : Int) f1 f2 f3 c (d :: t) m 0 hd (by omega) (by omega)
      have h8' : drayageref15_State_look_l8 (m : Int) 0 s (m : Int) f1 f2 f3 c = _ := h8
      rw [this, cond_false, h8', ← hl]
      simp only [Option.bind_some]
      rw [cutS_of (by omega) (by omega), htk _ rfl]
/-- The program's place and the document's are the same. -/
def At (s : List UInt8) (ps : List AV) (n a : Nat) : Prop := ps.drop n = (T s a).map tE ∧ ps.length ≤ 4001 ∧ a ≤ s.length
theorem At_zero (s : List UInt8) (hs : s.length ≤ 4000) : At s ((T s 0).map tE) 0 0 := ⟨rfl, T_length s hs, by omega⟩
/-- One part: the program's is the document's. -/
theorem step {s : List UInt8} {ps : List AV} {n a : Nat} (hs : s.length ≤ 4000) (h : At s ps n a) : ∃ (tok : List UInt8) (m n' : Nat),
    (∀ f1 f2 f3, rdep_reader_look ps (n : Int) f1 f2 f3 = some (tok, (m : Int))) ∧
    (∀ f1 f2 f3, rdep_reader_take ps (n : Int) f1 f2 f3 = some ((tok, (m : Int)), (ps, (n' : Int), f1, f2, f3))) ∧
    (∀ f1 f2 f3 c, drayageref15_State_look s (a : Int) f1 f2 f3 c = some (tok, (s, (m : Int), f1, f2, f3, c))) ∧
    a ≤ m ∧ m + tok.length ≤ s.length ∧ At s ps n m ∧ At s ps n' (m + tok.length) := by
  obtain ⟨h1, h2, h3⟩ := h
  have hm := sk_le (s.drop a)
  rw [List.length_drop] at hm
  have hT : T s (a + sk (s.drop a)) = T s a := by
    unfold T
    rw [← List.drop_drop, toks_sk]
  have hlen := congrArg List.length h1
  rw [List.length_drop, List.length_map] at hlen
  cases hd : s.drop (a + sk (s.drop a)) with
  | nil =>
    have hml := drop_nil hd
    have hTe : T s (a + sk (s.drop a)) = [([], s.length)] := by
      unfold T
      rw [hd, toks_nil]
      rfl
    have e0 : a + sk (s.drop a) = s.length := by omega
    have hps : ps.drop n = [tE ([], s.length)] := by rw [h1, ← hT, hTe]; rfl
    have hn : ps.length = n + 1 := by
      have := congrArg List.length hps
      rw [List.length_drop, List.length_singleton] at this
      omega
    refine ⟨[], s.length, n, ?_, ?_, ?_, by omega, by simp, ⟨by rw [h1, ← hT, e0], h2, Nat.le_refl _⟩, ⟨by rw [h1, ← hT, e0]; rfl, h2, Nat.le_refl _⟩⟩
    · intro f1 f2 f3
      apply rdep_reader_look_of
      unfold rdep_reader_look_E
      exact (getL_of hps _).trans rfl
    · intro f1 f2 f3
      apply rdep_reader_take_of
      unfold rdep_reader_take_E
      refine (getL_of hps _).trans ?_
      simp only [tE, dAgg, dCons, dStr, dInt, dNil, BEq.rfl, if_true, cond_true]
      rw [hn, wr_pred (by omega), wr_succ (by omega), if_pos (by omega)]
    · intro f1 f2 f3 c
      have := look_is s hs f1 f2 f3 c a h3 _ rfl
      rw [hd, e0] at this
      exact this
  | cons d t =>
    have hd32 := sk_head (s.drop a) d t (by rw [List.drop_drop]; exact hd)
    obtain ⟨g1, g2, g3, g4⟩ := drop_cons hd
    have hle := tLen_le (d :: t)
    rw [List.length_cons] at hle
    have hpos := tLen_pos (t := t) hd32
    have htl : ((d :: t).take (tLen (d :: t))).length = tLen (d :: t) := by rw [List.length_take, List.length_cons]; omega
    have hTe : T s (a + sk (s.drop a)) = ((d :: t).take (tLen (d :: t)), a + sk (s.drop a)) :: T s (a + sk (s.drop a) + tLen (d :: t)) := by
      unfold T
      rw [hd, toks_tok _ t hd32, List.cons_append]
      congr 3
      rw [← List.drop_drop, hd]
    have hps : ps.drop n = tE ((d :: t).take (tLen (d :: t)), a + sk (s.drop a)) :: (T s (a + sk (s.drop a) + tLen (d :: t))).map tE := by rw [h1, ← hT, hTe]; rfl
    obtain ⟨k1, k2, k3, k4⟩ := drop_cons hps
    have hne : 0 < ((T s (a + sk (s.drop a) + tLen (d :: t))).map tE).length := by
      unfold T
      rw [List.length_map, List.length_append, List.length_singleton]
      omega
    refine ⟨(d :: t).take (tLen (d :: t)), a + sk (s.drop a), n + 1, ?_, ?_, ?_, by omega, by rw [htl]; omega, ⟨by rw [h1, ← hT], h2, by omega⟩, ⟨by rw [k3, htl], h2, by rw [htl]; omega⟩⟩
    · intro f1 f2 f3
      apply rdep_reader_look_of
      unfold rdep_reader_look_E
      exact (getL_of hps _).trans rfl
    · intro f1 f2 f3
      apply rdep_reader_take_of
      unfold rdep_reader_take_E
      refine (getL_of hps _).trans ?_
      simp only [tE, dAgg, dCons, dStr, dInt, dNil, BEq.rfl, if_true, cond_true]
      rw [wr_succ (by omega), wr (by omega), if_neg (by omega)]
    · intro f1 f2 f3 c
      have := look_is s hs f1 f2 f3 c a h3 _ rfl
      rw [hd] at this
      exact this
end Go.Proofs.Ytomaefbhcpmbiaa
 end
