/- What a version is: both answers are one (texts with a colon or without).
   What a version is: both answers are one (Apk's). -/
import Derived.Test.YtlgpcmklpknmcaaDoorQb
 section
set_option linter.unusedVariables false
set_option linter.unusedSimpArgs false
namespace Go.Proofs.YtlgpcmklpknmcaaDoor
open Go Go.Eng Go.Proofs

theorem rletter_is (a : Int) : drayageref12_letter a = some (lit a) := by
  apply drayageref12_letter_of
  unfold drayageref12_letter_E lit
  simp only [cond_some, cond_and, cond_or, Option.bind_some]
theorem rin_loop (s : List UInt8) (c : UInt8) (hs : s.length ≤ 100000) : ∀ (l : List UInt8) (i : Nat), s.drop i = l → drayageref12_in_l2 (UInt8.toNat c : Int) s (i : Int) = some (if l.contains c then Sum.inr true else Sum.inl ())
  | [], i, h => by
    apply drayageref12_in_l2_of
    unfold drayageref12_in_l2_E
    rw [out_dec h]; rfl
  | d :: t, i, h => by
    obtain ⟨h1, h2, h3, h4⟩ := drop_cons h
    apply drayageref12_in_l2_of
    unfold drayageref12_in_l2_E
    rw [in_dec h, idxS_of h, byte_beq, wr_succ (by omega), rin_loop s c hs t (i + 1) h3, List.contains_cons]
    by_cases e : d = c
    · subst e; simp
    · have e1 : (d == c) = false := by simpa using e
      have e2 : (c == d) = false := by simpa using fun x => e x.symm
      rw [e1, e2]; rfl
theorem rin_is (c : UInt8) (s : List UInt8) (hs : s.length ≤ 100000) : drayageref12_in (UInt8.toNat c : Int) s = some (s.contains c) := by
  apply drayageref12_in_of
  unfold drayageref12_in_E
  have h : drayageref12_in_l2 (UInt8.toNat c : Int) s 0 = _ := rin_loop s c hs s 0 rfl
  rw [h]
  cases s.contains c <;> rfl
theorem rmade_loop (s o : List UInt8) (hs : s.length ≤ 100000) (ho : o.length ≤ 100) : ∀ (l : List UInt8) (i : Nat), s.drop i = l → drayageref12_made_l2 s o (i : Int) = some (if l.all (mk o) then Sum.inl s else Sum.inr false)
  | [], i, h => by
    apply drayageref12_made_l2_of
    unfold drayageref12_made_l2_E
    rw [out_dec h]; rfl
  | d :: t, i, h => by
    obtain ⟨h1, h2, h3, h4⟩ := drop_cons h
    apply drayageref12_made_l2_of
    unfold drayageref12_made_l2_E
    rw [in_dec h, idxS_of h]
    simp only [idxS_of h, rdigit_is, rletter_is, rin_is _ _ (show o.length ≤ 100000 by omega), Option.bind_some, cond_some, cond_true]
    rw [wr_succ (by omega), rmade_loop s o hs ho t (i + 1) h3, List.all_cons]
    have e1 : dig (UInt8.toNat d : Int) = dg d := rfl
    have e2 : lit (UInt8.toNat d : Int) = lt d := rfl
    rw [e1, e2]
    unfold mk
    cases dg d <;> cases lt d <;> cases o.contains d <;> simp
theorem rmade_is (s o : List UInt8) (hs : s.length ≤ 100000) (ho : o.length ≤ 100) : drayageref12_made s o = some (s.all (mk o) && !(s == [])) := by
  apply drayageref12_made_of
  unfold drayageref12_made_E
  have h' : drayageref12_made_l2 s o 0 = _ := rmade_loop s o hs ho s 0 rfl
  rw [h']
  have hn := nonempty_is s
  cases s.all (mk o)
  · rfl
  · simp only [if_true, Option.bind_some, Sum.elim_inl, hn, Bool.true_and]
theorem rplace_loop (s : List UInt8) (b : UInt8) (hs : s.length ≤ 100000) : ∀ k : Nat, k ≤ s.length →
    drayageref12_place_l2 s (UInt8.toNat b : Int) ((k : Int) - 1) = some (if lastAt s b k = -1 then Sum.inl () else Sum.inr (lastAt s b k))
  | 0, _ => by
    apply drayageref12_place_l2_of
    unfold drayageref12_place_l2_E
    rfl
  | k + 1, hk => by
    have e : (((k + 1 : Nat) : Int) - 1) = (k : Int) := by omega
    rw [e]
    apply drayageref12_place_l2_of
    unfold drayageref12_place_l2_E
    have hg : s[k]? = some (s[k]'(by omega)) := List.getElem?_eq_getElem (by omega)
    rw [decide_eq_true (by omega : (0 : Int) ≤ (k : Int)), idxS_get hg, byte_beq, wr (by omega), rplace_loop s b hs k (by omega)]
    rw [lastAt_succ, hg]
    by_cases hb : s[k]'(by omega) = b
    · rw [hb]
      simp
    · have : (s[k]'(by omega) == b) = false := by simpa using hb
      rw [this]
      have h2 : ¬ (some (s[k]'(by omega)) = some b) := by simpa using hb
      rw [if_neg h2]
      rfl
theorem rplace_is (s : List UInt8) (b : UInt8) (hs : s.length ≤ 100000) : drayageref12_place s (UInt8.toNat b : Int) = some (lastAt s b s.length) := by
  apply drayageref12_place_of
  unfold drayageref12_place_E
  rw [wr (by omega), rplace_loop s b hs s.length (Nat.le_refl _)]
  by_cases h : lastAt s b s.length = -1
  · rw [if_pos h, h]; rfl
  · rw [if_neg h]; rfl
/-! ### What is behind the epoch, of Dpkg -/
def hd : List UInt8 → Bool
  | [] => false
  | c :: _ => dg c
def madeB (o s : List UInt8) : Bool := s.all (mk o) && !(s == [])
theorem made_hd (o s : List UInt8) : (madeB o s && hd s) = (madeB o s && hd s) := rfl
theorem k17_eq (ok : Bool) (m a p r : List UInt8) (has : Bool) (hp : p.length ≤ 100000) (hr : r.length ≤ 100000) : version_part_k17 ok m a p r has = some (ok && (madeB m p && hd p) && (!has || madeB [46, 43, 126] r), (a, p, r, has)) := by
  have h2 := vmade_is r [46, 43, 126] (by omega)
  have h1 := vmade_is p m (by omega)
  apply version_part_k17_of
  unfold version_part_k17_E
  cases p with
  | nil =>
    simp only [h1, h2, Option.bind_some, cond_some, cond_and]
    have e1 : (([] : List UInt8).all (mk m) && !(([] : List UInt8) == [])) = false := rfl
    have e2 : madeB m [] = false := rfl
    rw [e1, e2]
    simp only [Bool.and_false, cond_false, Option.bind_some, cond_some, cond_and, Bool.false_and]
  | cons c t =>
    simp only [h1, h2, idxS_zero, version_digit_is, Option.bind_some, cond_some, cond_and, cond_or]
    have e1 : hd (c :: t) = dig (UInt8.toNat c : Int) := rfl
    rw [e1]
    unfold madeB
    simp only [Bool.and_assoc]
/-- Is what is behind the epoch a version of Dpkg's? -/
def okD (p : List UInt8) : Bool :=
  if 0 ≤ lastAt p 45 p.length then (madeB [46, 43, 126, 45] (p.take (lastAt p 45 p.length).toNat) && hd (p.take (lastAt p 45 p.length).toNat)) && madeB [46, 43, 126] (p.drop ((lastAt p 45 p.length).toNat + 1))
  else madeB [46, 43, 126] p && hd p
def okF (f : Int) (a p : List UInt8) : Bool := if f = 2 then okP a p else okD p
theorem vpart_dpkg {f : Int} (h3 : f ≠ 3) (h2 : f ≠ 2) {a p : List UInt8} {ok : Bool} {s : List UInt8} (he : version_epochs s = some (a, p, ok)) (hp : p.length ≤ 100000) : ∃ q, version_part f s = some (q, ok && okD p) := by
  have e3 : (f == 3) = false := by simpa using h3
  have e2 : (f == 2) = false := by simpa using h2
  have hl := lastAt_le p 45 p.length
  have e45 : strings_LastIndexByte p 45 = some (lastAt p 45 p.length) := last_is p 45 (by omega)
  by_cases hk : 0 ≤ lastAt p 45 p.length
  · obtain ⟨k, hk2⟩ : ∃ k : Nat, lastAt p 45 p.length = (k : Int) := ⟨(lastAt p 45 p.length).toNat, by omega⟩
    rw [hk2] at hl
    refine ⟨(a, p.take k, p.drop (k + 1), true), version_part_of ?_⟩
    unfold version_part_E
    rw [e3, he]
    simp only [cond_false, Option.bind_some, e45]
    have hx := k17_eq ok [46, 43, 126, 45] a (p.take k) (p.drop (k + 1)) true (by rw [List.length_take]; omega) (by rw [List.length_drop]; omega)
    have hy : version_part_k11 f ok a (p.take k) (p.drop (k + 1)) true = some (ok && (madeB [46, 43, 126, 45] (p.take k) && hd (p.take k)) && (!true || madeB [46, 43, 126] (p.drop (k + 1))), (a, p.take k, p.drop (k + 1), true)) := by
      apply version_part_k11_of
      unfold version_part_k11_E
      rw [e2]
      simp only [cond_false, cond_true, hx, Option.bind_some]
    rw [hk2, decide_eq_true (by omega), cutS_to (by omega), wr_succ (by omega), cutS_from (by omega), hy]
    unfold okD
    rw [if_pos hk, hk2, Int.toNat_natCast]
    simp only [cond_true, Option.bind_some, Bool.not_true, Bool.false_or, Bool.and_assoc]
  · refine ⟨(a, p, [], false), version_part_of ?_⟩
    unfold version_part_E
    rw [e3, he]
    simp only [cond_false, Option.bind_some, e45]
    have hx := k17_eq ok [46, 43, 126] a p [] false hp (by simp)
    have hy : version_part_k11 f ok a p [] false = some (ok && (madeB [46, 43, 126] p && hd p) && (!false || madeB [46, 43, 126] []), (a, p, [], false)) := by
      apply version_part_k11_of
      unfold version_part_k11_E
      rw [e2]
      simp only [cond_false, hx, Option.bind_some]
    rw [decide_eq_false hk, hy]
    unfold okD
    rw [if_neg hk]
    simp only [cond_false, Option.bind_some, Bool.not_false, Bool.true_or, Bool.and_true]
theorem vpart_any {f : Int} (h3 : f ≠ 3) {a p : List UInt8} {ok : Bool} {s : List UInt8} (he : version_epochs s = some (a, p, ok)) (hp : p.length ≤ 100000) : ∃ q, version_part f s = some (q, ok && okF f a p) := by
  unfold okF
  by_cases h2 : f = 2
  · subst h2; rw [if_pos rfl]; exact vpart_tail he (by omega)
  · rw [if_neg h2]; exact vpart_dpkg h3 h2 he hp
/-! ### The reference's parts -/
theorem k28_is (x y z : List UInt8) (b : Bool) (u v w : List UInt8) (ok : Bool) : ∃ x' y' z' q, drayageref12_Part_k28 x y z b u v w ok = some ((x', y', z', ok), q) := by
  cases ok with
  | false => exact ⟨[], [], [], _, drayageref12_Part_k28_of rfl⟩
  | true => exact ⟨u, v, w, _, drayageref12_Part_k28_of rfl⟩
theorem k23_is (f k : Int) (x y z : List UInt8) (b : Bool) (u v w : List UInt8) (b' : Bool) (hv : v.length ≤ 100000) (hw : w.length ≤ 100000) : ∃ x' y' z' q, drayageref12_Part_k23 f k x y z b u v w b' =
    some ((x', y', z', if f = 2 then headE u && decide (0 ≤ k) && (madeB [46, 95, 43, 126, 94] v && madeB [46, 95, 43, 126, 94] w) else if 0 ≤ k then (madeB [46, 43, 126, 45] v && hd v) && madeB [46, 43, 126] w else madeB [46, 43, 126] v && hd v), q) := by
  have mm : ∀ o : List UInt8, o.length ≤ 100 → ∀ s : List UInt8, s.length ≤ 100000 → drayageref12_made s o = some (madeB o s) := fun o ho s hs => rmade_is s o hs ho
  have m1 := mm [46, 95, 43, 126, 94] (by simp)
  have m2 := mm [46, 43, 126] (by simp)
  have m3 := mm [46, 43, 126, 45] (by simp)
  by_cases h2 : f = 2
  · subst h2
    have hh : ∀ c : Bool, (cond c (cond (decide ((u.length : Int) < 2)) (some true) (idxS u 0 fun c100 => (some ((UInt8.toNat c100 : Int) != 48)))) (some false)) = some (c && headE u) := by
      intro c
      cases u with
      | nil => cases c <;> rfl
      | cons d t =>
        rw [idxS_zero]
        simp only [cond_some, cond_and, cond_or]
        rfl
    obtain ⟨x', y', z', q, e⟩ := k28_is x y z b u v w (decide (0 ≤ k) && madeB [46, 95, 43, 126, 94] v && madeB [46, 95, 43, 126, 94] w && headE u)
    refine ⟨x', y', z', (q.1, q.2.1, q.2.2.1, q.2.2.2), drayageref12_Part_k23_of ?_⟩
    unfold drayageref12_Part_k23_E
    have e2 : ((2 : Int) == 2) = true := rfl
    rw [e2]
    simp only [cond_true, m1 v hv, m1 w hw, Option.bind_some, cond_some, cond_and, hh, e]
    rw [if_pos trivial]
    congr 5
    cases headE u <;> cases decide (0 ≤ k) <;> cases madeB [46, 95, 43, 126, 94] v <;> cases madeB [46, 95, 43, 126, 94] w <;> rfl
  · have e2 : (f == 2) = false := by simpa using h2
    rw [if_neg h2]
    have hh : ∀ o : List UInt8, (cond (madeB o v) (idxS v 0 fun c104 => ((drayageref12_digit (UInt8.toNat c104 : Int)).bind fun r105 => (some r105))) (some false)) = some (madeB o v && hd v) := by
      intro o
      cases v with
      | nil => rfl
      | cons d t =>
        simp only [idxS_zero, rdigit_is, Option.bind_some, cond_some, cond_and]
        rfl
    by_cases hk : 0 ≤ k
    · rw [if_pos hk]
      obtain ⟨x', y', z', q, e⟩ := k28_is x y z b u v w ((madeB [46, 43, 126, 45] v && hd v) && madeB [46, 43, 126] w)
      refine ⟨x', y', z', (q.1, q.2.1, q.2.2.1, q.2.2.2), drayageref12_Part_k23_of ?_⟩
      unfold drayageref12_Part_k23_E
      rw [e2, decide_eq_false (by omega : ¬ k < 0)]
      simp only [cond_false, m3 v hv, m2 w hw, Option.bind_some, hh, cond_some, cond_and, e]
    · rw [if_neg hk]
      obtain ⟨x', y', z', q, e⟩ := k28_is x y z b u v w (madeB [46, 43, 126] v && hd v)
      refine ⟨x', y', z', (q.1, q.2.1, q.2.2.1, q.2.2.2), drayageref12_Part_k23_of ?_⟩
      unfold drayageref12_Part_k23_E
      rw [e2, decide_eq_true (by omega : k < 0)]
      simp only [cond_false, cond_true, m2 v hv, Option.bind_some, hh, e]
theorem rcolon_none (f : Int) (s : List UInt8) (hs : s.length ≤ 100000) : ∀ (l : List UInt8) (i : Nat), s.drop i = l → (58 : UInt8) ∉ l →
    drayageref12_Part_l12 f s (i : Int) [] [] [] false [] s [] false = some (Sum.inl (f, ([], [], [], false), ([], s, [], false)))
  | [], i, h, hm => by
    apply drayageref12_Part_l12_of
    unfold drayageref12_Part_l12_E
    rw [out_dec h]; rfl
  | d :: t, i, h, hm => by
    obtain ⟨h1, h2, h3, h4⟩ := drop_cons h
    have hd : ((UInt8.toNat d : Int) == 58) = false := by
      have := byte_eq d 58 (by decide)
      rw [show ((58 : Nat) : Int) = 58 from rfl] at this
      rw [this]
      simp at hm
      simpa using fun e => hm.1 e.symm
    apply drayageref12_Part_l12_of
    unfold drayageref12_Part_l12_E
    rw [in_dec h, idxS_of h, hd, wr_succ (by omega)]
    exact rcolon_none f s hs t (i + 1) h3 (fun e => hm (List.mem_cons_of_mem _ e))
theorem rcolon_some (f : Int) (s b : List UInt8) (hs : s.length ≤ 100000) : ∀ (a : List UInt8) (i : Nat), s.drop i = a ++ 58 :: b → (58 : UInt8) ∉ a →
    drayageref12_Part_l12 f s (i : Int) [] [] [] false [] s [] false =
      some (cond (decide (i + a.length < 1) || decide (9 < i + a.length) || ((((s.takeWhile dg).length : Nat) : Int) != ((i + a.length : Nat) : Int))) (Sum.inr (([], [], [], false), ([], s, [], false))) (Sum.inl (f, ([], [], [], false), (s.take (i + a.length), b, [], false))))
  | [], i, h, hm => by
    have h : s.drop i = 58 :: b := h
    obtain ⟨h1, h2, h3, h4⟩ := drop_cons h
    have hd : ((UInt8.toNat 58 : Int) == 58) = true := by decide
    apply drayageref12_Part_l12_of
    unfold drayageref12_Part_l12_E
    rw [in_dec h, idxS_of h, hd, wr_succ (by omega), cutS_to (by omega), cutS_from (by omega), h3, rdigits_is s hs]
    have e1 : decide ((i : Int) < 1) = decide (i + ([] : List UInt8).length < 1) := by rw [Bool.eq_iff_iff]; simp; omega
    have e2 : decide (9 < (i : Int)) = decide (9 < i + ([] : List UInt8).length) := by rw [Bool.eq_iff_iff]; simp; omega
    simp only [cond_some, cond_or, Option.bind_some, cond_true, e1, e2]
    rfl
  | d :: t, i, h, hm => by
    have h : s.drop i = d :: (t ++ 58 :: b) := h
    obtain ⟨h1, h2, h3, h4⟩ := drop_cons h
    have hd : ((UInt8.toNat d : Int) == 58) = false := by
      have := byte_eq d 58 (by decide)
      rw [show ((58 : Nat) : Int) = 58 from rfl] at this
      rw [this]
      simp at hm
      simpa using fun e => hm.1 e.symm
    apply drayageref12_Part_l12_of
    unfold drayageref12_Part_l12_E
    rw [in_dec h, idxS_of h, hd, wr_succ (by omega)]
    have e : i + (d :: t).length = i + 1 + t.length := by rw [List.length_cons]; omega
    rw [e]
    exact rcolon_some f s b hs t (i + 1) h3 (fun x => hm (List.mem_cons_of_mem _ x))
theorem all_take_len {p : UInt8 → Bool} {s : List UInt8} {k : Nat} (hk : k ≤ s.length) : True := trivial
/-- The digits ahead of a colon. -/
theorem digits_colon (a b : List UInt8) : ((a ++ 58 :: b).takeWhile dg).length = (a.takeWhile dg).length := by
  induction a with
  | nil => rfl
  | cons c t ih =>
    rw [List.cons_append, List.takeWhile_cons, List.takeWhile_cons]
    split
    · rw [List.length_cons, List.length_cons, ih]
    · rfl
theorem okE_is (a b : List UInt8) : (decide (a.length < 1) || decide (9 < a.length) || (((((a ++ 58 :: b).takeWhile dg).length : Nat) : Int) != (a.length : Int))) = !(okE a) := by
  rw [digits_colon]
  have hl := split_len dg a
  unfold okE
  by_cases hd : a.dropWhile dg = []
  · rw [hd] at hl ⊢
    simp only [List.length_nil, Nat.add_zero] at hl
    have e1 : (((a.takeWhile dg).length : Int) != (a.length : Int)) = false := by rw [hl]; simp
    have e2 : (a.takeWhile dg == []) = decide (a.length < 1) := by
      rw [Bool.eq_iff_iff]
      simp only [beq_iff_eq, decide_eq_true_eq]
      constructor
      · intro h; rw [h] at hl; simp at hl; omega
      · intro h; exact List.eq_nil_of_length_eq_zero (by omega)
    have e3 : decide (9 < a.length) = !(decide (((a.takeWhile dg).length : Int) < 10)) := by
      rw [hl, Bool.eq_iff_iff]; simp; omega
    rw [e1, e2, e3]
    cases decide (a.length < 1) <;> cases decide (((a.takeWhile dg).length : Int) < 10) <;> rfl
  · have hpos : 0 < (a.dropWhile dg).length := List.length_pos_iff.2 hd
    have e1 : (((a.takeWhile dg).length : Int) != (a.length : Int)) = true := by rw [bne_iff_ne]; omega
    have e2 : (a.dropWhile dg == []) = false := by simpa using hd
    rw [e1, e2]; simp
/-- Is that a version, of Dpkg's or Rpm's? -/
def okA (f : Int) (s : List UInt8) : Bool := if Lib.indexByte s 58 < 0 then okF f [] s else okE (s.take (Lib.indexByte s 58).toNat) && okF f (s.take (Lib.indexByte s 58).toNat) (s.drop ((Lib.indexByte s 58).toNat + 1))
theorem vpart_okA {f : Int} (h3 : f ≠ 3) (s : List UInt8) (hs : s.length ≤ 100000) : ∃ q, version_part f s = some (q, okA f s) := by
  rcases indexByte_cases 58 s with ⟨h1, h2⟩ | ⟨a, b, h1, h2, h4⟩
  · obtain ⟨q, hq⟩ := vpart_any h3 (epochs_none h1) hs
    refine ⟨q, ?_⟩
    unfold okA
    rw [if_pos (by omega)]
    exact hq
  · have hl : s.length = a.length + 1 + b.length := by rw [h1]; simp; omega
    have he : version_epochs s = some (a, b, okE a) := by rw [h1] at h4 hs ⊢; exact epochs_some h4 (by omega)
    obtain ⟨q, hq⟩ := vpart_any h3 he (by omega : b.length ≤ _)
    refine ⟨q, ?_⟩
    unfold okA
    rw [if_neg (by omega), h4, Int.toNat_natCast, h1, (split_at a b).1, (split_at a b).2, ← h1]
    exact hq
theorem rtail_is {f : Int} (a p : List UInt8) (hp : p.length ≤ 100000) : ∃ x y z,
    ((drayageref12_place p 45).bind fun r47 => (cond (decide ((0 : Int) ≤ r47)) (cutS p (IntKind.wrap .i64 (r47 + 1)) (List.length p : Int) fun s48 => (cutS p 0 r47 fun s49 => ((drayageref12_Part_k23 f r47 [] [] [] false a s49 s48 false).bind fun r87 => (some (r87.1.1, r87.1.2.1, r87.1.2.2.1, r87.1.2.2.2))))) ((drayageref12_Part_k23 f r47 [] [] [] false a p [] false).bind fun r88 => (some (r88.1.1, r88.1.2.1, r88.1.2.2.1, r88.1.2.2.2))))) = some (x, y, z, okF f a p) := by
  have hl := lastAt_le p 45 p.length
  have e45 : drayageref12_place p 45 = some (lastAt p 45 p.length) := rplace_is p 45 hp
  rw [e45]
  simp only [Option.bind_some]
  by_cases hk : 0 ≤ lastAt p 45 p.length
  · obtain ⟨k, hk2⟩ : ∃ k : Nat, lastAt p 45 p.length = (k : Int) := ⟨(lastAt p 45 p.length).toNat, by omega⟩
    rw [hk2] at hl
    obtain ⟨x, y, z, q, e⟩ := k23_is f (k : Int) [] [] [] false a (p.take k) (p.drop (k + 1)) false (by rw [List.length_take]; omega) (by rw [List.length_drop]; omega)
    refine ⟨x, y, z, ?_⟩
    rw [hk2, decide_eq_true (by omega), wr_succ (by omega), cutS_from (by omega), cutS_to (by omega), e]
    simp only [cond_true, Option.bind_some]
    congr 4
    unfold okF okD okP
    have hk0 : (0 : Int) ≤ (k : Int) := by omega
    rw [hk2, Int.toNat_natCast, if_pos hk0, if_pos hk0]
    rfl
  · obtain ⟨x, y, z, q, e⟩ := k23_is f (lastAt p 45 p.length) [] [] [] false a p [] false hp (by simp)
    refine ⟨x, y, z, ?_⟩
    rw [decide_eq_false hk, e]
    simp only [cond_false, Option.bind_some]
    congr 4
    unfold okF okD okP
    rw [if_neg hk, if_neg hk, decide_eq_false hk]
    simp only [Bool.and_false, Bool.false_and]
theorem rpart_okA {f : Int} (h3 : f ≠ 3) (s : List UInt8) (hs : s.length ≤ 100000) : ∃ x y z, drayageref12_Part f s = some (x, y, z, okA f s) := by
  have e3 : (f == 3) = false := by simpa using h3
  rcases indexByte_cases 58 s with ⟨h1, h2⟩ | ⟨a, b, h1, h2, h4⟩
  · obtain ⟨x, y, z, e⟩ := rtail_is (f := f) [] s hs
    refine ⟨x, y, z, drayageref12_Part_of ?_⟩
    unfold drayageref12_Part_E
    have hc : drayageref12_Part_l12 f s 0 [] [] [] false [] s [] false = _ := rcolon_none f s hs s 0 rfl h2
    rw [e3, hc]
    simp only [cond_false, Option.bind_some, Sum.elim_inl]
    unfold okA
    rw [if_pos (by omega)]
    exact e
  · have hl : s.length = a.length + 1 + b.length := by rw [h1]; simp; omega
    have hc : drayageref12_Part_l12 f s 0 [] [] [] false [] s [] false = _ := rcolon_some f s b hs a 0 h1 h2
    have ho : okA f s = (okE a && okF f a b) := by
      unfold okA
      rw [if_neg (by omega), h4, Int.toNat_natCast, h1, (split_at a b).1, (split_at a b).2]
    have ht : s.take a.length = a := by rw [h1]; exact (split_at a b).1
    have hk : (decide (0 + a.length < 1) || decide (9 < 0 + a.length) || ((((s.takeWhile dg).length : Nat) : Int) != ((0 + a.length : Nat) : Int))) = !(okE a) := by
      rw [Nat.zero_add, h1]; exact okE_is a b
    rw [hk] at hc
    rw [ho]
    cases hE : okE a with
    | false =>
      rw [hE] at hc
      refine ⟨[], [], [], drayageref12_Part_of ?_⟩
      unfold drayageref12_Part_E
      rw [e3, hc]; rfl
    | true =>
      rw [hE] at hc
      obtain ⟨x, y, z, e⟩ := rtail_is (f := f) a b (by omega)
      refine ⟨x, y, z, drayageref12_Part_of ?_⟩
      unfold drayageref12_Part_E
      rw [e3, hc, Nat.zero_add, ht]
      simp only [cond_false, Option.bind_some, Sum.elim_inl, Bool.not_true, Bool.true_and]
      exact e
end Go.Proofs.YtlgpcmklpknmcaaDoor
 end

 section
set_option linter.unusedVariables false
set_option linter.unusedSimpArgs false
namespace Go.Proofs.YtlgpcmklpknmcaaDoor
open Go Go.Eng Go.Proofs

theorem rhas_is (s : List UInt8) (c : UInt8) : drayageref12_has s (UInt8.toNat c : Int) = some (s.head? == some c) := by
  apply drayageref12_has_of
  unfold drayageref12_has_E
  cases s with
  | nil => rfl
  | cons d t =>
    rw [nonempty_is, idxS_zero, byte_beq]
    rfl
theorem rletters_loop (s : List UInt8) (hs : s.length ≤ 100000) : ∀ (l : List UInt8) (i : Nat), s.drop i = l → drayageref12_letters_l2 s (i : Int) = some ((i + (l.takeWhile lt).length : Nat) : Int)
  | [], i, h => by
    apply drayageref12_letters_l2_of
    unfold drayageref12_letters_l2_E
    rw [out_dec h]; rfl
  | c :: t, i, h => by
    obtain ⟨h1, h2, h3, h4⟩ := drop_cons h
    apply drayageref12_letters_l2_of
    unfold drayageref12_letters_l2_E
    rw [in_dec h, idxS_of h, rletter_is, wr_succ (by omega), rletters_loop s hs t (i + 1) h3, List.takeWhile_cons]
    have e1 : lit (UInt8.toNat c : Int) = lt c := rfl
    simp only [cond_true, Option.bind_some, e1]
    cases lt c
    · rfl
    · simp only [cond_true, if_true, List.length_cons]
      congr 2; omega
theorem rletters_is (s : List UInt8) (hs : s.length ≤ 100000) : drayageref12_letters s = some ((s.takeWhile lt).length : Int) := by
  apply drayageref12_letters_of
  unfold drayageref12_letters_E
  have h' : drayageref12_letters_l2 s 0 = _ := rletters_loop s hs s 0 rfl
  rw [h']
  simp
/-- A piece of the reference's. -/
def rp (k r : Int) (t : List UInt8) : AV := AV.agg [AV.int .i64 k, AV.int .i64 r, AV.str t]
/-- The last piece isn't a revision. -/
def LastOk (qs : List AV) : Prop := ∃ xs k r t, qs = xs ++ [rp k r t] ∧ k ≠ 2
theorem lastOk_add {qs : List AV} {k r : Int} {t : List UInt8} (h : k ≠ 2) : LastOk (qs ++ [rp k r t]) := ⟨qs, k, r, t, rfl, h⟩
/-- Both go on alike, or both are done. -/
def Step2 (n m l : Nat) (v : (List UInt8 × List AV) ⊕ (List AV × Bool)) (r : (List UInt8 × List AV) ⊕ (List AV)) : Prop :=
  (v = Sum.inr ([], false) ∧ r = Sum.inr []) ∨ ∃ s ps qs, v = Sum.inl (s, ps) ∧ r = Sum.inl (s, qs) ∧ ps.length + s.length ≤ n ∧ qs.length + s.length ≤ m ∧ s.length ≤ l ∧ LastOk qs
theorem Step2.mono {n m l n' m' l' : Nat} {v r} (h : Step2 n m l v r) (h1 : n ≤ n') (h2 : m ≤ m') (h3 : l ≤ l') : Step2 n' m' l' v r := by
  rcases h with h | ⟨s, ps, qs, a, b, c, d, f, e⟩
  · exact .inl h
  · exact .inr ⟨s, ps, qs, a, b, by omega, by omega, by omega, e⟩
theorem nums_both : ∀ (n : Nat) (s : List UInt8) (ps qs : List AV), s.length ≤ n → ps.length + s.length ≤ 5000 → qs.length + s.length ≤ 5000 →
    ∃ v r, version_pieces_l2 s ps = some v ∧ drayageref12_pieces_l2 s qs = some r ∧ Step2 (ps.length + s.length) (qs.length + s.length) s.length v r
  | n, s, ps, qs, hn, hp, hq => by
    have hsl := split_len dg s
    cases hw : (s.takeWhile dg == []) with
    | true =>
      refine ⟨Sum.inr ([], false), Sum.inr [], version_pieces_l2_of ?_, drayageref12_pieces_l2_of ?_, .inl ⟨rfl, rfl⟩⟩
      · unfold version_pieces_l2_E
        rw [version_number_is _ (by omega)]
        simp only [Option.bind_some, hw, cond_true]
      · unfold drayageref12_pieces_l2_E
        rw [rdigits_is _ (by omega), show s.takeWhile dg = [] by simpa using hw]
        rfl
    | false =>
      have hne := beq_nil_false hw
      have hpos := pos_len hne
      have hR : ∀ K : Option ((List UInt8 × List AV) ⊕ (List AV × Bool)), roomL (ps.length + ([AV.agg [AV.int .i64 6, AV.str (s.takeWhile dg), AV.int .i64 0, AV.bool ((ps.length : Int) == 0)]]).length) 40 K = K := fun K => room_of (by simp; omega) (by omega) K
      have hQ : ∀ K : Option ((List UInt8 × List AV) ⊕ (List AV)), roomL (qs.length + ([AV.agg [AV.int .i64 6, AV.int .i64 0, AV.str (s.takeWhile dg)]]).length) 32 K = K := fun K => room_of (by simp; omega) (by omega) K
      have hbeg : version_begins (s.dropWhile dg) 46 = some ((s.dropWhile dg).head? == some 46) := begins_is _ 46
      have hhas : drayageref12_has (s.dropWhile dg) 46 = some ((s.dropWhile dg).head? == some 46) := rhas_is _ 46
      have run : ∀ w, (cond (!((s.dropWhile dg).head? == some 46)) (some (Sum.inl (s.dropWhile dg, ps ++ [AV.agg [AV.int .i64 6, AV.str (s.takeWhile dg), AV.int .i64 0, AV.bool ((ps.length : Int) == 0)]])))
          (cutS (s.dropWhile dg) 1 ((s.dropWhile dg).length : Int) fun s41 => version_pieces_l2 s41 (ps ++ [AV.agg [AV.int .i64 6, AV.str (s.takeWhile dg), AV.int .i64 0, AV.bool ((ps.length : Int) == 0)]]))) = some w → version_pieces_l2 s ps = some w := by
        intro w h
        apply version_pieces_l2_of
        unfold version_pieces_l2_E
        rw [version_number_is _ (by omega)]
        simp only [Option.bind_some, hw, cond_false, hR, hbeg]
        exact h
      have rrun : ∀ w, (cond (!((s.dropWhile dg).head? == some 46)) (some (Sum.inl (s.dropWhile dg, qs ++ [rp 6 0 (s.takeWhile dg)])))
          (cutS (s.dropWhile dg) 1 ((s.dropWhile dg).length : Int) fun s41 => drayageref12_pieces_l2 s41 (qs ++ [rp 6 0 (s.takeWhile dg)]))) = some w → drayageref12_pieces_l2 s qs = some w := by
        intro w h
        apply drayageref12_pieces_l2_of
        unfold drayageref12_pieces_l2_E
        have hz : (((s.takeWhile dg).length : Int) == 0) = false := by rw [beq_eq_false_iff_ne]; omega
        rw [rdigits_is _ (by omega)]
        simp only [Option.bind_some]
        rw [hz, cutS_to (takeWhile_le _ _), cutS_from (takeWhile_le _ _), take_takeWhile, drop_takeWhile]
        simp only [cond_false, hQ, hhas, Option.bind_some]
        exact h
      cases hd : s.dropWhile dg with
      | nil =>
        rw [hd] at run rrun hsl
        exact ⟨_, _, run _ rfl, rrun _ rfl, .inr ⟨[], _, _, rfl, rfl, by simp at *; omega, by simp at *; omega, by simp, lastOk_add (by decide)⟩⟩
      | cons c t =>
        rw [hd] at run rrun hsl
        cases hc : (c == 46) with
        | false =>
          have e : ((c :: t).head? == some 46) = false := by rw [List.head?_cons, some_beq, hc]
          rw [e] at run rrun
          exact ⟨_, _, run _ rfl, rrun _ rfl, .inr ⟨c :: t, _, _, rfl, rfl, by simp at *; omega, by simp at *; omega, by simp at *; omega, lastOk_add (by decide)⟩⟩
        | true =>
          have e : ((c :: t).head? == some 46) = true := by rw [List.head?_cons, some_beq, hc]
          rw [e] at run rrun
          cases n with
          | zero => omega
          | succ n =>
            simp only [List.length_cons] at hsl
            obtain ⟨v, r, h1, h2, h3⟩ := nums_both n t (ps ++ [AV.agg [AV.int .i64 6, AV.str (s.takeWhile dg), AV.int .i64 0, AV.bool ((ps.length : Int) == 0)]]) (qs ++ [rp 6 0 (s.takeWhile dg)]) (by omega) (by simp; omega) (by simp; omega)
            refine ⟨v, r, run v ?_, rrun r ?_, h3.mono (by simp; omega) (by simp; omega) (by omega)⟩
            · rw [cutS_one]; exact h1
            · rw [cutS_one]; exact h2
/-- The last place of a word. -/
def lastI : List (List UInt8) → List UInt8 → Nat → Int → Int
  | [], _, _, k => k
  | y :: l, x, i, k => lastI l x (i + 1) (if y = x then (i : Int) else k)
theorem lastI_words (x : List UInt8) : lastI words x 0 (-1) = idxL words x 0 := by
  by_cases hx : x ∈ words
  · have : ∀ w ∈ words, lastI words w 0 (-1) = idxL words w 0 := by decide
    exact this x hx
  · have h1 : ∀ (l : List (List UInt8)) (i : Nat) (k : Int), x ∉ l → lastI l x i k = k := by
      intro l
      induction l with
      | nil => intro i k _; rfl
      | cons y l ih =>
        intro i k hm
        simp only [List.mem_cons, not_or] at hm
        show lastI l x (i + 1) (if y = x then (i : Int) else k) = k
        rw [if_neg (fun e => hm.1 e.symm)]
        exact ih _ _ hm.2
    have h2 : ∀ (l : List (List UInt8)) (i : Nat), x ∉ l → idxL l x i = -1 := by
      intro l
      induction l with
      | nil => intro i _; rfl
      | cons y l ih =>
        intro i hm
        simp only [List.mem_cons, not_or] at hm
        have : ¬ (x == y) = true := by simpa using hm.1
        rw [idxL_no this]
        exact ih _ hm.2
    rw [h1 _ _ _ hx, h2 _ _ hx]
theorem wordI_is (x : List UInt8) : slices_Index_string_string [AV.str [97, 108, 112, 104, 97], AV.str [98, 101, 116, 97], AV.str [112, 114, 101], AV.str [114, 99], AV.str [99, 118, 115], AV.str [115, 118, 110], AV.str [103, 105, 116], AV.str [104, 103], AV.str [112]] x = some (idxL words x 0) := by
  rw [← words_map]; exact sidx_is words x (by decide)
theorem rwordI_loop (s : List UInt8) (qs : List AV) (n : Nat) (x : List UInt8) (hx : ∀ K : List UInt8 → Option (List UInt8 × List AV × Int × Int), cutS s 1 (n : Int) K = K x) : ∀ (l : List (List UInt8)) (i : Nat) (k : Int), words.drop i = l →
    drayageref12_pieces_l17 s qs (n : Int) k (words.map AV.str) (i : Int) = some (s, qs, (n : Int), lastI l x i k)
  | [], i, k, h => by
    apply drayageref12_pieces_l17_of
    unfold drayageref12_pieces_l17_E
    rw [List.length_map, out_dec h]; rfl
  | y :: l, i, k, h => by
    obtain ⟨h1, h2, h3, h4⟩ := drop_cons h
    have hl : words.length = 9 := rfl
    have hd : (words.map AV.str).drop i = AV.str y :: l.map AV.str := by rw [← List.map_drop, h]; rfl
    apply drayageref12_pieces_l17_of
    unfold drayageref12_pieces_l17_E
    rw [List.length_map, in_dec h, getL_of hd, wr_succ (by omega)]
    simp only [dStr, cond_true, hx]
    have ih := fun k => rwordI_loop s qs n x hx l (i + 1) k h3
    rw [ih, ih]
    show _ = some (s, qs, (n : Int), lastI l x (i + 1) (if y = x then (i : Int) else k))
    by_cases e : y = x
    · have : (y == x) = true := by simpa using e
      rw [this, if_pos e]; rfl
    · have : (y == x) = false := by simpa using e
      rw [this, if_neg e]; rfl
theorem rwords_is : drayageref12_words = some (words.map AV.str) := drayageref12_words_of rfl
/-- A word, and its number: both. -/
theorem word_both (ps qs : List AV) (s0 s : List UInt8) (n : Nat) (hs0 : n ≤ s0.length) (hd : s0.drop n = s) (r k : Int) (hk : k ≠ 2) (hp : ps.length + s.length ≤ 5000) (hq : qs.length + s.length ≤ 5000) (hs : s0.length ≤ 5000) :
    ∃ t ps' qs', version_pieces_k20 ps s r k = some (t, ps') ∧ drayageref12_pieces_k26 s0 qs (n : Int) r k = some (t, qs') ∧ ps'.length + t.length ≤ ps.length + s.length + 1 ∧ qs'.length + t.length ≤ qs.length + s.length + 1 ∧ t.length ≤ s.length ∧ LastOk qs' := by
  have hsl := split_len dg s
  have hR : ∀ K : Option (List UInt8 × List AV), roomL (ps.length + ([AV.agg [AV.int .i64 k, AV.str [], AV.int .i64 r, AV.bool false]]).length) 40 K = K := fun K => room_of (by simp; omega) (by omega) K
  have hR2 : ∀ K : Option (List UInt8 × List AV), roomL ((ps ++ [AV.agg [AV.int .i64 k, AV.str [], AV.int .i64 r, AV.bool false]]).length + ([AV.agg [AV.int .i64 3, AV.str (s.takeWhile dg), AV.int .i64 0, AV.bool false]]).length) 40 K = K := fun K => room_of (by simp; omega) (by omega) K
  have hQ : ∀ K : Option (List UInt8 × List AV), roomL (qs.length + ([AV.agg [AV.int .i64 k, AV.int .i64 r, AV.str []]]).length) 32 K = K := fun K => room_of (by simp; omega) (by omega) K
  have hQ2 : ∀ K : Option (List UInt8 × List AV), roomL ((qs ++ [AV.agg [AV.int .i64 k, AV.int .i64 r, AV.str []]]).length + ([AV.agg [AV.int .i64 3, AV.int .i64 0, AV.str (s.takeWhile dg)]]).length) 32 K = K := fun K => room_of (by simp; omega) (by omega) K
  cases hw : (s.takeWhile dg == []) with
  | true =>
    have hw' : s.takeWhile dg = [] := by simpa using hw
    have hds : s.dropWhile dg = s := by
      have := List.takeWhile_append_dropWhile (p := dg) (l := s)
      rw [hw'] at this; exact this
    refine ⟨s, _, _, version_pieces_k20_of (w := (s, ps ++ [AV.agg [AV.int .i64 k, AV.str [], AV.int .i64 r, AV.bool false]])) ?_, drayageref12_pieces_k26_of (w := (s, qs ++ [rp k r []])) ?_, by simp; omega, by simp; omega, Nat.le_refl _, lastOk_add hk⟩
    · unfold version_pieces_k20_E
      rw [hR, version_number_is _ (by omega)]
      simp only [Option.bind_some, hw, Bool.not_true, cond_false, hds]
    · unfold drayageref12_pieces_k26_E
      rw [hQ, cutS_from hs0, hd, rdigits_is _ (by omega), hw']
      rfl
  | false =>
    have hpos := pos_len (beq_nil_false hw)
    refine ⟨s.dropWhile dg, _, _, version_pieces_k20_of (w := (s.dropWhile dg, ps ++ [AV.agg [AV.int .i64 k, AV.str [], AV.int .i64 r, AV.bool false]] ++ [AV.agg [AV.int .i64 3, AV.str (s.takeWhile dg), AV.int .i64 0, AV.bool false]])) ?_, drayageref12_pieces_k26_of (w := (s.dropWhile dg, qs ++ [rp k r []] ++ [rp 3 0 (s.takeWhile dg)])) ?_, by simp; omega, by simp; omega, by omega, lastOk_add (by decide)⟩
    · unfold version_pieces_k20_E
      rw [hR, version_number_is _ (by omega)]
      simp only [Option.bind_some, hw, Bool.not_false, cond_true, hR2]
    · unfold drayageref12_pieces_k26_E
      rw [hQ, cutS_from hs0, hd, rdigits_is _ (by omega)]
      simp only [Option.bind_some]
      rw [decide_eq_true (by omega : (0 : Int) < ((s.takeWhile dg).length : Int)), cutS_to (takeWhile_le _ _), take_takeWhile, hQ2, cutS_from (takeWhile_le _ _), drop_takeWhile]
      rfl
theorem words_both : ∀ (n : Nat) (s : List UInt8) (ps qs : List AV), s.length ≤ n → ps.length + s.length ≤ 5000 → qs.length + s.length ≤ 5000 → LastOk qs →
    ∃ v r, version_pieces_l12 s ps = some v ∧ drayageref12_pieces_l12 s qs = some r ∧ Step2 (ps.length + s.length) (qs.length + s.length) s.length v r
  | n, s, ps, qs, hn, hp, hq, hL => by
    have hbeg : version_begins s 95 = some (s.head? == some 95) := begins_is _ 95
    have hhas : drayageref12_has s 95 = some (s.head? == some 95) := rhas_is _ 95
    have stop : (s.head? == some 95) = false → ∃ v r, version_pieces_l12 s ps = some v ∧ drayageref12_pieces_l12 s qs = some r ∧ Step2 (ps.length + s.length) (qs.length + s.length) s.length v r := fun h => by
      refine ⟨_, _, version_pieces_l12_of (w := Sum.inl (s, ps)) ?_, drayageref12_pieces_l12_of (w := Sum.inl (s, qs)) ?_, .inr ⟨s, ps, qs, rfl, rfl, Nat.le_refl _, Nat.le_refl _, Nat.le_refl _, hL⟩⟩
      · unfold version_pieces_l12_E
        rw [hbeg, h]; rfl
      · unfold drayageref12_pieces_l12_E
        rw [hhas, h]; rfl
    cases s with
    | nil => exact stop rfl
    | cons c t =>
      cases hc : (c == 95) with
      | false => exact stop (by rw [List.head?_cons, some_beq, hc])
      | true =>
        simp only [List.length_cons] at hn hp hq
        have hsl := split_len lt t
        have htl := takeWhile_le lt t
        have hb2 : version_begins (c :: t) 95 = some true := by rw [hbeg, List.head?_cons, some_beq, hc]
        have hh2 : drayageref12_has (c :: t) 95 = some true := by rw [hhas, List.head?_cons, some_beq, hc]
        have run : ∀ w, (cond (decide (idxL words (t.takeWhile lt) 0 < 0)) (some (Sum.inr ([], false))) (cond (decide (idxL words (t.takeWhile lt) 0 < 4)) ((version_pieces_k20 ps (t.dropWhile lt) (idxL words (t.takeWhile lt) 0) 0).bind fun r48 => version_pieces_l12 r48.1 r48.2) ((version_pieces_k20 ps (t.dropWhile lt) (idxL words (t.takeWhile lt) 0) 4).bind fun r50 => version_pieces_l12 r50.1 r50.2))) = some w → version_pieces_l12 (c :: t) ps = some w := by
          intro w h
          apply version_pieces_l12_of
          unfold version_pieces_l12_E
          rw [hb2]
          simp only [Option.bind_some, cond_true, cutS_one, version_word_is _ (show t.length ≤ 4611686018427387904 by omega), wordI_is]
          exact h
        have hcut : ∀ K : List UInt8 → Option (List UInt8 × List AV × Int × Int), cutS (c :: t) 1 ((1 + (t.takeWhile lt).length : Nat) : Int) K = K (t.takeWhile lt) := fun K => by
          have e := cutS_of (s := c :: t) (a := 1) (b := 1 + (t.takeWhile lt).length) (by omega) (by simp; omega) K
          have e1 : ((1 : Nat) : Int) = 1 := rfl
          rw [e1] at e
          rw [e, Nat.add_comm 1, List.take_succ_cons, List.drop_succ_cons, List.drop_zero, take_takeWhile]
        have hdrop : (c :: t).drop (1 + (t.takeWhile lt).length) = t.dropWhile lt := by
          rw [Nat.add_comm 1, List.drop_succ_cons, drop_takeWhile]
        have hw : IntKind.wrap .i64 (1 + ((t.takeWhile lt).length : Int)) = ((1 + (t.takeWhile lt).length : Nat) : Int) := by rw [wr (by omega)]; omega
        have hl17 : drayageref12_pieces_l17 (c :: t) qs ((1 + (t.takeWhile lt).length : Nat) : Int) (-1) (words.map AV.str) 0 = some (c :: t, qs, ((1 + (t.takeWhile lt).length : Nat) : Int), idxL words (t.takeWhile lt) 0) := by
          rw [← lastI_words]; exact rwordI_loop (c :: t) qs _ _ hcut words 0 (-1) rfl
        have rrun : ∀ w, (cond (decide (idxL words (t.takeWhile lt) 0 < 0)) (some (Sum.inr [])) (cond (decide (idxL words (t.takeWhile lt) 0 < 4)) ((drayageref12_pieces_k26 (c :: t) qs ((1 + (t.takeWhile lt).length : Nat) : Int) (idxL words (t.takeWhile lt) 0) 0).bind fun r81 => drayageref12_pieces_l12 r81.1 r81.2) ((drayageref12_pieces_k26 (c :: t) qs ((1 + (t.takeWhile lt).length : Nat) : Int) (idxL words (t.takeWhile lt) 0) 4).bind fun r83 => drayageref12_pieces_l12 r83.1 r83.2))) = some w → drayageref12_pieces_l12 (c :: t) qs = some w := by
          intro w h
          apply drayageref12_pieces_l12_of
          unfold drayageref12_pieces_l12_E
          rw [hh2]
          simp only [Option.bind_some, cond_true, cutS_one, rletters_is t (show t.length ≤ 100000 by omega), rwords_is, hw, hl17]
          exact h
        generalize idxL words (t.takeWhile lt) 0 = r at run rrun
        by_cases hneg : r < 0
        · rw [decide_eq_true hneg] at run rrun
          exact ⟨_, _, run _ rfl, rrun _ rfl, .inl ⟨rfl, rfl⟩⟩
        · rw [decide_eq_false hneg] at run rrun
          cases n with
          | zero => omega
          | succ n =>
            by_cases h4 : r < 4
            · rw [decide_eq_true h4] at run rrun
              obtain ⟨u, ps', qs', g1, g2, g3, g4, g5, g6⟩ := word_both ps qs (c :: t) (t.dropWhile lt) (1 + (t.takeWhile lt).length) (by simp; omega) hdrop r 0 (by decide) (by omega) (by omega) (by simp; omega)
              obtain ⟨v, w, h1, h2, h3⟩ := words_both n u ps' qs' (by omega) (by omega) (by omega) g6
              refine ⟨v, w, run v ?_, rrun w ?_, h3.mono (by simp; omega) (by simp; omega) (by simp; omega)⟩
              · simp only [g1, cond_false, cond_true, Option.bind_some, h1]
              · simp only [g2, cond_false, cond_true, Option.bind_some, h2]
            · rw [decide_eq_false h4] at run rrun
              obtain ⟨u, ps', qs', g1, g2, g3, g4, g5, g6⟩ := word_both ps qs (c :: t) (t.dropWhile lt) (1 + (t.takeWhile lt).length) (by simp; omega) hdrop r 4 (by decide) (by omega) (by omega) (by simp; omega)
              obtain ⟨v, w, h1, h2, h3⟩ := words_both n u ps' qs' (by omega) (by omega) (by omega) g6
              refine ⟨v, w, run v ?_, rrun w ?_, h3.mono (by simp; omega) (by simp; omega) (by simp; omega)⟩
              · simp only [g1, cond_false, Option.bind_some, h1]
              · simp only [g2, cond_false, Option.bind_some, h2]
/-- What both say in the end. -/
def Said (n : Nat) (ok : Bool) (qs : List AV) : Prop := (ok = false ∧ qs = []) ∨ (ok = true ∧ ∃ xs k r t, qs = xs ++ [rp k r t] ∧ (k = 2 → t.length + 2 ≤ n) ∧ xs.length ≤ 10000)
theorem said_last {n : Nat} {qs : List AV} (h : LastOk qs) (hl : qs.length ≤ 10000) : Said n true qs := by
  obtain ⟨xs, k, r, t, rfl, hk⟩ := h
  exact .inr ⟨rfl, xs, k, r, t, rfl, fun e => absurd e hk, by simp at hl; omega⟩
theorem k12_both (s : List UInt8) (ps qs : List AV) (hp : ps.length + s.length ≤ 5000) (hq : qs.length + s.length ≤ 5000) (hL : LastOk qs) :
    ∃ ps' ok qs', version_pieces_k12 s ps = some (ps', ok) ∧ drayageref12_pieces_k12 s qs = some qs' ∧ Said s.length ok qs' := by
  obtain ⟨v, r, h1, h2, h3⟩ := words_both s.length s ps qs (Nat.le_refl _) hp hq hL
  rcases h3 with ⟨rfl, rfl⟩ | ⟨t, ps1, qs1, rfl, rfl, b1, b2, b3, L1⟩
  · refine ⟨[], false, [], version_pieces_k12_of ?_, drayageref12_pieces_k12_of ?_, .inl ⟨rfl, rfl⟩⟩
    · unfold version_pieces_k12_E; rw [h1]; rfl
    · unfold drayageref12_pieces_k12_E; rw [h2]; rfl
  · have plain : (t.take 2 == [45, 114]) = false → ∃ ps' ok qs', version_pieces_k12 s ps = some (ps', ok) ∧ drayageref12_pieces_k12 s qs = some qs' ∧ Said s.length ok qs' := fun hx => by
      have hpre : strings_HasPrefix t [45, 114] = some false := by
        rw [prefix_is]
        show some (decide (2 ≤ t.length) && (t.take 2 == [45, 114])) = _
        rw [hx, Bool.and_false]
      have hb : (cond (decide ((2 : Int) < (t.length : Int))) (cutS t 0 2 fun s88 => (some (s88 == [45, 114]))) (some false)) = some false := by
        by_cases h2 : (2 : Int) < (t.length : Int)
        · have hc := cutS_to (s := t) (b := 2) (by omega) fun s88 => (some (s88 == ([45, 114] : List UInt8)))
          have hc' : cutS t 0 2 (fun s88 => (some (s88 == ([45, 114] : List UInt8)))) = some (t.take 2 == [45, 114]) := hc
          rw [decide_eq_true h2, hc', hx]; rfl
        · rw [decide_eq_false h2]; rfl
      refine ⟨ps1, t == [], if (t == []) then qs1 else [], version_pieces_k12_of ?_, drayageref12_pieces_k12_of ?_, ?_⟩
      · unfold version_pieces_k12_E
        rw [h1]
        simp only [Option.bind_some, Sum.elim_inl, hpre, cond_false]
      · unfold drayageref12_pieces_k12_E
        rw [h2]
        simp only [Option.bind_some, Sum.elim_inl, hb, cond_false]
        cases t == [] <;> rfl
      · cases t == []
        · exact .inl ⟨rfl, rfl⟩
        · exact said_last L1 (show qs1.length ≤ 10000 by omega)
    cases t with
    | nil => exact plain rfl
    | cons c t =>
      cases t with
      | nil => exact plain (by simp)
      | cons d u =>
        by_cases hcd : c = 45 ∧ d = 114
        · obtain ⟨rfl, rfl⟩ := hcd
          have hsl := split_len dg u
          simp only [List.length_cons] at b1 b2 b3
          have hpre : strings_HasPrefix (45 :: 114 :: u) [45, 114] = some true := by
            rw [prefix_is]
            show some (decide (2 ≤ (45 :: 114 :: u).length) && (([45, 114] : List UInt8) == [45, 114])) = _
            rw [decide_eq_true (by simp)]; rfl
          have hcut : ∀ {R : Type} (K : List UInt8 → Option R), cutS (45 :: 114 :: u) 2 ((45 :: 114 :: u).length : Int) K = K u := fun K => cutS_from (s := 45 :: 114 :: u) (a := 2) (by simp) K
          cases hw : (u.takeWhile dg == []) with
          | true =>
            have hw' : u.takeWhile dg = [] := by simpa using hw
            have hb : ∀ b : Bool, (cond b (some (decide ((0 : Int) < ((([] : List UInt8).length : Nat) : Int)))) (some false)) = some false := fun b => by cases b <;> rfl
            have hb1 : ∃ b : Bool, (cond (decide ((2 : Int) < ((45 :: 114 :: u).length : Int))) (cutS (45 :: 114 :: u) 0 2 fun s88 => (some (s88 == [45, 114]))) (some false)) = some b := by
              by_cases h2 : (2 : Int) < ((45 :: 114 :: u).length : Int)
              · have hc : cutS (45 :: 114 :: u) 0 2 (fun s88 => (some (s88 == ([45, 114] : List UInt8)))) = some ((45 :: 114 :: u).take 2 == [45, 114]) := cutS_to (s := 45 :: 114 :: u) (b := 2) (by simp) fun s88 => (some (s88 == ([45, 114] : List UInt8)))
                rw [decide_eq_true h2, hc]; exact ⟨_, rfl⟩
              · rw [decide_eq_false h2]; exact ⟨_, rfl⟩
            obtain ⟨b, hb1⟩ := hb1
            refine ⟨[], false, [], version_pieces_k12_of ?_, drayageref12_pieces_k12_of ?_, .inl ⟨rfl, rfl⟩⟩
            · unfold version_pieces_k12_E
              rw [h1]
              simp only [Option.bind_some, Sum.elim_inl, hpre, cond_true, hcut, version_number_is u (by omega), hw]
            · unfold drayageref12_pieces_k12_E
              rw [h2]
              simp only [Option.bind_some, Sum.elim_inl, hb1, hcut, rdigits_is u (by omega), hw', hb]
              rfl
          | false =>
            have hpos := pos_len (beq_nil_false hw)
            have hR : ∀ K : Option (List AV × Bool), roomL (ps1.length + ([AV.agg [AV.int .i64 2, AV.str (u.takeWhile dg), AV.int .i64 0, AV.bool false]]).length) 40 K = K := fun K => room_of (by simp; omega) (by omega) K
            have hQ : ∀ K : Option (List AV), roomL (qs1.length + ([AV.agg [AV.int .i64 2, AV.int .i64 0, AV.str (u.takeWhile dg)]]).length) 32 K = K := fun K => room_of (by simp; omega) (by omega) K
            have hb1 : (cond (decide ((2 : Int) < ((45 :: 114 :: u).length : Int))) (cutS (45 :: 114 :: u) 0 2 fun s88 => (some (s88 == [45, 114]))) (some false)) = some true := by
              have hc : cutS (45 :: 114 :: u) 0 2 (fun s88 => (some (s88 == ([45, 114] : List UInt8)))) = some ((45 :: 114 :: u).take 2 == [45, 114]) := cutS_to (s := 45 :: 114 :: u) (b := 2) (by simp) fun s88 => (some (s88 == ([45, 114] : List UInt8)))
              rw [decide_eq_true (by simp only [List.length_cons]; omega), hc]; rfl
            have hwr : IntKind.wrap .i64 (2 + ((u.takeWhile dg).length : Int)) = (((u.takeWhile dg).length + 1 + 1 : Nat) : Int) := by rw [wr (by omega)]; omega
            have htl := takeWhile_le dg u
            have hc2 : ∀ K : List UInt8 → Option (List AV), cutS (45 :: 114 :: u) 2 (((u.takeWhile dg).length + 1 + 1 : Nat) : Int) K = K (u.takeWhile dg) := fun K => by
              have e := cutS_of (s := 45 :: 114 :: u) (a := 2) (b := (u.takeWhile dg).length + 1 + 1) (by omega) (by simp; omega) K
              have e1 : ((2 : Nat) : Int) = 2 := rfl
              rw [e1] at e
              rw [e, List.take_succ_cons, List.take_succ_cons, List.drop_succ_cons, List.drop_succ_cons, List.drop_zero, take_takeWhile]
            have hc3 : ∀ K : List UInt8 → Option (List AV), cutS (45 :: 114 :: u) (((u.takeWhile dg).length + 1 + 1 : Nat) : Int) ((45 :: 114 :: u).length : Int) K = K (u.dropWhile dg) := fun K => by
              rw [cutS_from (by simp; omega), List.drop_succ_cons, List.drop_succ_cons, drop_takeWhile]
            refine ⟨ps1 ++ [AV.agg [AV.int .i64 2, AV.str (u.takeWhile dg), AV.int .i64 0, AV.bool false]], u.dropWhile dg == [], if u.dropWhile dg == [] then qs1 ++ [rp 2 0 (u.takeWhile dg)] else [], version_pieces_k12_of ?_, drayageref12_pieces_k12_of ?_, ?_⟩
            · unfold version_pieces_k12_E
              rw [h1]
              simp only [Option.bind_some, Sum.elim_inl, hpre, cond_true, hcut, version_number_is u (by omega), hw, cond_false, hR]
            · unfold drayageref12_pieces_k12_E
              rw [h2]
              simp only [Option.bind_some, Sum.elim_inl, hb1, hcut, rdigits_is u (by omega), cond_true]
              rw [decide_eq_true (by omega : (0 : Int) < ((u.takeWhile dg).length : Int))]
              simp only [cond_true, hwr, hc2, hQ, hc3]
              cases u.dropWhile dg == [] <;> rfl
            · cases u.dropWhile dg == []
              · exact .inl ⟨rfl, rfl⟩
              · exact .inr ⟨rfl, qs1, 2, 0, u.takeWhile dg, rfl, fun _ => by omega, by omega⟩
        · refine plain ?_
          have : (c :: d :: u).take 2 = [c, d] := rfl
          rw [this, beq_eq_false_iff_ne]
          intro e
          injection e with e1 e2
          injection e2 with e2 _
          exact hcd ⟨e1, e2⟩
theorem pieces_both (s : List UInt8) (hs : s.length ≤ 4000) : ∃ ps ok qs, version_pieces s = some (ps, ok) ∧ drayageref12_pieces s = some qs ∧ Said s.length ok qs := by
  obtain ⟨v, r, h1, h2, h3⟩ := nums_both s.length s [] [] (Nat.le_refl _) (by simp; omega) (by simp; omega)
  rcases h3 with ⟨rfl, rfl⟩ | ⟨t, ps, qs, rfl, rfl, b1, b2, b3, L⟩
  · refine ⟨[], false, [], version_pieces_of ?_, drayageref12_pieces_of ?_, .inl ⟨rfl, rfl⟩⟩
    · unfold version_pieces_E; rw [h1]; rfl
    · unfold drayageref12_pieces_E; rw [h2]; rfl
  · simp only [List.length_nil, Nat.zero_add] at b1 b2
    have mono : ∀ {n ok qs}, n ≤ s.length → Said n ok qs → Said s.length ok qs := fun hn h => by
      rcases h with h | ⟨h, xs, k, r, t, e, g, l⟩
      · exact .inl h
      · exact .inr ⟨h, xs, k, r, t, e, fun x => Nat.le_trans (g x) hn, l⟩
    cases t with
    | nil =>
      obtain ⟨ps', ok, qs', g1, g2, g3⟩ := k12_both [] ps qs (by simp; omega) (by simp; omega) L
      refine ⟨ps', ok, qs', version_pieces_of ?_, drayageref12_pieces_of ?_, mono (Nat.zero_le _) g3⟩
      · unfold version_pieces_E; rw [h1]
        have e : (!(([] : List UInt8) == [])) = false := rfl
        simp only [Option.bind_some, Sum.elim_inl, e, cond_false, g1]
      · unfold drayageref12_pieces_E; rw [h2]
        have e : decide ((0 : Int) < ((([] : List UInt8).length : Nat) : Int)) = false := rfl
        simp only [Option.bind_some, Sum.elim_inl, e, cond_false, g2]
    | cons c t =>
      simp only [List.length_cons] at b1 b2 b3
      have e : (!((c :: t) == ([] : List UInt8))) = true := rfl
      have e' : decide ((0 : Int) < (((c :: t).length : Nat) : Int)) = true := decide_eq_true (by simp only [List.length_cons]; omega)
      cases hc : cond (decide ((97 : Int) ≤ (UInt8.toNat c : Int))) (decide ((UInt8.toNat c : Int) ≤ 122)) false with
      | false =>
        obtain ⟨ps', ok, qs', g1, g2, g3⟩ := k12_both (c :: t) ps qs (by simp; omega) (by simp; omega) L
        refine ⟨ps', ok, qs', version_pieces_of ?_, drayageref12_pieces_of ?_, mono (by simp; omega) g3⟩
        · unfold version_pieces_E; rw [h1]
          simp only [Option.bind_some, Sum.elim_inl, e, cond_true, idxS_zero, cond_some, hc, cond_false, g1]
        · unfold drayageref12_pieces_E; rw [h2]
          simp only [Option.bind_some, Sum.elim_inl, e', cond_true, idxS_zero, cond_some, hc, cond_false, g2]
      | true =>
        have hR : ∀ K : Option (List AV × Bool), roomL (ps.length + ([AV.agg [AV.int .i64 5, AV.str [c], AV.int .i64 0, AV.bool false]]).length) 40 K = K := fun K => room_of (by simp; omega) (by omega) K
        have hQ : ∀ K : Option (List AV), roomL (qs.length + ([AV.agg [AV.int .i64 5, AV.int .i64 0, AV.str [c]]]).length) 32 K = K := fun K => room_of (by simp; omega) (by omega) K
        have hcut : ∀ {R : Type} (K : List UInt8 → Option R), cutS (c :: t) 0 1 K = K [c] := fun K => cutS_to (s := c :: t) (b := 1) (by simp) K
        obtain ⟨ps', ok, qs', g1, g2, g3⟩ := k12_both t (ps ++ [AV.agg [AV.int .i64 5, AV.str [c], AV.int .i64 0, AV.bool false]]) (qs ++ [rp 5 0 [c]]) (by simp; omega) (by simp; omega) (lastOk_add (by decide))
        refine ⟨ps', ok, qs', version_pieces_of ?_, drayageref12_pieces_of ?_, mono (by omega) g3⟩
        · unfold version_pieces_E; rw [h1]
          simp only [Option.bind_some, Sum.elim_inl, e, cond_true, idxS_zero, cond_some, hc, hcut, hR, cutS_one, g1]
        · unfold drayageref12_pieces_E; rw [h2]
          have g2' : drayageref12_pieces_k12 t (qs ++ [AV.agg [AV.int .i64 5, AV.int .i64 0, AV.str [c]]]) = some qs' := g2
          simp only [Option.bind_some, Sum.elim_inl, e', cond_true, idxS_zero, cond_some, hc, hcut, hQ, cutS_one, g2']
theorem part_both (f : Int) (s : List UInt8) (hs : s.length ≤ 4000) : ∃ q x y z ok, version_part f s = some (q, ok) ∧ drayageref12_Part f s = some (x, y, z, ok) := by
  by_cases h3 : f = 3
  · subst h3
    obtain ⟨ps, ok, qs, g1, g2, g3⟩ := pieces_both s hs
    obtain ⟨q, h1⟩ : ∃ q, version_part 3 s = some (q, ok) := by
      obtain ⟨l, l1, l2⟩ := lastIndex_tot s (by omega)
      have e : ((3 : Int) == 3) = true := rfl
      rcases l2 with l2 | ⟨k, rfl, hk⟩
      · refine ⟨([], s, [], false), version_part_of ?_⟩
        unfold version_part_E
        rw [e, g1]
        simp only [cond_true, Option.bind_some, l1, decide_eq_true l2]
      · refine ⟨([], s.take k, s.drop (k + 2), true), version_part_of ?_⟩
        unfold version_part_E
        have e2 : IntKind.wrap .i64 ((k : Int) + 2) = ((k + 2 : Nat) : Int) := by rw [wr (by omega)]; omega
        rw [e, g1]
        simp only [cond_true, Option.bind_some, l1]
        rw [decide_eq_false (by omega), cutS_to (show k ≤ s.length by omega), e2, cutS_from (show k + 2 ≤ s.length by omega)]
        rfl
    rcases g3 with ⟨rfl, rfl⟩ | ⟨rfl, xs, k, r', t, rfl, hk, hl⟩
    · refine ⟨_, [], [], [], false, h1, drayageref12_Part_of ?_⟩
      unfold drayageref12_Part_E
      rw [g2]; rfl
    · have hget : ∀ K : AV → Option (List UInt8 × List UInt8 × List UInt8 × Bool), getL (xs ++ [rp k r' t]) (IntKind.wrap .i64 (((xs ++ [rp k r' t]).length : Int) - 1)) K = K (rp k r' t) := fun K => by
        have : IntKind.wrap .i64 (((xs ++ [rp k r' t]).length : Int) - 1) = (xs.length : Int) := by
          rw [List.length_append, List.length_singleton, wr (by omega)]; omega
        rw [this]
        exact getL_get (by rw [List.getElem?_append_right (Nat.le_refl _), Nat.sub_self]; rfl) K
      have hz : (((xs ++ [rp k r' t]).length : Int) == 0) = false := by
        rw [beq_eq_false_iff_ne, List.length_append, List.length_singleton]; omega
      have e : ((3 : Int) == 3) = true := rfl
      by_cases h2 : k = 2
      · have h2' : (k == 2) = true := by simpa using h2
        have hk := hk h2
        have hw : IntKind.wrap .i64 ((IntKind.wrap .i64 ((s.length : Int) - (t.length : Int))) - 2) = ((s.length - t.length - 2 : Nat) : Int) := by
          rw [wr (x := (s.length : Int) - (t.length : Int)) (by omega), wr (by omega)]; omega
        refine ⟨_, [], s.take (s.length - t.length - 2), t, true, h1, drayageref12_Part_of ?_⟩
        unfold drayageref12_Part_E
        rw [e, g2]
        simp only [cond_true, Option.bind_some, hz, cond_false, hget]
        simp only [rp, dAgg, dCons, dInt, dStr, dNil, if_true, h2', cond_true, hw, cutS_to (show s.length - t.length - 2 ≤ s.length by omega)]
      · have h2' : (k == 2) = false := by simpa using h2
        refine ⟨_, [], s, [], true, h1, drayageref12_Part_of ?_⟩
        unfold drayageref12_Part_E
        rw [e, g2]
        simp only [cond_true, Option.bind_some, hz, cond_false, hget]
        simp only [rp, dAgg, dCons, dInt, dStr, dNil, if_true, h2', cond_false]
  · obtain ⟨q, h1⟩ := vpart_okA h3 s (by omega)
    obtain ⟨x, y, z, h2⟩ := rpart_okA h3 s (by omega)
    exact ⟨q, x, y, z, _, h1, h2⟩
/-- Both answer alike, whatever the text. -/
theorem check_both (f : Int) (s : List UInt8) (hs : s.length ≤ 4000) : ∃ e, version_Check f s = some e ∧ drayageref12_Check f s = some e ∧ (e = 0 → 1 ≤ f ∧ f ≤ 3 ∧ s.length ≤ 64) := by
  obtain ⟨q, x, y, z, ok, h1, h2⟩ := part_both f s hs
  by_cases hf1 : f < 1
  · refine ⟨9, version_Check_of ?_, drayageref12_Check_of ?_, by omega⟩
    · unfold version_Check_E; rw [decide_eq_true hf1]; rfl
    · unfold drayageref12_Check_E; rw [decide_eq_true hf1]; rfl
  · by_cases hf3 : 3 < f
    · refine ⟨9, version_Check_of ?_, drayageref12_Check_of ?_, by omega⟩
      · unfold version_Check_E; rw [decide_eq_false hf1, decide_eq_true hf3]; rfl
      · unfold drayageref12_Check_E; rw [decide_eq_false hf1, decide_eq_true hf3]; rfl
    · by_cases hl : (64 : Int) < (s.length : Int)
      · refine ⟨4, version_Check_of ?_, drayageref12_Check_of ?_, by omega⟩
        · unfold version_Check_E; rw [decide_eq_false hf1, decide_eq_false hf3, decide_eq_true hl]; rfl
        · unfold drayageref12_Check_E; rw [decide_eq_false hf1, decide_eq_false hf3, decide_eq_true hl]; rfl
      · refine ⟨if ok then 0 else 3, version_Check_of ?_, drayageref12_Check_of ?_, fun _ => by omega⟩
        · unfold version_Check_E; rw [decide_eq_false hf1, decide_eq_false hf3, decide_eq_false hl, h1]
          cases ok <;> rfl
        · unfold drayageref12_Check_E; rw [decide_eq_false hf1, decide_eq_false hf3, decide_eq_false hl, h2]
          cases ok <;> rfl
end Go.Proofs.YtlgpcmklpknmcaaDoor
 end
