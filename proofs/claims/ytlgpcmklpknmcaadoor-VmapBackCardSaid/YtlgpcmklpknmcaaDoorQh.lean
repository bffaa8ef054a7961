/- What is printed is a version. VmapBack, but for awake. -/
import Derived.Test.YtlgpcmklpknmcaaDoorQe
set_option linter.unusedVariables false
set_option linter.unusedSimpArgs false
namespace Go.Proofs.YtlgpcmklpknmcaaDoor
open Go Go.Eng Go.Proofs

theorem lastAt_app {c : UInt8} {a r : List UInt8} (h : c ∉ r) : ∀ j : Nat, j ≤ r.length → lastAt (a ++ c :: r) c (a.length + 1 + j) = (a.length : Int)
  | 0, _ => by
    show lastAt (a ++ c :: r) c (a.length + 1) = _
    rw [lastAt_succ, List.getElem?_append_right (Nat.le_refl _), Nat.sub_self, if_pos (show (c :: r)[0]? = some c from rfl)]
  | j + 1, hj => by
    show lastAt (a ++ c :: r) c ((a.length + 1 + j) + 1) = _
    have e : (a ++ c :: r)[a.length + 1 + j]? = r[j]? := by
      rw [List.getElem?_append_right (by omega)]
      have : a.length + 1 + j - a.length = j + 1 := by omega
      rw [this]; rfl
    rw [lastAt_succ, e, if_neg, lastAt_app h j (by omega)]
    intro hx
    exact h (List.mem_of_getElem? hx)
theorem lastAt_one {c : UInt8} {a r : List UInt8} (h : c ∉ r) : lastAt (a ++ c :: r) c (a ++ c :: r).length = (a.length : Int) := by
  have e : (a ++ c :: r).length = a.length + 1 + r.length := by simp; omega
  rw [e]; exact lastAt_app h r.length (Nat.le_refl _)
theorem small_lt (c : UInt8) : 97 ≤ c.toNat ∧ c.toNat ≤ 122 → lt c = true := by
  refine fin_byte (p := fun c => 97 ≤ c.toNat ∧ c.toNat ≤ 122 → lt c = true) ?_ c
  decide +kernel
theorem dg_lt (c : UInt8) : dg c = true → lt c = false := by
  refine fin_byte (p := fun c => dg c = true → lt c = false) ?_ c
  decide +kernel
theorem words_lt {w : List UInt8} (h : w ∈ words4) : w.all lt = true := by
  have : ∀ w ∈ words4, w.all lt = true := by decide
  exact this w h
/-- What stands ahead of the dash. -/
def body (f : Int) (n : Int) (t : List Int) (le pre : List UInt8) (pn : Int) : List UInt8 := dec n ++ (dT t ++ (le ++ preT f pre pn))
theorem txt_body {f : Int} (h : f ≠ 3) (n : Int) (t : List Int) (le pre : List UInt8) (pn rev : Int) : txt f 0 (n :: t) le pre pn rev = body f n t le pre pn ++ 45 :: dec rev := by
  rw [txt_zero]
  unfold tl2 tl1 body dash
  rw [if_neg h]; simp
theorem dT_mem {c : UInt8} : ∀ t : List Int, c ∈ dT t → dg c = true ∨ c = 46
  | [], h => by cases h
  | n :: t, h => by
    rw [dT] at h
    rcases List.mem_cons.1 h with h | h
    · exact .inr h
    · rcases List.mem_append.1 h with h | h
      · exact .inl (dec_mem h)
      · exact dT_mem t h
theorem body_mem {f : Int} (h3 : f ≠ 3) {n : Int} {t : List Int} {le pre : List UInt8} {pn : Int} (hl : leOk le = true) (hp : preOk pre pn = true) {c : UInt8} (h : c ∈ body f n t le pre pn) : dg c = true ∨ lt c = true ∨ c = 46 ∨ c = 126 := by
  unfold body at h
  rcases List.mem_append.1 h with h | h
  · exact .inl (dec_mem h)
  rcases List.mem_append.1 h with h | h
  · rcases dT_mem t h with h | h
    · exact .inl h
    · exact .inr (.inr (.inl h))
  rcases List.mem_append.1 h with h | h
  · rcases le_cases hl with rfl | ⟨d, rfl, h1⟩
    · cases h
    · rw [List.mem_singleton] at h; subst h
      exact .inr (.inl (small_lt _ h1))
  unfold preT at h
  split at h
  · cases h
  · rename_i hpre
    have hw : pre ∈ words4 := by
      rcases preOk_cases hp with ⟨e, _⟩ | e
      · exact absurd e hpre
      · exact e
    rcases List.mem_append.1 h with h | h
    · rcases List.mem_append.1 h with h | h
      · have e : sg f = [126] := if_neg h3
        rw [e, List.mem_singleton] at h
        exact .inr (.inr (.inr h))
      · exact .inr (.inl (List.all_eq_true.1 (words_lt hw) c h))
    · exact .inl (dec_mem h)
theorem made_of {o s : List UInt8} (hs : s ≠ []) (h : ∀ c ∈ s, dg c = true ∨ lt c = true ∨ o.contains c = true) : madeB o s = true := by
  unfold madeB
  have : (s == []) = false := by simpa using hs
  rw [this, Bool.not_false, Bool.and_true, List.all_eq_true]
  intro c hc
  unfold mk
  rcases h c hc with h | h | h <;> rw [h] <;> simp
theorem dec_ne (n : Int) : dec n ≠ [] := by
  obtain ⟨c, t, h, _⟩ := dec_head n
  rw [h]; exact List.cons_ne_nil _ _
theorem made_dec (o : List UInt8) (n : Int) : madeB o (dec n) = true := made_of (dec_ne n) fun c h => .inl (dec_mem h)
theorem made_body {o : List UInt8} (h46 : o.contains 46 = true) (h126 : o.contains 126 = true) {f : Int} (h3 : f ≠ 3) {n : Int} {t : List Int} {le pre : List UInt8} {pn : Int} (hl : leOk le = true) (hp : preOk pre pn = true) : madeB o (body f n t le pre pn) = true := by
  refine made_of ?_ fun c h => ?_
  · intro e
    have : dec n = [] := by
      unfold body at e
      exact (List.append_eq_nil_iff.1 e).1
    exact dec_ne n this
  · rcases body_mem h3 hl hp h with h | h | rfl | rfl
    · exact .inl h
    · exact .inr (.inl h)
    · exact .inr (.inr h46)
    · exact .inr (.inr h126)
theorem hd_body (f : Int) (n : Int) (t : List Int) (le pre : List UInt8) (pn : Int) : hd (body f n t le pre pn) = true := by
  obtain ⟨c, r, h, _⟩ := dec_head n
  have hd' : dg c = true := dec_mem (n := n) (by rw [h]; exact List.mem_cons_self)
  unfold body
  rw [h]; exact hd'
theorem dash_dec (n : Int) : (45 : UInt8) ∉ dec n := fun h => (dg_not _ (dec_mem h)).2.2.2 rfl
theorem headE_dec {e : Int} (h : e = 0 ∨ 0 < e) (he : e ≠ 0) : headE (dec e) = true := by
  obtain ⟨c, t, h1, h2⟩ := dec_head e
  unfold headE
  rw [h1]
  have hc : c ≠ 48 := by
    intro x
    have := h2 x
    omega
  have hb := byte_eq c 48 (by decide)
  have hb2 : (c == UInt8.ofNat 48) = false := by rw [beq_eq_false_iff_ne]; exact hc
  rw [hb2] at hb
  have hn : ((UInt8.toNat c : Int) != 48) = true := by
    show (!((UInt8.toNat c : Int) == 48)) = true
    have hb' : ((UInt8.toNat c : Int) == 48) = false := hb
    rw [hb']; rfl
  rw [Bool.or_eq_true]
  exact .inr hn
theorem okF_txt {f : Int} (h3 : f ≠ 3) {a : List UInt8} (ha : headE a = true) {n : Int} {t : List Int} {le pre : List UInt8} {pn rev : Int} (hl : leOk le = true) (hp : preOk pre pn = true) : okF f a (txt f 0 (n :: t) le pre pn rev) = true := by
  rw [txt_body h3]
  have hL := lastAt_one (a := body f n t le pre pn) (dash_dec rev)
  obtain ⟨q1, q2⟩ : (body f n t le pre pn ++ 45 :: dec rev).take (body f n t le pre pn).length = body f n t le pre pn ∧ (body f n t le pre pn ++ 45 :: dec rev).drop ((body f n t le pre pn).length + 1) = dec rev := by
    refine ⟨List.take_left' rfl, ?_⟩
    rw [show body f n t le pre pn ++ 45 :: dec rev = (body f n t le pre pn ++ [45]) ++ dec rev by simp]
    exact List.drop_left' (by simp)
  have h0 : (0 : Int) ≤ ((body f n t le pre pn).length : Int) := by omega
  unfold okF
  split
  · unfold okP
    rw [ha, hL, decide_eq_true h0, Int.toNat_natCast, q1, q2]
    have m1 := made_body (o := [46, 95, 43, 126, 94]) (by decide) (by decide) h3 (n := n) (t := t) hl hp
    have m2 := made_dec [46, 95, 43, 126, 94] rev
    unfold madeB at m1 m2
    rw [m1, m2]; rfl
  · unfold okD
    rw [hL, if_pos h0, Int.toNat_natCast, q1, q2, made_body (by decide) (by decide) h3 hl hp, hd_body, made_dec]; rfl
theorem okE_dec {e : Int} (h : within e = true) : okE (dec e) = true := by
  obtain ⟨s1, s2⟩ := dec_stop e (r := []) rfl
  rw [List.append_nil] at s1 s2
  have hl := dec_len h
  unfold okE
  rw [s1, s2]
  have : (dec e == []) = false := by simpa using dec_ne e
  rw [this, decide_eq_true (by omega)]; rfl
theorem okA_txt {f e : Int} (h3 : f ≠ 3) {n : Int} {t : List Int} {le pre : List UInt8} {pn rev : Int} (he : within e = true) (hl : leOk le = true) (hp : preOk pre pn = true) : okA f (txt f e (n :: t) le pre pn rev) = true := by
  have hcolon := txt_colon (ns := n :: t) (pn := pn) (pre := pre) f rev (by simp) hl hp
  obtain ⟨k, hk, _⟩ := within_nat he
  unfold okA
  by_cases h0 : e = 0
  · subst h0
    rcases indexByte_cases 58 (txt f 0 (n :: t) le pre pn rev) with ⟨h1, h2⟩ | ⟨a, b, h1, h2, _⟩
    · rw [if_pos (by omega)]
      exact okF_txt h3 rfl hl hp
    · exact absurd (by rw [h1]; exact List.mem_append_right _ List.mem_cons_self) hcolon
  · have htx := txt_ep h0 f (n :: t) le pre pn rev
    have hdc : (58 : UInt8) ∉ dec e := fun h => (dg_not _ (dec_mem h)).1 rfl
    rw [htx]
    rcases indexByte_cases 58 (dec e ++ 58 :: txt f 0 (n :: t) le pre pn rev) with ⟨h1, h2⟩ | ⟨a, b, h1, h2, h3'⟩
    · exact absurd (List.mem_append_right _ List.mem_cons_self) h2
    · obtain ⟨rfl, rfl⟩ := split_one hdc h2 h1
      rw [h3', if_neg (by omega), Int.toNat_natCast, (split_at _ _).1, (split_at _ _).2, okE_dec he, okF_txt h3 (headE_dec (by omega) h0) hl hp]
      rfl
/-! ### Apk -/
theorem nums_txt {R : List UInt8} (h1 : R.takeWhile dg = []) (h2 : R.head? ≠ some 46) (hR : R.length ≤ 1000) : ∀ (t : List Int) (n : Int) (ps : List AV), within n = true → t.all within = true → ps.length + t.length ≤ 100 →
    ∃ ps', version_pieces_l2 (dec n ++ (dT t ++ R)) ps = some (Sum.inl (R, ps')) ∧ ps'.length ≤ ps.length + t.length + 1
  | t, n, ps, hn, ht, hb => by
    have hd := dec_len hn
    have hlen : (dT t).length ≤ 10 * t.length := by
      have := nT_len t 1 ht
      rw [nT_dT t 0] at this; exact this
    obtain ⟨s1, s2⟩ := dec_stop n (dT_stop h1 t)
    have hnum : version_number (dec n ++ (dT t ++ R)) = some (dec n, dT t ++ R) := by
      rw [version_number_is _ (by simp; omega), s1, s2]
    have hne : (dec n == []) = false := by simpa using dec_ne n
    have hRm : ∀ K : Option ((List UInt8 × List AV) ⊕ (List AV × Bool)), roomL (ps.length + ([AV.agg [AV.int .i64 6, AV.str (dec n), AV.int .i64 0, AV.bool ((ps.length : Int) == 0)]]).length) 40 K = K := fun K => room_of (by simp; omega) (by omega) K
    have hbeg : version_begins (dT t ++ R) 46 = some ((dT t ++ R).head? == some 46) := begins_is _ 46
    cases t with
    | nil =>
      have hh : ((dT [] ++ R).head? == some 46) = false := by rw [beq_eq_false_iff_ne]; exact h2
      refine ⟨ps ++ [AV.agg [AV.int .i64 6, AV.str (dec n), AV.int .i64 0, AV.bool ((ps.length : Int) == 0)]], version_pieces_l2_of ?_, by simp⟩
      unfold version_pieces_l2_E
      rw [hnum]
      simp only [Option.bind_some, hne, cond_false, hRm, hbeg, hh, Bool.not_false, cond_true]
      rfl
    | cons m t =>
      rw [List.all_cons, Bool.and_eq_true] at ht
      obtain ⟨ps', g1, g2⟩ := nums_txt h1 h2 hR t m (ps ++ [AV.agg [AV.int .i64 6, AV.str (dec n), AV.int .i64 0, AV.bool ((ps.length : Int) == 0)]]) ht.1 ht.2 (by simp at hb ⊢; omega)
      have hh : ((dT (m :: t) ++ R).head? == some 46) = true := rfl
      have hcut : ∀ {Y : Type} (K : List UInt8 → Option Y), cutS (dT (m :: t) ++ R) 1 ((dT (m :: t) ++ R).length : Int) K = K (dec m ++ (dT t ++ R)) := fun K => by
        rw [dT, List.cons_append, cutS_one, List.append_assoc]
      refine ⟨ps', version_pieces_l2_of ?_, by simp at g2 ⊢; omega⟩
      unfold version_pieces_l2_E
      rw [hnum]
      simp only [Option.bind_some, hne, cond_false, hRm, hbeg, hh, Bool.not_true, hcut]
      exact g1
theorem word_stop (w : List UInt8) {R : List UInt8} (h : w.all lt = true) (hR : R.takeWhile lt = []) : (w ++ R).takeWhile lt = w ∧ (w ++ R).dropWhile lt = R := by
  induction w with
  | nil =>
    refine ⟨hR, ?_⟩
    have := List.takeWhile_append_dropWhile (p := lt) (l := R)
    rw [hR] at this
    exact this
  | cons c t ih =>
    rw [List.all_cons, Bool.and_eq_true] at h
    obtain ⟨i1, i2⟩ := ih h.2
    rw [List.cons_append, List.takeWhile_cons, List.dropWhile_cons, h.1]
    exact ⟨congrArg (c :: ·) i1, i2⟩
theorem words_idx {w : List UInt8} (h : w ∈ words4) : 0 ≤ idxL words w 0 ∧ idxL words w 0 < 4 := by
  have : ∀ w ∈ words4, 0 ≤ idxL words w 0 ∧ idxL words w 0 < 4 := by decide
  exact this w h
theorem words_txt {pre : List UInt8} {pn rev : Int} (hp : preOk pre pn = true) (hw : within pn = true) (hr : within rev = true) (ps : List AV) (hb : ps.length ≤ 200) :
    ∃ ps', version_pieces_l12 (tl2 3 pre pn rev) ps = some (Sum.inl (tl1 3 rev, ps')) ∧ ps'.length ≤ ps.length + 2 := by
  have stop : ∀ qs : List AV, version_pieces_l12 (tl1 3 rev) qs = some (Sum.inl (tl1 3 rev, qs)) := fun qs => by
    obtain ⟨t, ht⟩ := tl1_head 3 rev
    have hbeg : version_begins (tl1 3 rev) 95 = some ((tl1 3 rev).head? == some 95) := begins_is _ 95
    rw [ht] at hbeg ⊢
    apply version_pieces_l12_of
    unfold version_pieces_l12_E
    rw [hbeg]; rfl
  rcases preOk_cases hp with ⟨rfl, rfl⟩ | hm
  · refine ⟨ps, ?_, by omega⟩
    have e : tl2 3 [] 0 rev = tl1 3 rev := by unfold tl2 preT; rw [if_pos rfl]; rfl
    rw [e]; exact stop ps
  · have hne : pre ≠ [] := by rintro rfl; exact absurd hm (by decide)
    have e : tl2 3 pre pn rev = 95 :: (pre ++ (dec pn ++ tl1 3 rev)) := by
      have es : sg 3 = [95] := if_pos rfl
      unfold tl2 preT; rw [if_neg hne, es]; simp
    have h1 := words4_len hm
    have h2 := dec_len hw
    have h3 := tl1_len 3 hr
    obtain ⟨i0, i4⟩ := words_idx hm
    obtain ⟨c, r, hd1, _⟩ := dec_head pn
    have hcd : dg c = true := dec_mem (n := pn) (by rw [hd1]; exact List.mem_cons_self)
    have hstop : (dec pn ++ tl1 3 rev).takeWhile lt = [] := by
      rw [hd1, List.cons_append, List.takeWhile_cons, dg_lt c hcd]; rfl
    obtain ⟨w1, w2⟩ := word_stop pre (words_lt hm) hstop
    obtain ⟨s1, s2⟩ := dec_stop pn (tl1_stop 3 rev)
    have hlen : (pre ++ (dec pn ++ tl1 3 rev)).length ≤ 4611686018427387904 := by simp; omega
    have hbeg : version_begins (95 :: (pre ++ (dec pn ++ tl1 3 rev))) 95 = some true := begins_is _ 95
    have hR : ∀ K : Option (List UInt8 × List AV), roomL (ps.length + ([AV.agg [AV.int .i64 0, AV.str [], AV.int .i64 (idxL words pre 0), AV.bool false]]).length) 40 K = K := fun K => room_of (by simp; omega) (by omega) K
    have hR2 : ∀ K : Option (List UInt8 × List AV), roomL ((ps ++ [AV.agg [AV.int .i64 0, AV.str [], AV.int .i64 (idxL words pre 0), AV.bool false]]).length + ([AV.agg [AV.int .i64 3, AV.str (dec pn), AV.int .i64 0, AV.bool false]]).length) 40 K = K := fun K => room_of (by simp; omega) (by omega) K
    have hnum : version_number (dec pn ++ tl1 3 rev) = some (dec pn, tl1 3 rev) := by
      rw [version_number_is _ (by simp; omega), s1, s2]
    have hne2 : (dec pn == []) = false := by simpa using dec_ne pn
    have k20 : version_pieces_k20 ps (dec pn ++ tl1 3 rev) (idxL words pre 0) 0 = some (tl1 3 rev, ps ++ [AV.agg [AV.int .i64 0, AV.str [], AV.int .i64 (idxL words pre 0), AV.bool false]] ++ [AV.agg [AV.int .i64 3, AV.str (dec pn), AV.int .i64 0, AV.bool false]]) := by
      apply version_pieces_k20_of
      unfold version_pieces_k20_E
      rw [hR, hnum]
      simp only [Option.bind_some, hne2, Bool.not_false, cond_true, hR2]
    refine ⟨ps ++ [AV.agg [AV.int .i64 0, AV.str [], AV.int .i64 (idxL words pre 0), AV.bool false]] ++ [AV.agg [AV.int .i64 3, AV.str (dec pn), AV.int .i64 0, AV.bool false]], ?_, by simp⟩
    rw [e]
    apply version_pieces_l12_of
    unfold version_pieces_l12_E
    rw [hbeg]
    simp only [Option.bind_some, cond_true, cutS_one, version_word_is _ hlen, w1, w2, wordI_is]
    rw [decide_eq_false (by omega : ¬ idxL words pre 0 < 0), decide_eq_true i4]
    simp only [cond_false, cond_true, k20, Option.bind_some, stop]
theorem pieces_txt {n : Int} {t : List Int} {le pre : List UInt8} {pn rev : Int} (hn : within n = true) (ht : t.all within = true) (hb : t.length ≤ 64) (hl : leOk le = true) (hp : preOk pre pn = true) (hw : within pn = true) (hr : within rev = true) :
    ∃ ps, version_pieces (txt 3 0 (n :: t) le pre pn rev) = some (ps, true) := by
  obtain ⟨r1, r2⟩ := rest_stop hl 3 pre pn rev
  have r3 := rest_len 3 hl hp hw hr
  obtain ⟨ps, g1, g2⟩ := nums_txt r1 r2 r3 t n [] hn ht (by simp; omega)
  simp only [List.length_nil, Nat.zero_add] at g2
  have h3 := tl1_len 3 hr
  have hdl := dec_len hr
  have k12 : ∀ qs : List AV, qs.length ≤ 100 → ∃ qs', version_pieces_k12 (tl2 3 pre pn rev) qs = some (qs', true) := fun qs hq => by
    obtain ⟨ps', w1, w2⟩ := words_txt hp hw hr qs (by omega)
    have e : tl1 3 rev = 45 :: 114 :: dec rev := rfl
    have hpre : strings_HasPrefix (45 :: 114 :: dec rev) [45, 114] = some true := by
      rw [prefix_is]
      show some (decide (2 ≤ (45 :: 114 :: dec rev).length) && (([45, 114] : List UInt8) == [45, 114])) = _
      rw [decide_eq_true (by simp)]; rfl
    have hcut : ∀ {R : Type} (K : List UInt8 → Option R), cutS (45 :: 114 :: dec rev) 2 ((45 :: 114 :: dec rev).length : Int) K = K (dec rev) := fun K => cutS_from (s := 45 :: 114 :: dec rev) (a := 2) (by simp) K
    obtain ⟨s1, s2⟩ := dec_stop rev (r := []) rfl
    rw [List.append_nil] at s1 s2
    have hne2 : (dec rev == []) = false := by simpa using dec_ne rev
    have hR : ∀ K : Option (List AV × Bool), roomL (ps'.length + ([AV.agg [AV.int .i64 2, AV.str (dec rev), AV.int .i64 0, AV.bool false]]).length) 40 K = K := fun K => room_of (by simp; omega) (by omega) K
    refine ⟨_, version_pieces_k12_of (w := (ps' ++ [AV.agg [AV.int .i64 2, AV.str (dec rev), AV.int .i64 0, AV.bool false]], true)) ?_⟩
    unfold version_pieces_k12_E
    rw [w1, e]
    simp only [Option.bind_some, Sum.elim_inl, hpre, cond_true, hcut, version_number_is (dec rev) (by omega), s1, s2, hne2, cond_false, hR]
    rfl
  rw [txt_zero]
  rcases le_cases hl with rfl | ⟨c, rfl, hc⟩
  · obtain ⟨qs', k1⟩ := k12 ps (by omega)
    obtain ⟨c, r, hc1, hc2⟩ := tl2_head 3 pre pn rev
    have hc3 := (sign1_dg c hc2).2.2.2
    rw [List.nil_append, hc1] at g1
    rw [hc1] at k1
    rw [List.nil_append, hc1]
    refine ⟨qs', version_pieces_of ?_⟩
    unfold version_pieces_E
    rw [g1]
    have hx : (cond (decide ((97 : Int) ≤ (UInt8.toNat c : Int))) (decide ((UInt8.toNat c : Int) ≤ 122)) false) = false := by
      rw [cond_and, Bool.eq_false_iff]
      intro h
      rw [Bool.and_eq_true, decide_eq_true_eq, decide_eq_true_eq] at h
      omega
    have e : (!((c :: r) == ([] : List UInt8))) = true := rfl
    simp only [Option.bind_some, Sum.elim_inl, e, cond_true, idxS_zero, cond_some, hx, cond_false, k1]
  · obtain ⟨qs', k1⟩ := k12 (ps ++ [AV.agg [AV.int .i64 5, AV.str [c], AV.int .i64 0, AV.bool false]]) (by simp; omega)
    refine ⟨qs', version_pieces_of ?_⟩
    unfold version_pieces_E
    rw [g1]
    have e : (!(([c] ++ tl2 3 pre pn rev) == ([] : List UInt8))) = true := rfl
    have e1 : decide ((97 : Int) ≤ (UInt8.toNat c : Int)) = true := decide_eq_true (by omega)
    have e2 : decide ((UInt8.toNat c : Int) ≤ 122) = true := decide_eq_true (by omega)
    have hR : ∀ K : Option (List AV × Bool), roomL (ps.length + ([AV.agg [AV.int .i64 5, AV.str [c], AV.int .i64 0, AV.bool false]]).length) 40 K = K := fun K => room_of (by simp; omega) (by omega) K
    have hcut : ∀ {R : Type} (K : List UInt8 → Option R), cutS (c :: tl2 3 pre pn rev) 0 1 K = K [c] := fun K => cutS_to (s := c :: tl2 3 pre pn rev) (b := 1) (by simp) K
    simp only [Option.bind_some, Sum.elim_inl, e, cond_true, List.singleton_append, idxS_zero, cond_some, e1, e2, hcut, hR, cutS_one, k1]
    rfl
/-- What is printed is a version. -/
theorem check_txt {f e : Int} {ns : List Int} {le pre : List UInt8} {pn rev : Int} (hf : 1 ≤ f ∧ f ≤ 3) (hR : okR f e ns le pre pn rev = true) : version_Check f (txt f e ns le pre pn rev) = some 0 := by
  obtain ⟨n0, n1, h3, h4, h5, h6, h7, h8, h9⟩ := okC_parts (okR_C hR)
  have hlen := okR_len hR
  obtain ⟨n, t, rfl⟩ : ∃ n t, ns = n :: t := by
    cases ns with
    | nil => simp at n0
    | cons n t => exact ⟨n, t, rfl⟩
  rw [List.all_cons, Bool.and_eq_true] at h8
  have hp : ∃ q, version_part f (txt f e (n :: t) le pre pn rev) = some (q, true) := by
    by_cases hf3 : f = 3
    · subst hf3
      have he : e = 0 := by
        unfold okR at hR
        rw [Bool.and_eq_true] at hR
        have : ((3 : Int) != 3) = false := rfl
        rw [this, Bool.false_or, Bool.and_eq_true, beq_iff_eq] at hR
        exact hR.2.1
      subst he
      obtain ⟨ps, g1⟩ := pieces_txt h8.1 h8.2 (by simp at n1; omega) h3 h4 h6 h7
      obtain ⟨l, l1, l2⟩ := lastIndex_tot (txt 3 0 (n :: t) le pre pn rev) (by omega)
      have e : ((3 : Int) == 3) = true := rfl
      rcases l2 with l2 | ⟨k, rfl, hk⟩
      · refine ⟨([], txt 3 0 (n :: t) le pre pn rev, [], false), version_part_of ?_⟩
        unfold version_part_E
        rw [e, g1]
        simp only [cond_true, Option.bind_some, l1, decide_eq_true l2]
      · refine ⟨([], (txt 3 0 (n :: t) le pre pn rev).take k, (txt 3 0 (n :: t) le pre pn rev).drop (k + 2), true), version_part_of ?_⟩
        unfold version_part_E
        have e2 : IntKind.wrap .i64 ((k : Int) + 2) = ((k + 2 : Nat) : Int) := by rw [wr (by omega)]; omega
        rw [e, g1]
        simp only [cond_true, Option.bind_some, l1]
        rw [decide_eq_false (by omega), cutS_to (by omega), e2, cutS_from (by omega)]
        rfl
    · obtain ⟨q, h1⟩ := vpart_okA hf3 (txt f e (n :: t) le pre pn rev) (by omega)
      rw [okA_txt hf3 h5 h3 h4] at h1
      exact ⟨q, h1⟩
  obtain ⟨q, hq⟩ := hp
  apply version_Check_of
  unfold version_Check_E
  rw [decide_eq_false (by omega : ¬ f < 1), decide_eq_false (by omega : ¬ (3 : Int) < f), decide_eq_false (by omega : ¬ (64 : Int) < ((txt f e (n :: t) le pre pn rev).length : Int)), hq]
  rfl
/-! ### There and back -/
theorem translate_txt {a b e : Int} {ns : List Int} {le pre : List UInt8} {pn rv : Int} (ha : 1 ≤ a ∧ a ≤ 3) (hb : 1 ≤ b ∧ b ≤ 3) (hA : okR a e ns le pre pn rv = true) :
    vmap_Translate a b (txt a e ns le pre pn rv) = some (if okR b e ns le pre pn rv then (txt b e ns le pre pn rv, 0) else ([], 11)) := by
  have hp := parse_txt ha hA (check_txt ha hA)
  obtain ⟨_, n1, h3, h4, _⟩ := okC_parts (okR_C hA)
  have g1 := print_is hb e ns le pre pn rv (by omega) (Nat.le_trans (leOk_len h3) (by omega)) (Nat.le_trans (preOk_len h4) (by omega))
  have e0 : ((0 : Int) != 0) = false := rfl
  apply vmap_Translate_of
  unfold vmap_Translate_E
  rw [known_is, known_is, decide_eq_true ha.1, decide_eq_true ha.2, decide_eq_true hb.1, decide_eq_true hb.2, hp]
  simp only [Option.bind_some, Bool.and_self, Bool.not_true, cond_false, e0, g1]
/-- What the law asks. -/
theorem back_law (hw : drayagelaw13_awake = some true) (a c b : Int) (s : List UInt8) : drayagelaw13_VmapBack a c b s = some true := by
  apply drayagelaw13_VmapBack_of
  unfold drayagelaw13_VmapBack_E
  rw [hw]
  have e0 : ((0 : Int) != 0) = false := rfl
  by_cases hl : (2000 : Int) < (s.length : Int)
  · rw [decide_eq_true hl]; rfl
  · obtain ⟨r, h1, _, h3⟩ := translate_is a b s (by omega)
    rw [decide_eq_false hl, h1]
    cases h3 with
    | @bad x hx =>
      have hx' : (x != 0) = true := by simpa using hx
      simp only [Option.bind_some, Bool.not_true, cond_false, hx', cond_true]
      rfl
    | @good e ns le pre pn rv ha hb hc hE hR =>
      obtain ⟨q1, q2⟩ := endV_parts hE
      have t1 := translate_txt hb ha hR
      rw [q1, if_pos rfl, q2] at t1
      obtain ⟨r2, k1, _, k3⟩ := translate_is a c s (by omega)
      have ex : (!(s == s)) = false := by simp
      simp only [Option.bind_some, Bool.not_true, cond_false, e0, t1, ex, k1]
      cases k3 with
      | @bad x hx =>
        have hx' : (x != 0) = true := by simpa using hx
        simp only [hx', cond_true]
      | @good e' ns' le' pre' pn' rv' ha' hcf hc' hE' hR' =>
        obtain ⟨q1', q2'⟩ := endV_parts hE'
        have p1 := parse_txt ha q1 (by rw [q2]; exact hc)
        have p2 := parse_txt ha q1' (by rw [q2']; exact hc)
        rw [q2] at p1
        rw [q2', p1] at p2
        injection p2 with p2
        injection p2 with p2 _
        injection p2 with i1 p2
        injection p2 with i2 p2
        injection p2 with i3 p2
        injection p2 with i4 p2
        injection p2 with i5 i6
        subst i1; subst i3; subst i4; subst i5; subst i6
        have hns : ns = ns' := by
          have inj : ∀ x y : List Int, iA x = iA y → x = y := by
            intro x
            induction x with
            | nil => intro y h; cases y with
              | nil => rfl
              | cons _ _ => cases h
            | cons u x ih => intro y h; cases y with
              | nil => cases h
              | cons v y =>
                have h : AV.int .i64 u :: iA x = AV.int .i64 v :: iA y := h
                injection h with h1 h2
                injection h1 with _ h1
                rw [h1, ih y h2]
          exact inj ns ns' i2
        subst hns
        have t2 := translate_txt hcf hb hR'
        rw [hR, if_pos rfl] at t2
        simp only [e0, cond_false, t2, Option.bind_some]
        simp
end Go.Proofs.YtlgpcmklpknmcaaDoor
