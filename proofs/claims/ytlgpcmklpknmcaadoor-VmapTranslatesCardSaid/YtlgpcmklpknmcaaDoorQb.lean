/- What a version of Rpm's is: both answers are one.
   The last place of "-r" is found, or not: but nothing fails.
   Small laws on the pieces of a version.
   The number with which a text begins: both answers. -/
import Derived.Test.YtlgpcmklpknmcaaDoorQa
 section
set_option linter.unusedVariables false
set_option linter.unusedSimpArgs false
namespace Go.Proofs.YtlgpcmklpknmcaaDoor
open Go Go.Eng Go.Proofs

theorem indexByte_cases (c : UInt8) : ∀ s : List UInt8, (Lib.indexByte s c = -1 ∧ c ∉ s) ∨ ∃ a b, s = a ++ c :: b ∧ c ∉ a ∧ Lib.indexByte s c = (a.length : Int)
  | [] => .inl ⟨rfl, List.not_mem_nil⟩
  | d :: t => by
    by_cases h : d = c
    · subst h
      right
      refine ⟨[], t, rfl, List.not_mem_nil, ?_⟩
      unfold Lib.indexByte
      simp
    · have hb : (d == c) = false := by simpa using h
      rcases indexByte_cases c t with ⟨h1, h2⟩ | ⟨a, b, h1, h2, h3⟩
      · left
        constructor
        · unfold Lib.indexByte
          rw [hb, h1]
          rfl
        · intro hm
          rcases List.mem_cons.1 hm with e | e
          · exact h e.symm
          · exact h2 e
      · right
        refine ⟨d :: a, b, by rw [h1]; rfl, ?_, ?_⟩
        · intro hm
          rcases List.mem_cons.1 hm with e | e
          · exact h e.symm
          · exact h2 e
        · unfold Lib.indexByte
          rw [hb, h3]
          have : ((a.length : Int) == -1) = false := by
            rw [beq_eq_false_iff_ne]; omega
          rw [this]
          simp
theorem index_colon (s : List UInt8) : i_stringslite_Index s [58] = some (Lib.indexByte s 58) := by
  apply i_stringslite_Index_of
  unfold i_stringslite_Index_E
  have e : i_stringslite_IndexByte s (UInt8.toNat 58 : Int) = some (Lib.indexByte s 58) := i_stringslite_IndexByte_is s 58
  rw [idxS_zero, e]
  by_cases h : s = [58]
  · subst h; rfl
  · have : (([58] : List UInt8) == s) = false := by rw [beq_eq_false_iff_ne]; exact fun e => h e.symm
    rw [this]
    rfl
theorem cut_colon_none {s : List UInt8} (h : Lib.indexByte s 58 = -1) : strings_Cut s [58] = some (s, [], false) := by
  apply strings_Cut_of
  unfold strings_Cut_E
  have : i_stringslite_Cut s [58] = some (s, [], false) := by
    apply i_stringslite_Cut_of
    unfold i_stringslite_Cut_E
    rw [index_colon, h]
    rfl
  rw [this]; rfl
theorem cut_colon {a b : List UInt8} (h : Lib.indexByte (a ++ 58 :: b) 58 = (a.length : Int)) (hs : (a ++ 58 :: b).length ≤ 4611686018427387904) : strings_Cut (a ++ 58 :: b) [58] = some (a, b, true) := by
  apply strings_Cut_of
  unfold strings_Cut_E
  have : i_stringslite_Cut (a ++ 58 :: b) [58] = some (a, b, true) := by
    apply i_stringslite_Cut_of
    unfold i_stringslite_Cut_E
    rw [index_colon, h]
    have hl : (a ++ 58 :: b).length = a.length + 1 + b.length := by simp; omega
    have e1 : ((List.length ([58] : List UInt8) : Nat) : Int) = 1 := rfl
    simp only [Option.bind_some]
    rw [decide_eq_true (by omega : (0 : Int) ≤ (a.length : Int)), e1, wr_succ (by omega), cutS_to (by omega), cutS_from (by omega)]
    simp only [cond_true]
    rw [List.take_left' rfl]
    have : (a ++ 58 :: b).drop (a.length + 1) = b := by
      rw [show a ++ 58 :: b = (a ++ [58]) ++ b by simp]
      exact List.drop_left' (by simp)
    rw [this]
  rw [this]; rfl

/-- Is that an epoch? -/
def okE (a : List UInt8) : Bool := !(a.takeWhile dg == []) && (a.dropWhile dg == []) && decide (((a.takeWhile dg).length : Int) < 10)
theorem epochs_none {s : List UInt8} (h : Lib.indexByte s 58 = -1) : version_epochs s = some ([], s, true) := by
  apply version_epochs_of
  unfold version_epochs_E
  rw [cut_colon_none h]
  rfl
theorem epochs_some {a b : List UInt8} (h : Lib.indexByte (a ++ 58 :: b) 58 = (a.length : Int)) (hs : (a ++ 58 :: b).length ≤ 4611686018427387904) : version_epochs (a ++ 58 :: b) = some (a, b, okE a) := by
  apply version_epochs_of
  unfold version_epochs_E
  rw [cut_colon h hs]
  have hl : (a ++ 58 :: b).length = a.length + 1 + b.length := by simp; omega
  simp only [Option.bind_some, Bool.not_true, cond_false, version_number_is a (by omega), cond_some, cond_and]
  rfl
/-- Has an epoch no nought ahead? -/
def headE (a : List UInt8) : Bool := decide ((a.length : Int) < 2) || (match a with | [] => false | c :: _ => (UInt8.toNat c : Int) != 48)
/-- Is what is behind the epoch a version? -/
def okP (a p : List UInt8) : Bool := headE a && decide (0 ≤ lastAt p 45 p.length) &&
  (((p.take (lastAt p 45 p.length).toNat).all (mk [46, 95, 43, 126, 94]) && !(p.take (lastAt p 45 p.length).toNat == [])) && ((p.drop ((lastAt p 45 p.length).toNat + 1)).all (mk [46, 95, 43, 126, 94]) && !(p.drop ((lastAt p 45 p.length).toNat + 1) == [])))
theorem k11_is (ok : Bool) (a p r : List UInt8) (has : Bool) (hp : p.length ≤ 4611686018427387904) (hr : r.length ≤ 4611686018427387904) : version_part_k11 2 ok a p r has =
    some (ok && headE a && has && (p.all (mk [46, 95, 43, 126, 94]) && !(p == [])) && (r.all (mk [46, 95, 43, 126, 94]) && !(r == [])), (a, p, r, has)) := by
  apply version_part_k11_of
  unfold version_part_k11_E
  simp only [vmade_is _ _ hp, vmade_is _ _ hr, Option.bind_some, cond_some, cond_and]
  cases a with
  | nil =>
    have : decide (((([] : List UInt8).length : Nat) : Int) < 2) = true := rfl
    have hh : headE [] = true := rfl
    rw [this, hh]
    simp only [cond_true, cond_some, cond_and, Option.bind_some, Bool.true_or, Bool.and_true]
    rfl
  | cons c t =>
    simp only [idxS_zero, cond_some, Option.bind_some, cond_and, cond_or]
    rfl
theorem vpart_tail {a p : List UInt8} {ok : Bool} {s : List UInt8} (he : version_epochs s = some (a, p, ok)) (hp : p.length ≤ 4611686018427387904) : ∃ q, version_part 2 s = some (q, ok && okP a p) := by
  have h0 : (((2 : Int)) == 3) = false := rfl
  have hl := lastAt_le p 45 p.length
  have hg := lastAt_ge p 45 p.length
  by_cases hk : 0 ≤ lastAt p 45 p.length
  · obtain ⟨k, hk2⟩ : ∃ k : Nat, lastAt p 45 p.length = (k : Int) := ⟨(lastAt p 45 p.length).toNat, by omega⟩
    refine ⟨(a, p.take k, p.drop (k + 1), true), ?_⟩
    apply version_part_of
    unfold version_part_E
    have e45 : strings_LastIndexByte p 45 = some (lastAt p 45 p.length) := last_is p 45 hp
    rw [h0, he]
    simp only [cond_false, Option.bind_some, e45]
    rw [hk2] at hl
    rw [decide_eq_true hk, hk2, cutS_to (by omega), wr_succ (by omega), cutS_from (by omega), k11_is _ _ _ _ _ (by rw [List.length_take]; omega) (by rw [List.length_drop]; omega)]
    simp only [cond_true, Option.bind_some]
    unfold okP
    rw [hk2, Int.toNat_natCast, decide_eq_true (by omega : (0 : Int) ≤ (k : Int))]
    simp only [Bool.and_true, Bool.and_assoc]
  · refine ⟨(a, p, [], false), ?_⟩
    apply version_part_of
    unfold version_part_E
    have e45 : strings_LastIndexByte p 45 = some (lastAt p 45 p.length) := last_is p 45 hp
    rw [h0, he]
    simp only [cond_false, Option.bind_some, e45]
    rw [decide_eq_false hk, k11_is _ _ _ _ _ hp (by simp)]
    simp only [cond_false, Option.bind_some, Bool.and_false, Bool.false_and]
    unfold okP
    rw [decide_eq_false hk]
    simp only [cond_false, Option.bind_some, Bool.and_false, Bool.false_and]

/-- Is that a version? -/
def okV (s : List UInt8) : Bool := if Lib.indexByte s 58 < 0 then okP [] s else okE (s.take (Lib.indexByte s 58).toNat) && okP (s.take (Lib.indexByte s 58).toNat) (s.drop ((Lib.indexByte s 58).toNat + 1))
def vchk (s : List UInt8) : Int := if (64 : Int) < (s.length : Int) then 4 else if okV s then 0 else 3
theorem split_at (a b : List UInt8) : (a ++ 58 :: b).take a.length = a ∧ (a ++ 58 :: b).drop (a.length + 1) = b := by
  refine ⟨List.take_left' rfl, ?_⟩
  rw [show a ++ 58 :: b = (a ++ [58]) ++ b by simp]
  exact List.drop_left' (by simp)
theorem part_is (s : List UInt8) (hs : s.length ≤ 4611686018427387904) : ∃ q, version_part 2 s = some (q, okV s) := by
  rcases indexByte_cases 58 s with ⟨h1, h2⟩ | ⟨a, b, h1, h2, h3⟩
  · obtain ⟨q, hq⟩ := vpart_tail (epochs_none h1) hs
    refine ⟨q, ?_⟩
    unfold okV
    rw [if_pos (by omega)]
    exact hq
  · have hl : s.length = a.length + 1 + b.length := by rw [h1]; simp; omega
    have he : version_epochs s = some (a, b, okE a) := by rw [h1] at h3 hs ⊢; exact epochs_some h3 hs
    obtain ⟨q, hq⟩ := vpart_tail he (by omega : b.length ≤ _)
    refine ⟨q, ?_⟩
    unfold okV
    rw [if_neg (by omega), h3, Int.toNat_natCast, h1, (split_at a b).1, (split_at a b).2, ← h1]
    exact hq
theorem vchk_is (s : List UInt8) (hs : s.length ≤ 4611686018427387904) : version_Check 2 s = some (vchk s) := by
  obtain ⟨q, h1⟩ := part_is s hs
  unfold vchk
  apply version_Check_of
  unfold version_Check_E
  rw [h1]
  by_cases h : (64 : Int) < (s.length : Int)
  · rw [if_pos h, decide_eq_true h]; rfl
  · rw [if_neg h, decide_eq_false h]
    cases okV s <;> rfl
end Go.Proofs.YtlgpcmklpknmcaaDoor
 end

 section
set_option linter.unusedVariables false
set_option linter.unusedSimpArgs false
namespace Go.Proofs.YtlgpcmklpknmcaaDoor
open Go Go.Eng Go.Proofs

/-! ### The last place of "-r" -/
theorem hash_loop (s : List UInt8) (hs : s.length ≤ 1000000) : ∀ (k : Nat) (h : Int), k ≤ s.length → ∃ h', i_bytealg_hashStrRev_string_l3 s h ((k : Int) - 1) = some (s, h')
  | 0, h, hk => ⟨h, i_bytealg_hashStrRev_string_l3_of (by unfold i_bytealg_hashStrRev_string_l3_E; rfl)⟩
  | k + 1, h, hk => by
    have hg : s[k]? = some (s[k]'(by omega)) := List.getElem?_eq_getElem (by omega)
    obtain ⟨h', ih⟩ := hash_loop s hs k (IntKind.wrap .u32 ((IntKind.wrap .u32 (h * 16777619)) + (IntKind.wrap .u32 (UInt8.toNat (s[k]'(by omega)) : Int)))) (by omega)
    refine ⟨h', i_bytealg_hashStrRev_string_l3_of ?_⟩
    unfold i_bytealg_hashStrRev_string_l3_E
    have e : (((k + 1 : Nat) : Int) - 1) = (k : Int) := by omega
    rw [e, decide_eq_true (by omega : (0 : Int) ≤ (k : Int)), idxS_get hg, wr (by omega)]
    exact ih
theorem pow_two (h p q : Int) : ∃ r, i_bytealg_hashStrRev_string_l8 h p q 2 = some r := by
  have h0 : ∀ p q, i_bytealg_hashStrRev_string_l8 h p q 0 = some (h, p) := fun p q => i_bytealg_hashStrRev_string_l8_of (by unfold i_bytealg_hashStrRev_string_l8_E; rfl)
  have h1 : ∀ p q, ∃ r, i_bytealg_hashStrRev_string_l8 h p q 1 = some r := fun p q => by
    refine ⟨_, i_bytealg_hashStrRev_string_l8_of (w := (h, IntKind.wrap .u32 (p * q))) ?_⟩
    unfold i_bytealg_hashStrRev_string_l8_E
    have e1 : decide ((0 : Int) < 1) = true := rfl
    have e2 : ((bits .and .i64 1 1) != 0) = true := by decide
    have e3 : ∀ K : Int → Option (Int × Int), shrI .i64 1 1 K = K 0 := fun K => by unfold shrI; rfl
    rw [e1, e2, e3]
    simp only [cond_true, h0]
  obtain ⟨r, hr⟩ := h1 p (IntKind.wrap .u32 (q * q))
  refine ⟨r, i_bytealg_hashStrRev_string_l8_of ?_⟩
  unfold i_bytealg_hashStrRev_string_l8_E
  have e1 : decide ((0 : Int) < 2) = true := rfl
  have e2 : ((bits .and .i64 2 1) != 0) = false := by decide
  have e3 : ∀ K : Int → Option (Int × Int), shrI .i64 2 1 K = K 1 := fun K => by unfold shrI; rfl
  rw [e1, e2, e3]
  exact hr
theorem hash_tot : ∃ h p, i_bytealg_hashStrRev_string [45, 114] = some (h, p) := by
  obtain ⟨h', e⟩ := hash_loop [45, 114] (by simp) 2 0 (by simp)
  obtain ⟨r, hr⟩ := pow_two h' 1 16777619
  refine ⟨r.1, r.2, i_bytealg_hashStrRev_string_of ?_⟩
  unfold i_bytealg_hashStrRev_string_E
  have e' : i_bytealg_hashStrRev_string_l3 [45, 114] 0 (IntKind.wrap .i64 (((([45, 114] : List UInt8).length : Nat) : Int) - 1)) = some ([45, 114], h') := e
  rw [e']
  simp only [Option.bind_some]
  have hr' : i_bytealg_hashStrRev_string_l8 h' 1 16777619 ((([45, 114] : List UInt8).length : Nat) : Int) = some r := hr
  rw [hr']; rfl
theorem roll_loop (s x : List UInt8) (hh p n : Int) (last : Nat) (hs : s.length ≤ 1000000) : ∀ (d : Nat) (h : Int), last + d ≤ s.length → ∃ h', i_bytealg_LastIndexRabinKarp_string_l6 s x hh p n (last : Int) h (((last + d : Nat) : Int) - 1) = some (s, x, hh, p, n, (last : Int), h')
  | 0, h, hd => by
    refine ⟨h, i_bytealg_LastIndexRabinKarp_string_l6_of ?_⟩
    unfold i_bytealg_LastIndexRabinKarp_string_l6_E
    rw [decide_eq_false (by omega)]; rfl
  | d + 1, h, hd => by
    have hg : s[last + d]? = some (s[last + d]'(by omega)) := List.getElem?_eq_getElem (by omega)
    obtain ⟨h', ih⟩ := roll_loop s x hh p n last hs d (IntKind.wrap .u32 ((IntKind.wrap .u32 (h * 16777619)) + (IntKind.wrap .u32 (UInt8.toNat (s[last + d]'(by omega)) : Int)))) (by omega)
    refine ⟨h', i_bytealg_LastIndexRabinKarp_string_l6_of ?_⟩
    unfold i_bytealg_LastIndexRabinKarp_string_l6_E
    have e : (((last + (d + 1) : Nat) : Int) - 1) = ((last + d : Nat) : Int) := by omega
    rw [e, decide_eq_true (by omega), idxS_get hg, wr (by omega)]
    exact ih
theorem back_loop (s x : List UInt8) (hh p : Int) (hs : s.length ≤ 1000000) : ∀ (k : Nat) (h : Int), k + 2 ≤ s.length → ∃ w, i_bytealg_LastIndexRabinKarp_string_l12 s x hh p 2 h ((k : Int) - 1) = some w ∧ (w = Sum.inl () ∨ ∃ r : Nat, w = Sum.inr (r : Int) ∧ r + 2 ≤ s.length)
  | 0, h, hk => ⟨Sum.inl (), i_bytealg_LastIndexRabinKarp_string_l12_of (by unfold i_bytealg_LastIndexRabinKarp_string_l12_E; rfl), .inl rfl⟩
  | k + 1, h, hk => by
    have hg : s[k]? = some (s[k]'(by omega)) := List.getElem?_eq_getElem (by omega)
    have hg2 : s[k + 2]? = some (s[k + 2]'(by omega)) := List.getElem?_eq_getElem (by omega)
    obtain ⟨w, ih, hw⟩ := back_loop s x hh p hs k (IntKind.wrap .u32 ((IntKind.wrap .u32 ((IntKind.wrap .u32 (h * 16777619)) + (IntKind.wrap .u32 (UInt8.toNat (s[k]'(by omega)) : Int)))) - (IntKind.wrap .u32 (p * (IntKind.wrap .u32 (UInt8.toNat (s[k + 2]'(by omega)) : Int)))))) (by omega)
    have e : (((k + 1 : Nat) : Int) - 1) = (k : Int) := by omega
    have e2 : IntKind.wrap .i64 ((k : Int) + 2) = ((k + 2 : Nat) : Int) := by rw [wr (by omega)]; omega
    have hc : ∀ K : List UInt8 → Option Bool, cutS s (k : Int) ((k + 2 : Nat) : Int) K = K ((s.take (k + 2)).drop k) := fun K => cutS_of (by omega) (by omega) K
    have run : ∀ w', (∀ b : Bool, b = true ∨ b = false → (cond b (some (Sum.inr (k : Int))) (some w)) = some w' ∨ True) → True := fun _ _ => trivial
    have step : ∃ b : Bool, i_bytealg_LastIndexRabinKarp_string_l12 s x hh p 2 h (k : Int) = some (cond b (Sum.inr (k : Int)) w) := by
      cases hb : (cond ((IntKind.wrap .u32 ((IntKind.wrap .u32 ((IntKind.wrap .u32 (h * 16777619)) + (IntKind.wrap .u32 (UInt8.toNat (s[k]'(by omega)) : Int)))) - (IntKind.wrap .u32 (p * (IntKind.wrap .u32 (UInt8.toNat (s[k + 2]'(by omega)) : Int)))))) == hh) ((s.take (k + 2)).drop k == x) false) with
      | true =>
        refine ⟨true, i_bytealg_LastIndexRabinKarp_string_l12_of ?_⟩
        unfold i_bytealg_LastIndexRabinKarp_string_l12_E
        rw [decide_eq_true (by omega : (0 : Int) ≤ (k : Int)), idxS_get hg, e2, idxS_get hg2, hc]
        simp only [cond_some, hb, Option.bind_some, cond_true]
      | false =>
        refine ⟨false, i_bytealg_LastIndexRabinKarp_string_l12_of ?_⟩
        unfold i_bytealg_LastIndexRabinKarp_string_l12_E
        rw [decide_eq_true (by omega : (0 : Int) ≤ (k : Int)), idxS_get hg, e2, idxS_get hg2, hc]
        simp only [cond_some, hb, Option.bind_some, cond_true, cond_false]
        rw [wr (by omega)]
        exact ih
    obtain ⟨b, hb⟩ := step
    rw [e]
    cases b with
    | true => exact ⟨_, hb, .inr ⟨k, rfl, by omega⟩⟩
    | false => exact ⟨_, hb, hw⟩
theorem lastIndex_tot (s : List UInt8) (hs : s.length ≤ 1000000) : ∃ r : Int, strings_LastIndex s [45, 114] = some r ∧ (r < 0 ∨ ∃ k : Nat, r = (k : Int) ∧ k + 2 ≤ s.length) := by
  have e0 : (((([45, 114] : List UInt8).length : Nat) : Int) == 0) = false := rfl
  have e1 : (((([45, 114] : List UInt8).length : Nat) : Int) == 1) = false := rfl
  by_cases h2 : s.length = 2
  · have e2 : (((([45, 114] : List UInt8).length : Nat) : Int) == (s.length : Int)) = true := by rw [h2]; rfl
    cases h : (([45, 114] : List UInt8) == s) with
    | true =>
      refine ⟨0, strings_LastIndex_of ?_, .inr ⟨0, rfl, by omega⟩⟩
      unfold strings_LastIndex_E
      rw [e0, e1, e2, h]; rfl
    | false =>
      refine ⟨-1, strings_LastIndex_of ?_, .inl (by decide)⟩
      unfold strings_LastIndex_E
      rw [e0, e1, e2, h]; rfl
  · have e2 : (((([45, 114] : List UInt8).length : Nat) : Int) == (s.length : Int)) = false := by
      rw [beq_eq_false_iff_ne]; simp only [List.length_cons, List.length_nil]; omega
    by_cases hlt : s.length < 2
    · refine ⟨-1, strings_LastIndex_of ?_, .inl (by decide)⟩
      unfold strings_LastIndex_E
      rw [e0, e1, e2, decide_eq_true (by simp only [List.length_cons, List.length_nil]; omega)]; rfl
    · obtain ⟨m, hm⟩ : ∃ m, s.length = m + 2 := ⟨s.length - 2, by omega⟩
      have e3 : decide ((s.length : Int) < ((([45, 114] : List UInt8).length : Nat) : Int)) = false := decide_eq_false (by simp only [List.length_cons, List.length_nil]; omega)
      have key : ∃ r : Int, i_bytealg_LastIndexRabinKarp_string s [45, 114] = some r ∧ (r < 0 ∨ ∃ k : Nat, r = (k : Int) ∧ k + 2 ≤ s.length) := by
        obtain ⟨hh, p, hx⟩ := hash_tot
        obtain ⟨h', h6⟩ := roll_loop s [45, 114] hh p 2 m hs 2 0 (by omega)
        have w1 : IntKind.wrap .i64 ((s.length : Int) - ((([45, 114] : List UInt8).length : Nat) : Int)) = (m : Int) := by rw [wr (by simp only [List.length_cons, List.length_nil]; omega)]; simp only [List.length_cons, List.length_nil]; omega
        have w2 : IntKind.wrap .i64 ((s.length : Int) - 1) = (((m + 2 : Nat) : Int) - 1) := by rw [wr (by omega), hm]
        have w3 : IntKind.wrap .i64 ((m : Int) - 1) = (m : Int) - 1 := wr (by omega)
        obtain ⟨w, g1, g2⟩ := back_loop s [45, 114] hh p hs m h' (by omega)
        have h6' : i_bytealg_LastIndexRabinKarp_string_l6 s [45, 114] hh p ((([45, 114] : List UInt8).length : Nat) : Int) (m : Int) 0 (((m + 2 : Nat) : Int) - 1) = some (s, [45, 114], hh, p, 2, (m : Int), h') := h6
        cases hb : (cond (h' == hh) (s.drop m == [45, 114]) false) with
        | true =>
          refine ⟨(m : Int), i_bytealg_LastIndexRabinKarp_string_of ?_, .inr ⟨m, rfl, by omega⟩⟩
          unfold i_bytealg_LastIndexRabinKarp_string_E
          rw [hx]
          simp only [Option.bind_some, w1, w2, h6', cutS_from (show m ≤ s.length by omega), cond_some, hb, cond_true]
        | false =>
          have hw : ∃ r : Int, (Sum.elim (fun r28 => (some (-1))) (fun r29 => (some r29)) w : Option Int) = some r ∧ (r < 0 ∨ ∃ k : Nat, r = (k : Int) ∧ k + 2 ≤ s.length) := by
            rcases g2 with rfl | ⟨r, rfl, hr⟩
            · exact ⟨-1, rfl, .inl (by decide)⟩
            · exact ⟨(r : Int), rfl, .inr ⟨r, rfl, hr⟩⟩
          obtain ⟨r, q1, q2⟩ := hw
          refine ⟨r, i_bytealg_LastIndexRabinKarp_string_of ?_, q2⟩
          unfold i_bytealg_LastIndexRabinKarp_string_E
          rw [hx]
          simp only [Option.bind_some, w1, w2, h6', cutS_from (show m ≤ s.length by omega), cond_some, hb, cond_false, w3, g1]
          exact q1
      obtain ⟨r, k1, k2⟩ := key
      refine ⟨r, strings_LastIndex_of ?_, k2⟩
      unfold strings_LastIndex_E
      rw [e0, e1, e2, e3]
      simp only [cond_false, k1, Option.bind_some]

end Go.Proofs.YtlgpcmklpknmcaaDoor
 end

 section
set_option linter.unusedVariables false
set_option linter.unusedSimpArgs false
namespace Go.Proofs.YtlgpcmklpknmcaaDoor
open Go Go.Eng Go.Proofs

theorem version_word_loop (s : List UInt8) (hs : s.length ≤ 4611686018427387904) : ∀ (l : List UInt8) (i : Nat), i ≤ s.length → s.drop i = l →
    version_word_l2 s i = some (s, ((i + (l.takeWhile lt).length : Nat) : Int))
  | [], i, hi, h => by
    apply version_word_l2_of
    unfold version_word_l2_E
    rw [out_dec h]
    rfl
  | c :: t, i, hi, h => by
    obtain ⟨h1, h2, h3, h4⟩ := drop_cons h
    apply version_word_l2_of
    unfold version_word_l2_E
    rw [in_dec h, idxS_of h, version_letter_is, wr_succ (by omega), version_word_loop s hs t (i + 1) (by omega) h3]
    rw [List.takeWhile_cons]
    simp only [Option.bind_some, cond_true]
    by_cases hd : lt c = true
    · rw [hd]
      have : lit (UInt8.toNat c : Int) = true := hd
      rw [this]
      simp only [cond_true, if_true, List.length_cons]
      rw [Nat.add_right_comm, Nat.add_assoc]
    · have hd' : lt c = false := by simpa using hd
      have : lit (UInt8.toNat c : Int) = false := hd'
      rw [hd', this]
      rfl
theorem version_word_is (s : List UInt8) (hs : s.length ≤ 4611686018427387904) : version_word s = some (s.takeWhile lt, s.dropWhile lt) := by
  apply version_word_of
  unfold version_word_E
  have h := version_word_loop s hs s 0 (by omega) rfl
  rw [Nat.zero_add] at h
  have h' : version_word_l2 s 0 = some (s, ((s.takeWhile lt).length : Int)) := h
  rw [h']
  have hl := takeWhile_le lt s
  simp only [Option.bind_some]
  rw [cutS_to hl, cutS_from hl, take_takeWhile, drop_takeWhile]
theorem begins_is (s : List UInt8) (c : UInt8) : version_begins s (UInt8.toNat c : Int) = some (s.head? == some c) := by
  apply version_begins_of
  unfold version_begins_E
  cases s with
  | nil => rfl
  | cons d t =>
    rw [idxS_zero, byte_beq]
    rfl
theorem cutS_one {R : Type} (c : UInt8) (t : List UInt8) (K : List UInt8 → Option R) : cutS (c :: t) 1 ((c :: t).length : Int) K = K t :=
  cutS_from (s := c :: t) (a := 1) (by simp) K

theorem some_beq (x y : UInt8) : (some x == some y) = (x == y) := rfl
theorem pos_len {u : List UInt8} (h : u ≠ []) : 0 < u.length := List.length_pos_iff.2 h
theorem prefix_is (s p : List UInt8) : strings_HasPrefix s p = some (decide (p.length ≤ s.length) && (s.take p.length == p)) := by
  apply strings_HasPrefix_of
  unfold strings_HasPrefix_E
  have : i_stringslite_HasPrefix s p = some (decide (p.length ≤ s.length) && (s.take p.length == p)) := by
    apply i_stringslite_HasPrefix_of
    unfold i_stringslite_HasPrefix_E
    by_cases h : p.length ≤ s.length
    · rw [decide_eq_true h, decide_eq_true (by omega), cutS_to h]; rfl
    · rw [decide_eq_false h, decide_eq_false (by omega)]; rfl
  rw [this]; rfl
def words : List (List UInt8) := [[97, 108, 112, 104, 97], [98, 101, 116, 97], [112, 114, 101], [114, 99], [99, 118, 115], [115, 118, 110], [103, 105, 116], [104, 103], [112]]
theorem words_map : words.map AV.str = [AV.str [97, 108, 112, 104, 97], AV.str [98, 101, 116, 97], AV.str [112, 114, 101], AV.str [114, 99], AV.str [99, 118, 115], AV.str [115, 118, 110], AV.str [103, 105, 116], AV.str [104, 103], AV.str [112]] := rfl
theorem all_takeWhile (p : UInt8 → Bool) : ∀ l : List UInt8, (l.takeWhile p).all p = true
  | [] => rfl
  | a :: l => by
    rw [List.takeWhile_cons]
    split
    · rename_i h; rw [List.all_cons, h, all_takeWhile p l]; rfl
    · rfl
theorem beq_nil_false {α : Type} [BEq α] {l : List α} (h : (l == []) = false) : l ≠ [] := by
  rintro rfl; cases h
theorem split_len (p : UInt8 → Bool) (l : List UInt8) : (l.takeWhile p).length + (l.dropWhile p).length = l.length := by
  rw [← List.length_append, List.takeWhile_append_dropWhile]
end Go.Proofs.YtlgpcmklpknmcaaDoor
 end

 section
set_option linter.unusedVariables false
set_option linter.unusedSimpArgs false
namespace Go.Proofs.YtlgpcmklpknmcaaDoor
open Go Go.Eng Go.Proofs

def digits10 : List UInt8 := [48, 49, 50, 51, 52, 53, 54, 55, 56, 57]
theorem fin_byte {p : UInt8 → Prop} (h : ∀ k : Fin 256, p (UInt8.ofNat k.val)) (c : UInt8) : p c := by
  have := h ⟨c.toNat, c.toNat_lt⟩
  simpa using this
theorem digits_has (c : UInt8) : digits10.contains c = dg c := by
  refine fin_byte (p := fun c => digits10.contains c = dg c) ?_ c
  decide +kernel
theorem trim_digits (s : List UInt8) : Lib.trimLeftS s [48, 49, 50, 51, 52, 53, 54, 55, 56, 57] = s.dropWhile dg := by
  have : (fun x => digits10.contains x) = dg := funext digits_has
  show s.dropWhile (fun x => digits10.contains x) = _
  rw [this]
theorem dg_val {c : UInt8} (h : dg c = true) : ∃ d : Nat, d < 10 ∧ c.toNat = 48 + d := by
  unfold dg dig at h
  simp only [Bool.and_eq_true, decide_eq_true_eq] at h
  exact ⟨c.toNat - 48, by omega, by omega⟩
theorem dg_ofNat {d : Nat} (h : d < 10) : dg (UInt8.ofNat (48 + d)) = true := by
  have e : ∀ k : Fin 10, dg (UInt8.ofNat (48 + k.val)) = true := by decide
  exact e ⟨d, h⟩
/-- What digits are worth, behind a number. -/
def stepV (n : Nat) (c : UInt8) : Nat := n * 10 + (c.toNat - 48)
def val (n : Nat) (l : List UInt8) : Nat := l.foldl stepV n
theorem val_cons (n : Nat) (c : UInt8) (t : List UInt8) : val n (c :: t) = val (n * 10 + (c.toNat - 48)) t := by
  unfold val; rw [List.foldl_cons]; rfl
theorem val_ge : ∀ (l : List UInt8) (n : Nat), n ≤ val n l
  | [], n => Nat.le_refl _
  | c :: t, n => by have := val_ge t (n * 10 + (c.toNat - 48)); rw [val_cons]; omega
theorem val_app (a b : List UInt8) (n : Nat) : val n (a ++ b) = val (val n a) b := by
  unfold val; rw [List.foldl_append]
theorem decN_val : ∀ (m n : Nat), n ≤ m → val 0 (decN n) = n
  | m, n, h => by
    by_cases h10 : n < 10
    · rw [decN_small h10]
      show 0 * 10 + ((UInt8.ofNat (48 + n)).toNat - 48) = n
      simp; omega
    · cases m with
      | zero => omega
      | succ m =>
        rw [decN_big h10, val_app, decN_val m (n / 10) (by omega)]
        show n / 10 * 10 + ((UInt8.ofNat (48 + n % 10)).toNat - 48) = n
        simp; omega
theorem decN_dg : ∀ (m n : Nat), n ≤ m → (decN n).all dg = true
  | m, n, h => by
    by_cases h10 : n < 10
    · rw [decN_small h10]; simp only [List.all_cons, List.all_nil, Bool.and_true]; exact dg_ofNat h10
    · cases m with
      | zero => omega
      | succ m =>
        rw [decN_big h10, List.all_append, decN_dg m (n / 10) (by omega), List.all_cons, dg_ofNat (by omega)]; rfl
/-- A number's digits have no nought ahead, but for nought's. -/
theorem decN_head : ∀ (m n : Nat), n ≤ m → ∃ c t, decN n = c :: t ∧ (c = 48 → n = 0)
  | m, n, h => by
    by_cases h10 : n < 10
    · refine ⟨_, _, decN_small h10, fun e => ?_⟩
      have : (UInt8.ofNat (48 + n)).toNat = (48 : UInt8).toNat := by rw [e]
      simp at this; omega
    · cases m with
      | zero => omega
      | succ m =>
        obtain ⟨c, t, h1, h2⟩ := decN_head m (n / 10) (by omega)
        refine ⟨c, t ++ [UInt8.ofNat (48 + n % 10)], by rw [decN_big h10, h1]; rfl, fun e => ?_⟩
        have := h2 e
        omega
theorem dec_dg (n : Int) : (dec n).all dg = true := decN_dg _ _ (Nat.le_refl _)
theorem dec_val (n : Int) (h : within n = true) : (val 0 (dec n) : Int) = n := by
  obtain ⟨k, rfl, hk⟩ := within_nat h
  unfold dec
  rw [Int.toNat_natCast, decN_val k k (Nat.le_refl _)]
theorem dec_head (n : Int) : ∃ c t, dec n = c :: t ∧ (c = 48 → n.toNat = 0) := decN_head _ _ (Nat.le_refl _)
theorem dec_zero : decN 0 = [48] := decN_small (by decide)
/-- Is that a number as it is written? -/
def canon (l : List UInt8) : Bool := !(l == []) && (!(l.head? == some 48) || l == [48])
theorem dec_canon (n : Int) : canon (dec n) = true := by
  obtain ⟨c, t, h1, h2⟩ := dec_head n
  by_cases hc : c = 48
  · have : dec n = [48] := by unfold dec; rw [h2 hc]; exact dec_zero
    rw [this]; decide
  · unfold canon
    rw [h1]
    have : ((c :: t).head? == some 48) = false := by simpa using hc
    rw [this]; rfl
theorem dec_stop (n : Int) {r : List UInt8} (hr : r.takeWhile dg = []) : (dec n ++ r).takeWhile dg = dec n ∧ (dec n ++ r).dropWhile dg = r := by
  have h := dec_dg n
  generalize dec n = l at h
  induction l with
  | nil =>
    refine ⟨hr, ?_⟩
    have := List.takeWhile_append_dropWhile (p := dg) (l := r)
    rw [hr] at this
    exact this
  | cons c t ih =>
    rw [List.all_cons, Bool.and_eq_true] at h
    obtain ⟨i1, i2⟩ := ih h.2
    rw [List.cons_append, List.takeWhile_cons, List.dropWhile_cons, h.1]
    exact ⟨congrArg (c :: ·) i1, i2⟩
/-! ### The program's -/
theorem divI_big {R : Type} {n : Nat} (h : n ≤ 9223372036854775807) (K : Int → Option R) : divI .i64 (n : Int) 10 K = K ((n / 10 : Nat) : Int) := by
  unfold divI
  rw [if_neg (by decide)]
  have : (n : Int).tdiv 10 = ((n / 10 : Nat) : Int) := rfl
  rw [this, wr (by omega)]
theorem number_loop (s : List UInt8) (hs : s.length ≤ 100000) : ∀ (l : List UInt8) (i n : Nat), s.drop i = l → l.all dg = true → n ≤ 4611686018427387903 →
    ∃ w, codec_number_l3 10 (n : Int) (s.map byte) ((s.map byte).length : Int) (i : Int) = some w ∧ (val n l ≤ 999999999 → w = Sum.inl (val n l : Int))
  | [], i, n, h, hd, hn => by
    refine ⟨Sum.inl (n : Int), codec_number_l3_of ?_, fun _ => rfl⟩
    unfold codec_number_l3_E
    rw [List.length_map, out_dec h]; rfl
  | c :: t, i, n, h, hd, hn => by
    obtain ⟨h1, h2, h3, h4⟩ := drop_cons h
    rw [List.all_cons, Bool.and_eq_true] at hd
    obtain ⟨d, d1, d2⟩ := dg_val hd.1
    have hm : (s.map byte).drop i = byte c :: t.map byte := by rw [← List.map_drop, h]; rfl
    have w1 : IntKind.wrap .u8 ((c.toNat : Int) - 48) = (d : Int) := by
      rw [d2]
      have e : ∀ k : Fin 10, IntKind.wrap .u8 (((48 + k.val : Nat) : Int) - 48) = ((k.val : Nat) : Int) := by decide
      exact e ⟨d, d1⟩
    have w0 : IntKind.wrap .i64 (d : Int) = (d : Int) := wr (by omega)
    have w2 : IntKind.wrap .i64 (4611686018427387903 - (d : Int)) = ((4611686018427387903 - d : Nat) : Int) := by rw [wr (by omega)]; omega
    by_cases hq : (4611686018427387903 - d) / 10 < n
    · refine ⟨Sum.inr (0, false), codec_number_l3_of ?_, fun hv => ?_⟩
      · unfold codec_number_l3_E
        rw [List.length_map, in_dec h, getL_of hm]
        simp only [byte, dInt, cond_true, if_true, w1, w0]
        rw [w2, divI_big (by omega), decide_eq_true (by omega)]; rfl
      · have := val_ge t (n * 10 + (c.toNat - 48))
        rw [val_cons] at hv
        omega
    · obtain ⟨w, g1, g2⟩ := number_loop s hs t (i + 1) (n * 10 + d) h3 hd.2 (by omega)
      refine ⟨w, codec_number_l3_of ?_, fun hv => ?_⟩
      · unfold codec_number_l3_E
        rw [List.length_map, in_dec h, getL_of hm]
        simp only [byte, dInt, cond_true, if_true, w1, w0]
        rw [w2, divI_big (by omega), decide_eq_false (by omega), cond_false]
        have e : IntKind.wrap .i64 (IntKind.wrap .i64 ((n : Int) * 10) + (d : Int)) = ((n * 10 + d : Nat) : Int) := by
          rw [wr (x := (n : Int) * 10) (by omega), wr (by omega)]; omega
        rw [e, wr_succ (by omega), ← g1, List.length_map]
      · have e : val n (c :: t) = val (n * 10 + d) t := by rw [val_cons, d2]; congr 2; omega
        rw [e] at hv ⊢
        exact g2 hv
theorem number_is (s : List UInt8) (hs : s.length ≤ 100000) (hd : s.all dg = true) : ∃ n ok, codec_number s 10 = some (n, ok) ∧ (val 0 s ≤ 999999999 → n = (val 0 s : Int) ∧ ok = true) := by
  obtain ⟨w, g1, g2⟩ := number_loop s hs s 0 0 rfl hd (by omega)
  have g1' : codec_number_l3 10 0 (s.map byte) ((s.map byte).length : Int) 0 = some w := g1
  rcases w with m | ⟨m, b⟩
  · refine ⟨m, true, codec_number_of ?_, fun hv => ⟨Sum.inl.inj (g2 hv), rfl⟩⟩
    unfold codec_number_E
    rw [if_pos (by omega), g1']; rfl
  · refine ⟨m, b, codec_number_of ?_, fun hv => nomatch (g2 hv)⟩
    unfold codec_number_E
    rw [if_pos (by omega), g1']; rfl
theorem dg_dec (c : UInt8) : (decide ((UInt8.toNat c : Int) < 48) || decide ((57 : Int) < (UInt8.toNat c : Int))) = !(dg c) := by
  unfold dg dig
  by_cases h : (UInt8.toNat c : Int) < 48
  · rw [decide_eq_true h, decide_eq_false (by omega : ¬ (48 : Int) ≤ (UInt8.toNat c : Int))]; rfl
  · rw [decide_eq_false h, decide_eq_true (by omega : (48 : Int) ≤ (UInt8.toNat c : Int))]
    by_cases h2 : (57 : Int) < (UInt8.toNat c : Int)
    · rw [decide_eq_true h2, decide_eq_false (by omega : ¬ (UInt8.toNat c : Int) ≤ 57)]; rfl
    · rw [decide_eq_false h2, decide_eq_true (by omega : (UInt8.toNat c : Int) ≤ 57)]; rfl
theorem undec_loop (s : List UInt8) (hs : s.length ≤ 100000) : ∀ (l : List UInt8) (i : Nat), s.drop i = l → codec_Undec_l2 s (i : Int) = some (if l.all dg then Sum.inl s else Sum.inr (0, 3))
  | [], i, h => by
    apply codec_Undec_l2_of
    unfold codec_Undec_l2_E
    rw [out_dec h]; rfl
  | c :: t, i, h => by
    obtain ⟨h1, h2, h3, h4⟩ := drop_cons h
    apply codec_Undec_l2_of
    unfold codec_Undec_l2_E
    rw [in_dec h, idxS_of h, idxS_of h, wr_succ (by omega), undec_loop s hs t (i + 1) h3]
    simp only [cond_true, cond_some, cond_or, Option.bind_some, dg_dec, List.all_cons]
    rcases Bool.eq_false_or_eq_true (dg c) with e | e <;> simp [e]
theorem undec_is (s : List UInt8) (hs : s.length ≤ 100000) : ∃ n e, codec_Undec s = some (n, e) ∧ (s.all dg = true → canon s = true → val 0 s ≤ 999999999 → n = (val 0 s : Int) ∧ e = 0) := by
  have hl := undec_loop s hs s 0 rfl
  have hl' : codec_Undec_l2 s 0 = _ := hl
  by_cases hd : s.all dg = true
  · rw [hd, if_pos rfl] at hl'
    obtain ⟨n, ok, g1, g2⟩ := number_is s hs hd
    cases s with
    | nil =>
      refine ⟨0, 3, codec_Undec_of ?_, fun _ h => by cases h⟩
      unfold codec_Undec_E
      rw [hl']; rfl
    | cons c t =>
      have hb : ((c :: t) == ([] : List UInt8)) = false := rfl
      have h48 : ((UInt8.toNat c : Int) == 48) = (c == 48) := byte_eq c 48 (by decide)
      by_cases hc : c = 48 ∧ t ≠ []
      · obtain ⟨rfl, ht⟩ := hc
        have ht' : (((48 : UInt8) :: t) == [48]) = false := by simpa using ht
        refine ⟨0, 3, codec_Undec_of ?_, fun _ h => ?_⟩
        · unfold codec_Undec_E
          rw [hl']
          simp only [Option.bind_some, Sum.elim_inl, hb, cond_false, idxS_zero, h48, ht']
          rfl
        · unfold canon at h
          rw [ht'] at h
          simp at h
      · have hz : cond (c == 48) (!((c :: t) == [48])) false = false := by
          by_cases h1 : c = 48
          · have h2 : t = [] := Classical.byContradiction fun e => hc ⟨h1, e⟩
            rw [h1, h2]; rfl
          · have : (c == 48) = false := by simpa using h1
            rw [this]; rfl
        refine ⟨if ok then n else 0, if ok then 0 else 4, codec_Undec_of ?_, fun _ _ hv => ?_⟩
        · unfold codec_Undec_E
          rw [hl']
          simp only [Option.bind_some, Sum.elim_inl, hb, cond_false, idxS_zero, h48, cond_some, hz, g1]
          cases ok <;> rfl
        · obtain ⟨e1, e2⟩ := g2 hv
          rw [e2]; exact ⟨e1, rfl⟩
  · have hd' : s.all dg = false := by simpa using hd
    rw [hd'] at hl'
    refine ⟨0, 3, codec_Undec_of ?_, fun h => absurd h hd⟩
    unfold codec_Undec_E
    rw [hl']; rfl
theorem take_sub {s : List UInt8} (hs : s.length ≤ 100000) : IntKind.wrap .i64 ((s.length : Int) - ((s.dropWhile dg).length : Int)) = ((s.takeWhile dg).length : Int) := by
  have := congrArg List.length (List.takeWhile_append_dropWhile (p := dg) (l := s))
  rw [List.length_append] at this
  rw [wr (by omega)]; omega
theorem take_step (s : List UInt8) (hs : s.length ≤ 100000) {n e : Int} (hu : codec_Undec (s.takeWhile dg) = some (n, e)) : vmap_take s = some (cond ((e != 0) || decide ((999999999 : Int) < n)) (-1, s) (n, s.dropWhile dg)) := by
  apply vmap_take_of
  unfold vmap_take_E
  rw [if_pos (by decide), trim_digits, take_sub hs, cutS_to (takeWhile_le _ _), take_takeWhile, hu]
  simp only [Option.bind_some, cond_some, cond_or]
theorem dropWhile_len (p : UInt8 → Bool) (l : List UInt8) : (l.dropWhile p).length ≤ l.length := by
  have := congrArg List.length (List.takeWhile_append_dropWhile (p := p) (l := l))
  rw [List.length_append] at this
  omega
theorem take_tot (s : List UInt8) (hs : s.length ≤ 100000) : ∃ n r, vmap_take s = some (n, r) ∧ r.length ≤ s.length := by
  obtain ⟨n, e, h1, h2⟩ := undec_is (s.takeWhile dg) (Nat.le_trans (takeWhile_le _ _) hs)
  rw [take_step s hs h1]
  cases (e != 0) || decide ((999999999 : Int) < n)
  · exact ⟨_, _, rfl, dropWhile_len _ _⟩
  · exact ⟨_, _, rfl, Nat.le_refl _⟩
theorem take_dec {n : Int} (hn : within n = true) {r : List UInt8} (hr : r.takeWhile dg = []) (hl : r.length ≤ 90000) : vmap_take (dec n ++ r) = some (n, r) := by
  have hd := dec_len hn
  obtain ⟨s1, s2⟩ := dec_stop n hr
  obtain ⟨m, e, h1, h2⟩ := undec_is (dec n) (by omega)
  have hv := dec_val n hn
  obtain ⟨k, hk, hk2⟩ := within_nat hn
  obtain ⟨e1, e2⟩ := h2 (dec_dg n) (dec_canon n) (by omega)
  rw [hv] at e1
  subst e1; subst e2
  have hs : (dec m ++ r).length ≤ 100000 := by rw [List.length_append]; omega
  rw [take_step (dec m ++ r) hs (by rw [s1]; exact h1), s2, decide_eq_false (by omega)]
  rfl
/-! ### The reference's -/
theorem rdigit_is (a : Int) : drayageref12_digit a = some (dig a) := by
  apply drayageref12_digit_of
  unfold drayageref12_digit_E
  simp only [cond_some, cond_and, Option.bind_some]
  rfl
theorem rdigits_loop (s : List UInt8) (hs : s.length ≤ 100000) : ∀ (l : List UInt8) (i : Nat), s.drop i = l → drayageref12_Digits_l2 s (i : Int) = some ((i + (l.takeWhile dg).length : Nat) : Int)
  | [], i, h => by
    apply drayageref12_Digits_l2_of
    unfold drayageref12_Digits_l2_E
    rw [out_dec h]; rfl
  | c :: t, i, h => by
    obtain ⟨h1, h2, h3, h4⟩ := drop_cons h
    apply drayageref12_Digits_l2_of
    unfold drayageref12_Digits_l2_E
    rw [in_dec h, idxS_of h, rdigit_is, wr_succ (by omega), rdigits_loop s hs t (i + 1) h3, List.takeWhile_cons]
    have e1 : dig (UInt8.toNat c : Int) = dg c := rfl
    simp only [cond_true, Option.bind_some, e1]
    cases dg c
    · rfl
    · simp only [cond_true, if_true, List.length_cons]
      congr 2; omega
theorem rdigits_is (s : List UInt8) (hs : s.length ≤ 100000) : drayageref12_Digits s = some ((s.takeWhile dg).length : Int) := by
  apply drayageref12_Digits_of
  unfold drayageref12_Digits_E
  have h := rdigits_loop s hs s 0 rfl
  have h' : drayageref12_Digits_l2 s 0 = _ := h
  rw [h']
  simp
theorem divI_most {R : Type} (K : Int → Option R) : divI .i64 4611686018427387903 10 K = K 461168601842738790 := by
  unfold divI
  rw [if_neg (by decide)]
  have : (4611686018427387903 : Int).tdiv 10 = 461168601842738790 := by decide
  rw [this, wr (by omega)]
theorem rnumber_loop (s : List UInt8) (hs : s.length ≤ 100000) : ∀ (l : List UInt8) (i n : Nat), s.drop i = l → l.all dg = true → n ≤ 4611686018427387903 →
    ∃ w, drayageref01_number_l3 s 10 (n : Int) (i : Int) [] 0 0 = some w ∧ (val n l ≤ 999999999 → w = Sum.inl ((val n l : Int), [], 0, 0))
  | [], i, n, h, hd, hn => by
    refine ⟨Sum.inl ((n : Int), [], 0, 0), drayageref01_number_l3_of ?_, fun _ => rfl⟩
    unfold drayageref01_number_l3_E
    rw [out_dec h]; rfl
  | c :: t, i, n, h, hd, hn => by
    obtain ⟨h1, h2, h3, h4⟩ := drop_cons h
    rw [List.all_cons, Bool.and_eq_true] at hd
    obtain ⟨d, d1, d2⟩ := dg_val hd.1
    have w1 : IntKind.wrap .i64 (IntKind.wrap .i64 (c.toNat : Int) - 48) = (d : Int) := by
      rw [wr (x := (c.toNat : Int)) (by omega), wr (by omega)]; omega
    by_cases hq : 461168601842738790 < n
    · refine ⟨Sum.inr ([], 0, 4), drayageref01_number_l3_of ?_, fun hv => ?_⟩
      · unfold drayageref01_number_l3_E
        rw [in_dec h, idxS_of h]
        rw [divI_most, decide_eq_true (by omega)]; rfl
      · have := val_ge t (n * 10 + (c.toNat - 48))
        rw [val_cons] at hv
        omega
    · have w2 : IntKind.wrap .i64 ((n : Int) * 10) = (n : Int) * 10 := wr (by omega)
      have w3 : IntKind.wrap .i64 (4611686018427387903 - (d : Int)) = 4611686018427387903 - (d : Int) := wr (by omega)
      by_cases hq2 : 4611686018427387903 - (d : Int) < (n : Int) * 10
      · refine ⟨Sum.inr ([], 0, 4), drayageref01_number_l3_of ?_, fun hv => ?_⟩
        · unfold drayageref01_number_l3_E
          rw [in_dec h, idxS_of h, divI_most, decide_eq_false (by omega), w1, w2, w3, decide_eq_true hq2]; rfl
        · have := val_ge t (n * 10 + (c.toNat - 48))
          rw [val_cons] at hv
          omega
      · obtain ⟨w, g1, g2⟩ := rnumber_loop s hs t (i + 1) (n * 10 + d) h3 hd.2 (by omega)
        refine ⟨w, drayageref01_number_l3_of ?_, fun hv => ?_⟩
        · unfold drayageref01_number_l3_E
          rw [in_dec h, idxS_of h, divI_most, decide_eq_false (by omega), w1, w2, w3, decide_eq_false hq2]
          have e : IntKind.wrap .i64 ((n : Int) * 10 + (d : Int)) = ((n * 10 + d : Nat) : Int) := by
            rw [wr (by omega)]; omega
          simp only [cond_false, Option.bind_some, cond_true]
          rw [e, wr_succ (by omega), ← g1]
        · have e : val n (c :: t) = val (n * 10 + d) t := by rw [val_cons, d2]; congr 2; omega
          rw [e] at hv ⊢
          exact g2 hv
theorem r01number_is (s : List UInt8) (hs : s.length ≤ 100000) (hd : s.all dg = true) : ∃ b n e, drayageref01_number s 10 = some (b, n, e) ∧ (val 0 s ≤ 999999999 → n = (val 0 s : Int) ∧ e = 0) := by
  obtain ⟨w, g1, g2⟩ := rnumber_loop s hs s 0 0 rfl hd (by omega)
  have g1' : drayageref01_number_l3 s 10 0 0 [] 0 0 = some w := g1
  rcases w with ⟨m, q⟩ | ⟨b, m, e⟩
  · refine ⟨[], m, 0, drayageref01_number_of ?_, fun hv => ⟨congrArg (fun x => x.1) (Sum.inl.inj (g2 hv)), rfl⟩⟩
    unfold drayageref01_number_E
    rw [g1']; rfl
  · refine ⟨b, m, e, drayageref01_number_of ?_, fun hv => nomatch (g2 hv)⟩
    unfold drayageref01_number_E
    rw [g1']; rfl
theorem rundec_loop (s : List UInt8) (hs : s.length ≤ 100000) : ∀ (l : List UInt8) (i : Nat), s.drop i = l → drayageref01_Undec_l4 s (i : Int) [] 0 0 = some (if l.all dg then Sum.inl (s, [], 0, 0) else Sum.inr ([], 0, 3))
  | [], i, h => by
    apply drayageref01_Undec_l4_of
    unfold drayageref01_Undec_l4_E
    rw [out_dec h]; rfl
  | c :: t, i, h => by
    obtain ⟨h1, h2, h3, h4⟩ := drop_cons h
    apply drayageref01_Undec_l4_of
    unfold drayageref01_Undec_l4_E
    rw [in_dec h, idxS_of h, idxS_of h, wr_succ (by omega), rundec_loop s hs t (i + 1) h3]
    simp only [cond_true, cond_some, cond_or, Option.bind_some, dg_dec, List.all_cons]
    rcases Bool.eq_false_or_eq_true (dg c) with e | e <;> simp [e]
theorem rundec_is (s : List UInt8) (hs : s.length ≤ 100000) : ∃ b n e, drayageref01_Undec s = some (b, n, e) ∧ (s.all dg = true → canon s = true → val 0 s ≤ 999999999 → n = (val 0 s : Int) ∧ e = 0) := by
  have hl' : drayageref01_Undec_l4 s 0 [] 0 0 = _ := rundec_loop s hs s 0 rfl
  cases s with
  | nil =>
    refine ⟨[], 0, 3, drayageref01_Undec_of rfl, fun _ h => by cases h⟩
  | cons c t =>
    have hb : ((c :: t) == ([] : List UInt8)) = false := rfl
    have h48 : ((UInt8.toNat c : Int) == 48) = (c == 48) := byte_eq c 48 (by decide)
    by_cases hc : c = 48 ∧ t ≠ []
    · obtain ⟨rfl, ht⟩ := hc
      have ht' : (((48 : UInt8) :: t) == [48]) = false := by simpa using ht
      have h1 : decide ((1 : Int) < (((48 : UInt8) :: t).length : Int)) = true := by
        rw [decide_eq_true_iff, List.length_cons]
        have := List.length_pos_iff.2 ht
        omega
      refine ⟨[], 0, 3, drayageref01_Undec_of ?_, fun _ h => ?_⟩
      · unfold drayageref01_Undec_E
        simp only [hb, h1, cond_false, cond_true, idxS_zero, h48]
        rfl
      · unfold canon at h
        rw [ht'] at h
        simp at h
    · have hz : cond (decide ((1 : Int) < ((c :: t).length : Int))) (c == 48) false = false := by
        by_cases h1 : c = 48
        · have h2 : t = [] := Classical.byContradiction fun e => hc ⟨h1, e⟩
          rw [h1, h2]; rfl
        · have : (c == 48) = false := by simpa using h1
          rw [this, Bool.cond_self]
      by_cases hd : (c :: t).all dg = true
      · rw [hd, if_pos rfl] at hl'
        obtain ⟨b, n, e, g1, g2⟩ := r01number_is (c :: t) hs hd
        refine ⟨b, n, e, drayageref01_Undec_of ?_, fun _ _ hv => g2 hv⟩
        unfold drayageref01_Undec_E
        simp only [hb, cond_false, idxS_zero, h48, cond_some, hz, Option.bind_some, hl', Sum.elim_inl, g1]
      · have hd' : (c :: t).all dg = false := by simpa using hd
        rw [hd'] at hl'
        refine ⟨[], 0, 3, drayageref01_Undec_of ?_, fun h => absurd h hd⟩
        unfold drayageref01_Undec_E
        simp only [hb, cond_false, idxS_zero, h48, cond_some, hz, Option.bind_some, hl']
        rfl
theorem rtake_step (s : List UInt8) (hs : s.length ≤ 100000) {b : List AV} {n e : Int} (hu : drayageref01_Undec (s.takeWhile dg) = some (b, n, e)) : drayageref13_take s = some (cond ((e != 0) || !(within n)) (0, [], false) (n, s.dropWhile dg, true)) := by
  apply drayageref13_take_of
  unfold drayageref13_take_E
  rw [rdigits_is s hs]
  simp only [Option.bind_some]
  rw [cutS_to (takeWhile_le _ _), take_takeWhile, hu]
  simp only [Option.bind_some, rnumber_is, cond_some, cond_or]
  rw [cutS_from (takeWhile_le _ _), drop_takeWhile]
  cases (e != 0) || !(within n) <;> rfl
theorem rtake_tot (s : List UInt8) (hs : s.length ≤ 100000) : ∃ n r ok, drayageref13_take s = some (n, r, ok) ∧ r.length ≤ s.length := by
  obtain ⟨b, n, e, h1, h2⟩ := rundec_is (s.takeWhile dg) (Nat.le_trans (takeWhile_le _ _) hs)
  rw [rtake_step s hs h1]
  cases (e != 0) || !(within n)
  · exact ⟨_, _, _, rfl, dropWhile_len _ _⟩
  · exact ⟨_, _, _, rfl, Nat.zero_le _⟩
theorem rtake_dec {n : Int} (hn : within n = true) {r : List UInt8} (hr : r.takeWhile dg = []) (hl : r.length ≤ 90000) : drayageref13_take (dec n ++ r) = some (n, r, true) := by
  have hd := dec_len hn
  obtain ⟨s1, s2⟩ := dec_stop n hr
  obtain ⟨b, m, e, h1, h2⟩ := rundec_is (dec n) (by omega)
  have hv := dec_val n hn
  obtain ⟨k, hk, hk2⟩ := within_nat hn
  obtain ⟨e1, e2⟩ := h2 (dec_dg n) (dec_canon n) (by omega)
  rw [hv] at e1
  subst e1; subst e2
  have hs : (dec m ++ r).length ≤ 100000 := by rw [List.length_append]; omega
  rw [rtake_step (dec m ++ r) hs (by rw [s1]; exact h1), s2, hn]
  rfl
end Go.Proofs.YtlgpcmklpknmcaaDoor
 end
