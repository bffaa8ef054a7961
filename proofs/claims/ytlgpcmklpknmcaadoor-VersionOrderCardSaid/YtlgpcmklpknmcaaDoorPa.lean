/- Small laws of the plain texts: places in lists, numbers that fit.
   What the small functions tell: digits, letters, names.
   What a version of Rpm's is: both answers are one. -/
import Derived.Test.YtlgpcmklpknmcaaDoorEk
import Derived.IntWalk
import Derived.Lib.IndexLaws
import Derived.Test.YtlgpcmklpknmcaaDoorYc
 section
set_option linter.unusedVariables false
namespace Go.Eng
open Go
variable {R : Type}

theorem cond_some {α : Type} (b : Bool) (x y : α) : (cond b (some x) (some y)) = some (cond b x y) := by cases b <;> rfl
theorem cond_and (b c : Bool) : cond b c false = (b && c) := by cases b <;> rfl
theorem cond_or (b c : Bool) : cond b true c = (b || c) := by cases b <;> rfl
theorem cond_nand (b c : Bool) : cond b false c = (!b && c) := by cases b <;> rfl
theorem cond_nor (b c : Bool) : cond b c true = (!b || c) := by cases b <;> rfl

theorem drop_cons {α : Type} {s : List α} {i : Nat} {c : α} {t : List α} (h : s.drop i = c :: t) : i < s.length ∧ s[i]? = some c ∧ s.drop (i + 1) = t ∧ s.length = i + 1 + t.length := by
  have h1 : i < s.length := by
    have := congrArg List.length h
    rw [List.length_drop, List.length_cons] at this
    omega
  have h2 : s.length = i + 1 + t.length := by
    have := congrArg List.length h
    rw [List.length_drop, List.length_cons] at this
    omega
  refine ⟨h1, ?_, ?_, h2⟩
  · have := congrArg List.head? h
    rw [List.head?_drop] at this
    exact this
  · have := congrArg List.tail h
    rw [List.tail_drop] at this
    exact this
theorem drop_nil {α : Type} {s : List α} {i : Nat} (h : s.drop i = []) : s.length ≤ i := List.drop_eq_nil_iff.1 h

theorem idxS_of {s : List UInt8} {i : Nat} {c : UInt8} {t} (h : s.drop i = c :: t) (K : UInt8 → Option R) : idxS s (i : Int) K = K c := by
  obtain ⟨h1, h2, _, _⟩ := drop_cons h
  unfold idxS
  rw [if_pos ⟨by omega, by omega⟩]
  rw [Int.toNat_natCast, h2]
theorem idxS_get {s : List UInt8} {i : Nat} {c : UInt8} (h : s[i]? = some c) (K : UInt8 → Option R) : idxS s (i : Int) K = K c := by
  have h1 : i < s.length := (List.getElem?_eq_some_iff.1 h).1
  unfold idxS
  rw [if_pos ⟨by omega, by omega⟩]
  rw [Int.toNat_natCast, h]
theorem idxS_zero {c : UInt8} {t} (K : UInt8 → Option R) : idxS (c :: t) 0 K = K c := idxS_of (i := 0) (s := c :: t) rfl K
theorem getL_of {s : List AV} {i : Nat} {c : AV} {t} (h : s.drop i = c :: t) (K : AV → Option R) : getL s (i : Int) K = K c := by
  obtain ⟨h1, h2, _, _⟩ := drop_cons h
  unfold getL
  rw [if_pos ⟨by omega, by omega⟩]
  rw [Int.toNat_natCast, h2]
theorem getL_get {s : List AV} {i : Nat} {c : AV} (h : s[i]? = some c) (K : AV → Option R) : getL s (i : Int) K = K c := by
  have h1 : i < s.length := (List.getElem?_eq_some_iff.1 h).1
  unfold getL
  rw [if_pos ⟨by omega, by omega⟩]
  rw [Int.toNat_natCast, h]
theorem cutS_of {s : List UInt8} {a b : Nat} (h : a ≤ b) (hb : b ≤ s.length) (K : List UInt8 → Option R) : cutS s (a : Int) (b : Int) K = K ((s.take b).drop a) := by
  unfold cutS
  rw [if_pos ⟨by omega, by omega, by omega⟩, Int.toNat_natCast, Int.toNat_natCast]
theorem cutS_from {s : List UInt8} {a : Nat} (h : a ≤ s.length) (K : List UInt8 → Option R) : cutS s (a : Int) (s.length : Int) K = K (s.drop a) := by
  rw [cutS_of h (Nat.le_refl _), List.take_length]
theorem cutS_to {s : List UInt8} {b : Nat} (hb : b ≤ s.length) (K : List UInt8 → Option R) : cutS s 0 (b : Int) K = K (s.take b) := by
  have := cutS_of (s := s) (a := 0) (b := b) (by omega) hb K
  rw [List.drop_zero] at this
  exact this
theorem cutL_of {s : List AV} {a b : Nat} (h : a ≤ b) (hb : b ≤ s.length) (K : List AV → Option R) : cutL s (a : Int) (b : Int) K = K ((s.take b).drop a) := by
  unfold cutL
  rw [if_pos ⟨by omega, by omega, by omega⟩, Int.toNat_natCast, Int.toNat_natCast]
theorem in_dec {α : Type} {s : List α} {i : Nat} {c : α} {t} (h : s.drop i = c :: t) : decide ((i : Int) < (s.length : Int)) = true := by
  have := (drop_cons h).1
  exact decide_eq_true (by omega)
theorem out_dec {α : Type} {s : List α} {i : Nat} (h : s.drop i = []) : decide ((i : Int) < (s.length : Int)) = false := by
  have := drop_nil h
  exact decide_eq_false (by omega)
theorem wr {x : Int} (h : -9223372036854775808 ≤ x ∧ x ≤ 9223372036854775807) : IntKind.wrap .i64 x = x := IntWalk.i64_in x h
theorem wr_succ {i : Nat} (h : i ≤ 4611686018427387904) : IntKind.wrap .i64 ((i : Int) + 1) = ((i + 1 : Nat) : Int) := by
  rw [wr (by omega)]; omega
theorem wr_pred {i : Nat} (h : i ≤ 4611686018427387904) : IntKind.wrap .i64 (((i + 1 : Nat) : Int) - 1) = (i : Int) := by
  rw [wr (by omega)]; omega
theorem wr_add {i j : Nat} (h : i ≤ 4611686018427387904) (h2 : j ≤ 2305843009213693952) : IntKind.wrap .i64 ((i : Int) + (j : Int)) = ((i + j : Nat) : Int) := by
  rw [wr (by omega)]; omega
theorem room_of {n bytes : Nat} (h : n ≤ 100000) (hb : bytes ≤ 1024) (K : Option R) : roomL n bytes K = K := by
  unfold roomL
  rw [if_pos]
  refine ⟨?_, by omega⟩
  calc (2 * n + 1024) * bytes ≤ (2 * 100000 + 1024) * 1024 := Nat.mul_le_mul (by omega) hb
    _ ≤ _ := by decide
theorem byte_back (c : UInt8) : UInt8.ofNat (Int.toNat (UInt8.toNat c : Int)) = c := by simp
theorem byte_eq (c : UInt8) (n : Nat) (h : n < 256) : ((UInt8.toNat c : Int) == (n : Int)) = (c == UInt8.ofNat n) := by
  rw [Bool.eq_iff_iff, beq_iff_eq, beq_iff_eq]
  constructor
  · intro e
    apply UInt8.toNat_inj.1
    simp only [UInt8.toNat_ofNat']
    omega
  · intro e
    subst e
    simp only [UInt8.toNat_ofNat']
    omega
theorem byte_beq (c d : UInt8) : ((UInt8.toNat c : Int) == (UInt8.toNat d : Int)) = (c == d) := by
  rw [Bool.eq_iff_iff, beq_iff_eq, beq_iff_eq]
  constructor
  · intro e
    apply UInt8.toNat_inj.1
    omega
  · intro e
    rw [e]
/-- The last place of a byte among the first so many. -/
def lastAt (s : List UInt8) (b : UInt8) : Nat → Int
  | 0 => -1
  | k + 1 => if s[k]? = some b then k else lastAt s b k
theorem lastAt_succ (s : List UInt8) (b : UInt8) (k : Nat) : lastAt s b (k + 1) = if s[k]? = some b then (k : Int) else lastAt s b k := rfl
theorem lastAt_le (s : List UInt8) (b : UInt8) : ∀ k, lastAt s b k < k
  | 0 => by unfold lastAt; omega
  | k + 1 => by
    unfold lastAt
    have := lastAt_le s b k
    split <;> omega
theorem lastAt_ge (s : List UInt8) (b : UInt8) : ∀ k, -1 ≤ lastAt s b k
  | 0 => by unfold lastAt; omega
  | k + 1 => by
    unfold lastAt
    have := lastAt_ge s b k
    split <;> omega
theorem indexByte_has (l : List UInt8) (c : UInt8) : decide (Lib.indexByte l c < 0) = !(l.contains c) := by
  induction l with
  | nil => rfl
  | cons b l ih =>
    have g := Lib.indexByte_ge l c
    unfold Lib.indexByte
    rw [List.contains_cons]
    by_cases h : (b == c) = true
    · have h2 : (c == b) = true := by rw [beq_iff_eq] at h ⊢; exact h.symm
      rw [if_pos h, h2]
      rfl
    · have h2 : (c == b) = false := by
        rw [Bool.eq_false_iff]; intro e; apply h; rw [beq_iff_eq] at e ⊢; exact e.symm
      rw [if_neg h, h2, Bool.false_or, ← ih]
      by_cases h3 : (Lib.indexByte l c == -1) = true
      · rw [if_pos h3]
        rw [beq_iff_eq] at h3
        rw [h3]
      · rw [if_neg h3]
        have h4 : Lib.indexByte l c ≠ -1 := by simpa using h3
        rw [decide_eq_false (by omega), decide_eq_false (by omega)]
/-- Digits and letters. -/
def dig (a : Int) : Bool := decide ((48 : Int) ≤ a) && decide (a ≤ 57)
def lit (a : Int) : Bool := (decide ((97 : Int) ≤ a) && decide (a ≤ 122)) || (decide ((65 : Int) ≤ a) && decide (a ≤ 90))
def dg (c : UInt8) : Bool := dig (UInt8.toNat c : Int)
def lt (c : UInt8) : Bool := lit (UInt8.toNat c : Int)
end Go.Eng
 end

 section
set_option linter.unusedVariables false
set_option linter.unusedSimpArgs false
namespace Go.Proofs.YtlgpcmklpknmcaaDoor
open Go Go.Eng Go.Proofs

theorem version_digit_is (a : Int) : version_digit a = some (dig a) := by
  apply version_digit_of
  unfold version_digit_E
  simp only [cond_some, Option.bind_some, cond_and]
  rfl
theorem version_letter_is (a : Int) : version_letter a = some (lit a) := by
  apply version_letter_of
  unfold version_letter_E
  simp only [cond_some, Option.bind_some, cond_and, cond_or]
  rfl
theorem strings_IndexByte_is (s : List UInt8) (c : UInt8) : strings_IndexByte s (UInt8.toNat c : Int) = some (Lib.indexByte s c) := by
  apply strings_IndexByte_of
  unfold strings_IndexByte_E
  rw [i_stringslite_IndexByte_of (w := Lib.indexByte s c) (by unfold i_stringslite_IndexByte_E; rw [byte_back])]
  rfl
theorem i_stringslite_IndexByte_is (s : List UInt8) (c : UInt8) : i_stringslite_IndexByte s (UInt8.toNat c : Int) = some (Lib.indexByte s c) :=
  i_stringslite_IndexByte_of (by unfold i_stringslite_IndexByte_E; rw [byte_back])

theorem version_number_loop (s : List UInt8) (hs : s.length ≤ 4611686018427387904) : ∀ (l : List UInt8) (i : Nat), i ≤ s.length → s.drop i = l →
    version_number_l2 s i = some (s, ((i + (l.takeWhile dg).length : Nat) : Int))
  | [], i, hi, h => by
    apply version_number_l2_of
    unfold version_number_l2_E
    rw [out_dec h]
    rfl
  | c :: t, i, hi, h => by
    obtain ⟨h1, h2, h3, h4⟩ := drop_cons h
    apply version_number_l2_of
    unfold version_number_l2_E
    rw [in_dec h, idxS_of h, version_digit_is, wr_succ (by omega), version_number_loop s hs t (i + 1) (by omega) h3]
    rw [List.takeWhile_cons]
    simp only [Option.bind_some, cond_true]
    by_cases hd : dg c = true
    · rw [hd]
      have : dig (UInt8.toNat c : Int) = true := hd
      rw [this]
      simp only [cond_true, if_true, List.length_cons]
      rw [Nat.add_right_comm, Nat.add_assoc]
    · have hd' : dg c = false := by simpa using hd
      have : dig (UInt8.toNat c : Int) = false := hd'
      rw [hd', this]
      rfl
theorem takeWhile_le {α : Type} (p : α → Bool) : ∀ l : List α, (l.takeWhile p).length ≤ l.length
  | [] => Nat.le_refl _
  | a :: l => by
    rw [List.takeWhile_cons]
    have := takeWhile_le p l
    split <;> simp <;> omega
theorem take_takeWhile {α : Type} (p : α → Bool) : ∀ l : List α, l.take (l.takeWhile p).length = l.takeWhile p
  | [] => rfl
  | a :: l => by
    rw [List.takeWhile_cons]
    have := take_takeWhile p l
    split
    · rw [List.length_cons, List.take_succ_cons, this]
    · rfl
theorem drop_takeWhile {α : Type} (p : α → Bool) : ∀ l : List α, l.drop (l.takeWhile p).length = l.dropWhile p
  | [] => rfl
  | a :: l => by
    rw [List.takeWhile_cons, List.dropWhile_cons]
    have := drop_takeWhile p l
    split
    · rw [List.length_cons, List.drop_succ_cons, this]
    · rfl
theorem version_number_is (s : List UInt8) (hs : s.length ≤ 4611686018427387904) : version_number s = some (s.takeWhile dg, s.dropWhile dg) := by
  apply version_number_of
  unfold version_number_E
  have h := version_number_loop s hs s 0 (by omega) rfl
  rw [Nat.zero_add] at h
  have h' : version_number_l2 s 0 = some (s, ((s.takeWhile dg).length : Int)) := h
  rw [h']
  have hl := takeWhile_le dg s
  simp only [Option.bind_some]
  rw [cutS_to hl, cutS_from hl, take_takeWhile, drop_takeWhile]

/-- Of letters, digits and others. -/
def mk (others : List UInt8) (c : UInt8) : Bool := dg c || lt c || others.contains c
theorem vmade_loop (s o : List UInt8) (hs : s.length ≤ 4611686018427387904) : ∀ (l : List UInt8) (i : Nat), i ≤ s.length → s.drop i = l →
    version_made_l2 s o i = some (if l.all (mk o) then Sum.inl s else Sum.inr false)
  | [], i, hi, h => by
    apply version_made_l2_of
    unfold version_made_l2_E
    rw [out_dec h]
    rfl
  | d :: t, i, hi, h => by
    obtain ⟨h1, h2, h3, h4⟩ := drop_cons h
    apply version_made_l2_of
    unfold version_made_l2_E
    rw [in_dec h, idxS_of h]
    simp only [idxS_of h, version_digit_is, version_letter_is, strings_IndexByte_is, Option.bind_some, cond_some, cond_true]
    rw [wr_succ (by omega), vmade_loop s o hs t (i + 1) (by omega) h3, indexByte_has, List.all_cons]
    have e1 : dig (UInt8.toNat d : Int) = dg d := rfl
    have e2 : lit (UInt8.toNat d : Int) = lt d := rfl
    rw [e1, e2]
    unfold mk
    cases dg d <;> cases lt d <;> cases o.contains d <;> simp
theorem vmade_is (s o : List UInt8) (hs : s.length ≤ 4611686018427387904) : version_made s o = some (s.all (mk o) && !(s == [])) := by
  apply version_made_of
  unfold version_made_E
  have h := vmade_loop s o hs s 0 (by omega) rfl
  have h' : version_made_l2 s o 0 = _ := h
  rw [h']
  cases s.all (mk o) <;> rfl
theorem nonempty_is (s : List UInt8) : decide ((0 : Int) < (s.length : Int)) = !(s == []) := by
  cases s with
  | nil => rfl
  | cons a s =>
    rw [decide_eq_true (by rw [List.length_cons]; omega)]
    rfl
/-- The last place of a byte. -/
theorem last_loop (s : List UInt8) (b : UInt8) (hs : s.length ≤ 4611686018427387904) : ∀ k : Nat, k ≤ s.length →
    i_bytealg_LastIndexByteString_l2 s (UInt8.toNat b : Int) ((k : Int) - 1) = some (if lastAt s b k = -1 then Sum.inl () else Sum.inr (lastAt s b k))
  | 0, _ => by
    apply i_bytealg_LastIndexByteString_l2_of
    unfold i_bytealg_LastIndexByteString_l2_E
    rfl
  | k + 1, hk => by
    have e : (((k + 1 : Nat) : Int) - 1) = (k : Int) := by omega
    rw [e]
    apply i_bytealg_LastIndexByteString_l2_of
    unfold i_bytealg_LastIndexByteString_l2_E
    have hg : s[k]? = some (s[k]'(by omega)) := List.getElem?_eq_getElem (by omega)
    rw [decide_eq_true (by omega : (0 : Int) ≤ (k : Int)), idxS_get hg, byte_beq, wr (by omega), last_loop s b hs k (by omega)]
    rw [lastAt_succ, hg]
    by_cases hb : s[k]'(by omega) = b
    · rw [hb]
      simp
    · have : (s[k]'(by omega) == b) = false := by simpa using hb
      rw [this]
      have h2 : ¬ (some (s[k]'(by omega)) = some b) := by simpa using hb
      rw [if_neg h2]
      rfl
theorem last_is (s : List UInt8) (b : UInt8) (hs : s.length ≤ 4611686018427387904) : strings_LastIndexByte s (UInt8.toNat b : Int) = some (lastAt s b s.length) := by
  apply strings_LastIndexByte_of
  unfold strings_LastIndexByte_E
  have : i_bytealg_LastIndexByteString s (UInt8.toNat b : Int) = some (lastAt s b s.length) := by
    apply i_bytealg_LastIndexByteString_of
    unfold i_bytealg_LastIndexByteString_E
    rw [wr (by omega), last_loop s b hs s.length (Nat.le_refl _)]
    by_cases h : lastAt s b s.length = -1
    · rw [if_pos h, h]; rfl
    · rw [if_neg h]; rfl
  rw [this]; rfl
end Go.Proofs.YtlgpcmklpknmcaaDoor
 end

 section
set_option linter.unusedVariables false
set_option linter.unusedSimpArgs false
namespace Go.Proofs.YtlgpcmklpknmcaaDoor
open Go Go.Eng Go.Proofs

theorem indexByte_cases (c : UInt8) : ∀ s : List UInt8, (Lib.indexByte s c = -1 ∧ c ∉ s) ∨ ∃ a b, s = a ++ c :: b ∧ c ∉ a ∧ Lib.indexByte s c = (a.length : Int)
  | [] => .inl ⟨rfl, List.not_mem_nil⟩
  | d :: t => by
    by_cases h : d = c
    · subst h
      right
      refine ⟨[], t, rfl, List.not_mem_nil, ?_⟩
      unfold Lib.indexByte
      simp
    · have hb : (d == c) = false := by simpa using h
      rcases indexByte_cases c t with ⟨h1, h2⟩ | ⟨a, b, h1, h2, h3⟩
      · left
        constructor
        · unfold Lib.indexByte
          rw [hb, h1]
          rfl
        · intro hm
          rcases List.mem_cons.1 hm with e | e
          · exact h e.symm
          · exact h2 e
      · right
        refine ⟨d :: a, b, by rw [h1]; rfl, ?_, ?_⟩
        · intro hm
          rcases List.mem_cons.1 hm with e | e
          · exact h e.symm
          · exact h2 e
        · unfold Lib.indexByte
          rw [hb, h3]
          have : ((a.length : Int) == -1) = false := by
            rw [beq_eq_false_iff_ne]; omega
          rw [this]
          simp
theorem index_colon (s : List UInt8) : i_stringslite_Index s [58] = some (Lib.indexByte s 58) := by
  apply i_stringslite_Index_of
  unfold i_stringslite_Index_E
  have e : i_stringslite_IndexByte s (UInt8.toNat 58 : Int) = some (Lib.indexByte s 58) := i_stringslite_IndexByte_is s 58
  rw [idxS_zero, e]
  by_cases h : s = [58]
  · subst h; rfl
  · have : (([58] : List UInt8) == s) = false := by rw [beq_eq_false_iff_ne]; exact fun e => h e.symm
    rw [this]
    rfl
theorem cut_colon_none {s : List UInt8} (h : Lib.indexByte s 58 = -1) : strings_Cut s [58] = some (s, [], false) := by
  apply strings_Cut_of
  unfold strings_Cut_E
  have : i_stringslite_Cut s [58] = some (s, [], false) := by
    apply i_stringslite_Cut_of
    unfold i_stringslite_Cut_E
    rw [index_colon, h]
    rfl
  rw [this]; rfl
theorem cut_colon {a b : List UInt8} (h : Lib.indexByte (a ++ 58 :: b) 58 = (a.length : Int)) (hs : (a ++ 58 :: b).length ≤ 4611686018427387904) : strings_Cut (a ++ 58 :: b) [58] = some (a, b, true) := by
  apply strings_Cut_of
  unfold strings_Cut_E
  have : i_stringslite_Cut (a ++ 58 :: b) [58] = some (a, b, true) := by
    apply i_stringslite_Cut_of
    unfold i_stringslite_Cut_E
    rw [index_colon, h]
    have hl : (a ++ 58 :: b).length = a.length + 1 + b.length := by simp; omega
    have e1 : ((List.length ([58] : List UInt8) : Nat) : Int) = 1 := rfl
    simp only [Option.bind_some]
    rw [decide_eq_true (by omega : (0 : Int) ≤ (a.length : Int)), e1, wr_succ (by omega), cutS_to (by omega), cutS_from (by omega)]
    simp only [cond_true]
    rw [List.take_left' rfl]
    have : (a ++ 58 :: b).drop (a.length + 1) = b := by
      rw [show a ++ 58 :: b = (a ++ [58]) ++ b by simp]
      exact List.drop_left' (by simp)
    rw [this]
  rw [this]; rfl

/-- Is that an epoch? -/
def okE (a : List UInt8) : Bool := !(a.takeWhile dg == []) && (a.dropWhile dg == []) && decide (((a.takeWhile dg).length : Int) < 10)
theorem epochs_none {s : List UInt8} (h : Lib.indexByte s 58 = -1) : version_epochs s = some ([], s, true) := by
  apply version_epochs_of
  unfold version_epochs_E
  rw [cut_colon_none h]
  rfl
theorem epochs_some {a b : List UInt8} (h : Lib.indexByte (a ++ 58 :: b) 58 = (a.length : Int)) (hs : (a ++ 58 :: b).length ≤ 4611686018427387904) : version_epochs (a ++ 58 :: b) = some (a, b, okE a) := by
  apply version_epochs_of
  unfold version_epochs_E
  rw [cut_colon h hs]
  have hl : (a ++ 58 :: b).length = a.length + 1 + b.length := by simp; omega
  simp only [Option.bind_some, Bool.not_true, cond_false, version_number_is a (by omega), cond_some, cond_and]
  rfl
/-- Has an epoch no nought ahead? -/
def headE (a : List UInt8) : Bool := decide ((a.length : Int) < 2) || (match a with | [] => false | c :: _ => (UInt8.toNat c : Int) != 48)
/-- Is what is behind the epoch a version? -/
def okP (a p : List UInt8) : Bool := headE a && decide (0 ≤ lastAt p 45 p.length) &&
  (((p.take (lastAt p 45 p.length).toNat).all (mk [46, 95, 43, 126, 94]) && !(p.take (lastAt p 45 p.length).toNat == [])) && ((p.drop ((lastAt p 45 p.length).toNat + 1)).all (mk [46, 95, 43, 126, 94]) && !(p.drop ((lastAt p 45 p.length).toNat + 1) == [])))
theorem k11_is (ok : Bool) (a p r : List UInt8) (has : Bool) (hp : p.length ≤ 4611686018427387904) (hr : r.length ≤ 4611686018427387904) : version_part_k11 2 ok a p r has =
    some (ok && headE a && has && (p.all (mk [46, 95, 43, 126, 94]) && !(p == [])) && (r.all (mk [46, 95, 43, 126, 94]) && !(r == [])), (a, p, r, has)) := by
  apply version_part_k11_of
  unfold version_part_k11_E
  simp only [vmade_is _ _ hp, vmade_is _ _ hr, Option.bind_some, cond_some, cond_and]
  cases a with
  | nil =>
    have : decide (((([] : List UInt8).length : Nat) : Int) < 2) = true := rfl
    have hh : headE [] = true := rfl
    rw [this, hh]
    simp only [cond_true, cond_some, cond_and, Option.bind_some, Bool.true_or, Bool.and_true]
    rfl
  | cons c t =>
    simp only [idxS_zero, cond_some, Option.bind_some, cond_and, cond_or]
    rfl
theorem vpart_tail {a p : List UInt8} {ok : Bool} {s : List UInt8} (he : version_epochs s = some (a, p, ok)) (hp : p.length ≤ 4611686018427387904) : ∃ q, version_part 2 s = some (q, ok && okP a p) := by
  have h0 : (((2 : Int)) == 3) = false := rfl
  have hl := lastAt_le p 45 p.length
  have hg := lastAt_ge p 45 p.length
  by_cases hk : 0 ≤ lastAt p 45 p.length
  · obtain ⟨k, hk2⟩ : ∃ k : Nat, lastAt p 45 p.length = (k : Int) := ⟨(lastAt p 45 p.length).toNat, by omega⟩
    refine ⟨(a, p.take k, p.drop (k + 1), true), ?_⟩
    apply version_part_of
    unfold version_part_E
    have e45 : strings_LastIndexByte p 45 = some (lastAt p 45 p.length) := last_is p 45 hp
    rw [h0, he]
    simp only [cond_false, Option.bind_some, e45]
    rw [hk2] at hl
    rw [decide_eq_true hk, hk2, cutS_to (by omega), wr_succ (by omega), cutS_from (by omega), k11_is _ _ _ _ _ (by rw [List.length_take]; omega) (by rw [List.length_drop]; omega)]
    simp only [cond_true, Option.bind_some]
    unfold okP
    rw [hk2, Int.toNat_natCast, decide_eq_true (by omega : (0 : Int) ≤ (k : Int))]
    simp only [Bool.and_true, Bool.and_assoc]
  · refine ⟨(a, p, [], false), ?_⟩
    apply version_part_of
    unfold version_part_E
    have e45 : strings_LastIndexByte p 45 = some (lastAt p 45 p.length) := last_is p 45 hp
    rw [h0, he]
    simp only [cond_false, Option.bind_some, e45]
    rw [decide_eq_false hk, k11_is _ _ _ _ _ hp (by simp)]
    simp only [cond_false, Option.bind_some, Bool.and_false, Bool.false_and]
    unfold okP
    rw [decide_eq_false hk]
    simp only [cond_false, Option.bind_some, Bool.and_false, Bool.false_and]

/-- Is that a version? -/
def okV (s : List UInt8) : Bool := if Lib.indexByte s 58 < 0 then okP [] s else okE (s.take (Lib.indexByte s 58).toNat) && okP (s.take (Lib.indexByte s 58).toNat) (s.drop ((Lib.indexByte s 58).toNat + 1))
def vchk (s : List UInt8) : Int := if (64 : Int) < (s.length : Int) then 4 else if okV s then 0 else 3
theorem split_at (a b : List UInt8) : (a ++ 58 :: b).take a.length = a ∧ (a ++ 58 :: b).drop (a.length + 1) = b := by
  refine ⟨List.take_left' rfl, ?_⟩
  rw [show a ++ 58 :: b = (a ++ [58]) ++ b by simp]
  exact List.drop_left' (by simp)
theorem part_is (s : List UInt8) (hs : s.length ≤ 4611686018427387904) : ∃ q, version_part 2 s = some (q, okV s) := by
  rcases indexByte_cases 58 s with ⟨h1, h2⟩ | ⟨a, b, h1, h2, h3⟩
  · obtain ⟨q, hq⟩ := vpart_tail (epochs_none h1) hs
    refine ⟨q, ?_⟩
    unfold okV
    rw [if_pos (by omega)]
    exact hq
  · have hl : s.length = a.length + 1 + b.length := by rw [h1]; simp; omega
    have he : version_epochs s = some (a, b, okE a) := by rw [h1] at h3 hs ⊢; exact epochs_some h3 hs
    obtain ⟨q, hq⟩ := vpart_tail he (by omega : b.length ≤ _)
    refine ⟨q, ?_⟩
    unfold okV
    rw [if_neg (by omega), h3, Int.toNat_natCast, h1, (split_at a b).1, (split_at a b).2, ← h1]
    exact hq
theorem vchk_is (s : List UInt8) (hs : s.length ≤ 4611686018427387904) : version_Check 2 s = some (vchk s) := by
  obtain ⟨q, h1⟩ := part_is s hs
  unfold vchk
  apply version_Check_of
  unfold version_Check_E
  rw [h1]
  by_cases h : (64 : Int) < (s.length : Int)
  · rw [if_pos h, decide_eq_true h]; rfl
  · rw [if_neg h, decide_eq_false h]
    cases okV s <;> rfl
end Go.Proofs.YtlgpcmklpknmcaaDoor
 end
