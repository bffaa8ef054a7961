/- Small laws of the plain texts: places in lists, numbers that fit.
   What the small functions tell: digits, letters, names.
   Numbers, words, digits: what the versions' translation is made of.
   A core's text by the document; whether a core is right. -/
import Derived.Test.YtlgpcmklpknmcaaDoorEk
import Derived.IntWalk
import Derived.Lib.IndexLaws
import Derived.Test.YtlgpcmklpknmcaaDoorTc
 section
set_option linter.unusedVariables false
namespace Go.Eng
open Go
variable {R : Type}

theorem cond_some {α : Type} (b : Bool) (x y : α) : (cond b (some x) (some y)) = some (cond b x y) := by cases b <;> rfl
theorem cond_and (b c : Bool) : cond b c false = (b && c) := by cases b <;> rfl
theorem cond_or (b c : Bool) : cond b true c = (b || c) := by cases b <;> rfl
theorem cond_nand (b c : Bool) : cond b false c = (!b && c) := by cases b <;> rfl
theorem cond_nor (b c : Bool) : cond b c true = (!b || c) := by cases b <;> rfl

theorem drop_cons {α : Type} {s : List α} {i : Nat} {c : α} {t : List α} (h : s.drop i = c :: t) : i < s.length ∧ s[i]? = some c ∧ s.drop (i + 1) = t ∧ s.length = i + 1 + t.length := by
  have h1 : i < s.length := by
    have := congrArg List.length h
    rw [List.length_drop, List.length_cons] at this
    omega
  have h2 : s.length = i + 1 + t.length := by
    have := congrArg List.length h
    rw [List.length_drop, List.length_cons] at this
    omega
  refine ⟨h1, ?_, ?_, h2⟩
  · have := congrArg List.head? h
    rw [List.head?_drop] at this
    exact this
  · have := congrArg List.tail h
    rw [List.tail_drop] at this
    exact this
theorem drop_nil {α : Type} {s : List α} {i : Nat} (h : s.drop i = []) : s.length ≤ i := List.drop_eq_nil_iff.1 h

theorem idxS_of {s : List UInt8} {i : Nat} {c : UInt8} {t} (h : s.drop i = c :: t) (K : UInt8 → Option R) : idxS s (i : Int) K = K c := by
  obtain ⟨h1, h2, _, _⟩ := drop_cons h
  unfold idxS
  rw [if_pos ⟨by omega, by omega⟩]
  rw [Int.toNat_natCast, h2]
theorem idxS_get {s : List UInt8} {i : Nat} {c : UInt8} (h : s[i]? = some c) (K : UInt8 → Option R) : idxS s (i : Int) K = K c := by
  have h1 : i < s.length := (List.getElem?_eq_some_iff.1 h).1
  unfold idxS
  rw [if_pos ⟨by omega, by omega⟩]
  rw [Int.toNat_natCast, h]
theorem idxS_zero {c : UInt8} {t} (K : UInt8 → Option R) : idxS (c :: t) 0 K = K c := idxS_of (i := 0) (s := c :: t) rfl K
theorem getL_of {s : List AV} {i : Nat} {c : AV} {t} (h : s.drop i = c :: t) (K : AV → Option R) : getL s (i : Int) K = K c := by
  obtain ⟨h1, h2, _, _⟩ := drop_cons h
  unfold getL
  rw [if_pos ⟨by omega, by omega⟩]
  rw [Int.toNat_natCast, h2]
theorem getL_get {s : List AV} {i : Nat} {c : AV} (h : s[i]? = some c) (K : AV → Option R) : getL s (i : Int) K = K c := by
  have h1 : i < s.length := (List.getElem?_eq_some_iff.1 h).1
  unfold getL
  rw [if_pos ⟨by omega, by omega⟩]
  rw [Int.toNat_natCast, h]
theorem cutS_of {s : List UInt8} {a b : Nat} (h : a ≤ b) (hb : b ≤ s.length) (K : List UInt8 → Option R) : cutS s (a : Int) (b : Int) K = K ((s.take b).drop a) := by
  unfold cutS
  rw [if_pos ⟨by omega, by omega, by omega⟩, Int.toNat_natCast, Int.toNat_natCast]
theorem cutS_from {s : List UInt8} {a : Nat} (h : a ≤ s.length) (K : List UInt8 → Option R) : cutS s (a : Int) (s.length : Int) K = K (s.drop a) := by
  rw [cutS_of h (Nat.le_refl _), List.take_length]
theorem cutS_to {s : List UInt8} {b : Nat} (hb : b ≤ s.length) (K : List UInt8 → Option R) : cutS s 0 (b : Int) K = K (s.take b) := by
  have := cutS_of (s := s) (a := 0) (b := b) (by omega) hb K
  rw [List.drop_zero] at this
  exact this
theorem cutL_of {s : List AV} {a b : Nat} (h : a ≤ b) (hb : b ≤ s.length) (K : List AV → Option R) : cutL s (a : Int) (b : Int) K = K ((s.take b).drop a) := by
  unfold cutL
  rw [if_pos ⟨by omega, by omega, by omega⟩, Int.toNat_natCast, Int.toNat_natCast]
theorem in_dec {α : Type} {s : List α} {i : Nat} {c : α} {t} (h : s.drop i = c :: t) : decide ((i : Int) < (s.length : Int)) = true := by
  have := (drop_cons h).1
  exact decide_eq_true (by omega)
theorem out_dec {α : Type} {s : List α} {i : Nat} (h : s.drop i = []) : decide ((i : Int) < (s.length : Int)) = false := by
  have := drop_nil h
  exact decide_eq_false (by omega)
theorem wr {x : Int} (h : -9223372036854775808 ≤ x ∧ x ≤ 9223372036854775807) : IntKind.wrap .i64 x = x := IntWalk.i64_in x h
theorem wr_succ {i : Nat} (h : i ≤ 4611686018427387904) : IntKind.wrap .i64 ((i : Int) + 1) = ((i + 1 : Nat) : Int) := by
  rw [wr (by omega)]; omega
theorem wr_pred {i : Nat} (h : i ≤ 4611686018427387904) : IntKind.wrap .i64 (((i + 1 : Nat) : Int) - 1) = (i : Int) := by
  rw [wr (by omega)]; omega
theorem wr_add {i j : Nat} (h : i ≤ 4611686018427387904) (h2 : j ≤ 2305843009213693952) : IntKind.wrap .i64 ((i : Int) + (j : Int)) = ((i + j : Nat) : Int) := by
  rw [wr (by omega)]; omega
theorem room_of {n bytes : Nat} (h : n ≤ 100000) (hb : bytes ≤ 1024) (K : Option R) : roomL n bytes K = K := by
  unfold roomL
  rw [if_pos]
  refine ⟨?_, by omega⟩
  calc (2 * n + 1024) * bytes ≤ (2 * 100000 + 1024) * 1024 := Nat.mul_le_mul (by omega) hb
    _ ≤ _ := by decide
theorem byte_back (c : UInt8) : UInt8.ofNat (Int.toNat (UInt8.toNat c : Int)) = c := by simp
theorem byte_eq (c : UInt8) (n : Nat) (h : n < 256) : ((UInt8.toNat c : Int) == (n : Int)) = (c == UInt8.ofNat n) := by
  rw [Bool.eq_iff_iff, beq_iff_eq, beq_iff_eq]
  constructor
  · intro e
    apply UInt8.toNat_inj.1
    simp only [UInt8.toNat_ofNat']
    omega
  · intro e
    subst e
    simp only [UInt8.toNat_ofNat']
    omega
theorem byte_beq (c d : UInt8) : ((UInt8.toNat c : Int) == (UInt8.toNat d : Int)) = (c == d) := by
  rw [Bool.eq_iff_iff, beq_iff_eq, beq_iff_eq]
  constructor
  · intro e
    apply UInt8.toNat_inj.1
    omega
  · intro e
    rw [e]
/-- The last place of a byte among the first so many. -/
def lastAt (s : List UInt8) (b : UInt8) : Nat → Int
  | 0 => -1
  | k + 1 => if s[k]? = some b then k else lastAt s b k
theorem lastAt_succ (s : List UInt8) (b : UInt8) (k : Nat) : lastAt s b (k + 1) = if s[k]? = some b then (k : Int) else lastAt s b k := rfl
theorem lastAt_le (s : List UInt8) (b : UInt8) : ∀ k, lastAt s b k < k
  | 0 => by unfold lastAt; omega
  | k + 1 => by
    unfold lastAt
    have := lastAt_le s b k
    split <;> omega
theorem lastAt_ge (s : List UInt8) (b : UInt8) : ∀ k, -1 ≤ lastAt s b k
  | 0 => by unfold lastAt; omega
  | k + 1 => by
    unfold lastAt
    have := lastAt_ge s b k
    split <;> omega
theorem indexByte_has (l : List UInt8) (c : UInt8) : decide (Lib.indexByte l c < 0) = !(l.contains c) := by
  induction l with
  | nil => rfl
  | cons b l ih =>
    have g := Lib.indexByte_ge l c
    unfold Lib.indexByte
    rw [List.contains_cons]
    by_cases h : (b == c) = true
    · have h2 : (c == b) = true := by rw [beq_iff_eq] at h ⊢; exact h.symm
      rw [if_pos h, h2]
      rfl
    · have h2 : (c == b) = false := by
        rw [Bool.eq_false_iff]; intro e; apply h; rw [beq_iff_eq] at e ⊢; exact e.symm
      rw [if_neg h, h2, Bool.false_or, ← ih]
      by_cases h3 : (Lib.indexByte l c == -1) = true
      · rw [if_pos h3]
        rw [beq_iff_eq] at h3
        rw [h3]
      · rw [if_neg h3]
        have h4 : Lib.indexByte l c ≠ -1 := by simpa using h3
        rw [decide_eq_false (by omega), decide_eq_false (by omega)]
/-- Digits and letters. -/
def dig (a : Int) : Bool := decide ((48 : Int) ≤ a) && decide (a ≤ 57)
def lit (a : Int) : Bool := (decide ((97 : Int) ≤ a) && decide (a ≤ 122)) || (decide ((65 : Int) ≤ a) && decide (a ≤ 90))
def dg (c : UInt8) : Bool := dig (UInt8.toNat c : Int)
def lt (c : UInt8) : Bool := lit (UInt8.toNat c : Int)
end Go.Eng
 end

 section
set_option linter.unusedVariables false
set_option linter.unusedSimpArgs false
namespace Go.Proofs.YtlgpcmklpknmcaaDoor
open Go Go.Eng Go.Proofs

theorem version_digit_is (a : Int) : version_digit a = some (dig a) := by
  apply version_digit_of
  unfold version_digit_E
  simp only [cond_some, Option.bind_some, cond_and]
  rfl
theorem version_letter_is (a : Int) : version_letter a = some (lit a) := by
  apply version_letter_of
  unfold version_letter_E
  simp only [cond_some, Option.bind_some, cond_and, cond_or]
  rfl
theorem strings_IndexByte_is (s : List UInt8) (c : UInt8) : strings_IndexByte s (UInt8.toNat c : Int) = some (Lib.indexByte s c) := by
  apply strings_IndexByte_of
  unfold strings_IndexByte_E
  rw [i_stringslite_IndexByte_of (w := Lib.indexByte s c) (by unfold i_stringslite_IndexByte_E; rw [byte_back])]
  rfl
theorem i_stringslite_IndexByte_is (s : List UInt8) (c : UInt8) : i_stringslite_IndexByte s (UInt8.toNat c : Int) = some (Lib.indexByte s c) :=
  i_stringslite_IndexByte_of (by unfold i_stringslite_IndexByte_E; rw [byte_back])

theorem version_number_loop (s : List UInt8) (hs : s.length ≤ 4611686018427387904) : ∀ (l : List UInt8) (i : Nat), i ≤ s.length → s.drop i = l →
    version_number_l2 s i = some (s, ((i + (l.takeWhile dg).length : Nat) : Int))
  | [], i, hi, h => by
    apply version_number_l2_of
    unfold version_number_l2_E
    rw [out_dec h]
    rfl
  | c :: t, i, hi, h => by
    obtain ⟨h1, h2, h3, h4⟩ := drop_cons h
    apply version_number_l2_of
    unfold version_number_l2_E
    rw [in_dec h, idxS_of h, version_digit_is, wr_succ (by omega), version_number_loop s hs t (i + 1) (by omega) h3]
    rw [List.takeWhile_cons]
    simp only [Option.bind_some, cond_true]
    by_cases hd : dg c = true
    · rw [hd]
      have : dig (UInt8.toNat c : Int) = true := hd
      rw [this]
      simp only [cond_true, if_true, List.length_cons]
      rw [Nat.add_right_comm, Nat.add_assoc]
    · have hd' : dg c = false := by simpa using hd
      have : dig (UInt8.toNat c : Int) = false := hd'
      rw [hd', this]
      rfl
theorem takeWhile_le {α : Type} (p : α → Bool) : ∀ l : List α, (l.takeWhile p).length ≤ l.length
  | [] => Nat.le_refl _
  | a :: l => by
    rw [List.takeWhile_cons]
    have := takeWhile_le p l
    split <;> simp <;> omega
theorem take_takeWhile {α : Type} (p : α → Bool) : ∀ l : List α, l.take (l.takeWhile p).length = l.takeWhile p
  | [] => rfl
  | a :: l => by
    rw [List.takeWhile_cons]
    have := take_takeWhile p l
    split
    · rw [List.length_cons, List.take_succ_cons, this]
    · rfl
theorem drop_takeWhile {α : Type} (p : α → Bool) : ∀ l : List α, l.drop (l.takeWhile p).length = l.dropWhile p
  | [] => rfl
  | a :: l => by
    rw [List.takeWhile_cons, List.dropWhile_cons]
    have := drop_takeWhile p l
    split
    · rw [List.length_cons, List.drop_succ_cons, this]
    · rfl
theorem version_number_is (s : List UInt8) (hs : s.length ≤ 4611686018427387904) : version_number s = some (s.takeWhile dg, s.dropWhile dg) := by
  apply version_number_of
  unfold version_number_E
  have h := version_number_loop s hs s 0 (by omega) rfl
  rw [Nat.zero_add] at h
  have h' : version_number_l2 s 0 = some (s, ((s.takeWhile dg).length : Int)) := h
  rw [h']
  have hl := takeWhile_le dg s
  simp only [Option.bind_some]
  rw [cutS_to hl, cutS_from hl, take_takeWhile, drop_takeWhile]

/-- Of letters, digits and others. -/
def mk (others : List UInt8) (c : UInt8) : Bool := dg c || lt c || others.contains c
theorem vmade_loop (s o : List UInt8) (hs : s.length ≤ 4611686018427387904) : ∀ (l : List UInt8) (i : Nat), i ≤ s.length → s.drop i = l →
    version_made_l2 s o i = some (if l.all (mk o) then Sum.inl s else Sum.inr false)
  | [], i, hi, h => by
    apply version_made_l2_of
    unfold version_made_l2_E
    rw [out_dec h]
    rfl
  | d :: t, i, hi, h => by
    obtain ⟨h1, h2, h3, h4⟩ := drop_cons h
    apply version_made_l2_of
    unfold version_made_l2_E
    rw [in_dec h, idxS_of h]
    simp only [idxS_of h, version_digit_is, version_letter_is, strings_IndexByte_is, Option.bind_some, cond_some, cond_true]
    rw [wr_succ (by omega), vmade_loop s o hs t (i + 1) (by omega) h3, indexByte_has, List.all_cons]
    have e1 : dig (UInt8.toNat d : Int) = dg d := rfl
    have e2 : lit (UInt8.toNat d : Int) = lt d := rfl
    rw [e1, e2]
    unfold mk
    cases dg d <;> cases lt d <;> cases o.contains d <;> simp
theorem vmade_is (s o : List UInt8) (hs : s.length ≤ 4611686018427387904) : version_made s o = some (s.all (mk o) && !(s == [])) := by
  apply version_made_of
  unfold version_made_E
  have h := vmade_loop s o hs s 0 (by omega) rfl
  have h' : version_made_l2 s o 0 = _ := h
  rw [h']
  cases s.all (mk o) <;> rfl
theorem nonempty_is (s : List UInt8) : decide ((0 : Int) < (s.length : Int)) = !(s == []) := by
  cases s with
  | nil => rfl
  | cons a s =>
    rw [decide_eq_true (by rw [List.length_cons]; omega)]
    rfl
/-- The last place of a byte. -/
theorem last_loop (s : List UInt8) (b : UInt8) (hs : s.length ≤ 4611686018427387904) : ∀ k : Nat, k ≤ s.length →
    i_bytealg_LastIndexByteString_l2 s (UInt8.toNat b : Int) ((k : Int) - 1) = some (if lastAt s b k = -1 then Sum.inl () else Sum.inr (lastAt s b k))
  | 0, _ => by
    apply i_bytealg_LastIndexByteString_l2_of
    unfold i_bytealg_LastIndexByteString_l2_E
    rfl
  | k + 1, hk => by
    have e : (((k + 1 : Nat) : Int) - 1) = (k : Int) := by omega
    rw [e]
    apply i_bytealg_LastIndexByteString_l2_of
    unfold i_bytealg_LastIndexByteString_l2_E
    have hg : s[k]? = some (s[k]'(by omega)) := List.getElem?_eq_getElem (by omega)
    rw [decide_eq_true (by omega : (0 : Int) ≤ (k : Int)), idxS_get hg, byte_beq, wr (by omega), last_loop s b hs k (by omega)]
    rw [lastAt_succ, hg]
    by_cases hb : s[k]'(by omega) = b
    · rw [hb]
      simp
    · have : (s[k]'(by omega) == b) = false := by simpa using hb
      rw [this]
      have h2 : ¬ (some (s[k]'(by omega)) = some b) := by simpa using hb
      rw [if_neg h2]
      rfl
theorem last_is (s : List UInt8) (b : UInt8) (hs : s.length ≤ 4611686018427387904) : strings_LastIndexByte s (UInt8.toNat b : Int) = some (lastAt s b s.length) := by
  apply strings_LastIndexByte_of
  unfold strings_LastIndexByte_E
  have : i_bytealg_LastIndexByteString s (UInt8.toNat b : Int) = some (lastAt s b s.length) := by
    apply i_bytealg_LastIndexByteString_of
    unfold i_bytealg_LastIndexByteString_E
    rw [wr (by omega), last_loop s b hs s.length (Nat.le_refl _)]
    by_cases h : lastAt s b s.length = -1
    · rw [if_pos h, h]; rfl
    · rw [if_neg h]; rfl
  rw [this]; rfl
end Go.Proofs.YtlgpcmklpknmcaaDoor
 end

 section
set_option linter.unusedVariables false
set_option linter.unusedSimpArgs false
namespace Go.Proofs.YtlgpcmklpknmcaaDoor
open Go Go.Eng Go.Proofs

theorem byteOf_byte (b : UInt8) : Go.Eng.byteOf (byte b) = some b := by
  have : b.toNat < 256 := b.toNat_lt
  show (if 0 ≤ (b.toNat : Int) ∧ (b.toNat : Int) < 256 then some ((b.toNat : Int)).toNat.toUInt8 else none) = some b
  rw [if_pos (by omega)]
  congr 1
  simp
theorem bytesL_map : ∀ l : List UInt8, bytesL (l.map byte) = some l
  | [] => rfl
  | b :: l => by
    rw [List.map_cons, bytesL, byteOf_byte, bytesL_map l]
theorem bytesK_map {R : Type} (l : List UInt8) (h : l.length ≤ 1000000) (K : List UInt8 → Option R) : bytesK (l.map byte) K = K l := by
  unfold bytesK
  rw [if_pos (by rw [List.length_map]; omega), bytesL_map]; rfl
theorem digit_byte {q : Nat} (h : q < 10) : AV.int .u8 (IntKind.wrap .u8 (IntKind.wrap .i64 (48 + (q : Int)))) = byte (UInt8.ofNat (48 + q)) := by
  rw [wr (by omega)]
  have : IntKind.wrap .u8 (48 + (q : Int)) = ((48 + q : Nat) : Int) := by
    have e : ∀ k : Fin 10, IntKind.wrap .u8 (48 + ((k.val : Nat) : Int)) = ((48 + k.val : Nat) : Int) := by decide
    exact e ⟨q, h⟩
  rw [this]
  unfold byte
  have : (UInt8.ofNat (48 + q)).toNat = 48 + q := by simp; omega
  rw [this]
theorem catS_of {R : Type} {a b : List UInt8} (h : a.length + b.length ≤ 1000000) (K : List UInt8 → Option R) : catS a b K = K (a ++ b) := by
  unfold catS
  rw [if_pos (by omega)]
theorem remI_ten {R : Type} (n : Nat) (K : Int → Option R) : remI (n : Int) 10 K = K ((n % 10 : Nat) : Int) := by
  unfold remI
  rw [if_neg (by decide)]
  congr 1
theorem divI_ten {R : Type} {n : Nat} (h : n ≤ 1000000000) (K : Int → Option R) : divI .i64 (n : Int) 10 K = K ((n / 10 : Nat) : Int) := by
  unfold divI
  rw [if_neg (by decide)]
  have : (n : Int).tdiv 10 = ((n / 10 : Nat) : Int) := rfl
  rw [this, wr (by omega)]
/-- A number's digits. -/
def decN (n : Nat) : List UInt8 := if n < 10 then [UInt8.ofNat (48 + n)] else decN (n / 10) ++ [UInt8.ofNat (48 + n % 10)]
termination_by n
def within (n : Int) : Bool := decide (0 ≤ n) && decide (n ≤ 999999999)
def dec (n : Int) : List UInt8 := decN n.toNat
theorem decN_small {n : Nat} (h : n < 10) : decN n = [UInt8.ofNat (48 + n)] := by rw [decN, if_pos h]
theorem decN_big {n : Nat} (h : ¬ n < 10) : decN n = decN (n / 10) ++ [UInt8.ofNat (48 + n % 10)] := by rw [decN, if_neg h]
theorem decN_len : ∀ (k n : Nat), n < 10 ^ (k + 1) → (decN n).length ≤ k + 1
  | 0, n, h => by rw [decN_small (by simpa using h)]; simp
  | k + 1, n, h => by
    by_cases h10 : n < 10
    · rw [decN_small h10]; simp
    · rw [decN_big h10, List.length_append]
      have := decN_len k (n / 10) (by rw [Nat.pow_succ] at h; omega)
      simp; omega
theorem within_nat {n : Int} (h : within n = true) : ∃ k : Nat, n = (k : Int) ∧ k ≤ 999999999 := by
  unfold within at h
  simp only [Bool.and_eq_true, decide_eq_true_eq] at h
  exact ⟨n.toNat, by omega, by omega⟩
theorem dec_len {n : Int} (h : within n = true) : (dec n).length ≤ 9 := by
  obtain ⟨k, rfl, hk⟩ := within_nat h
  unfold dec
  rw [Int.toNat_natCast]
  exact decN_len 8 k (by omega)
theorem catS_big {R : Type} {a b : List UInt8} (h : a.length + b.length ≤ 4611686018427387904) (K : List UInt8 → Option R) : catS a b K = K (a ++ b) := by
  unfold catS
  rw [if_pos h]
theorem dec_loop : ∀ (m n : Nat) (s : List UInt8), n ≤ m → n ≤ 999999999 → s.length + n ≤ 2000000000 → ∃ (k : Nat) (t : List UInt8), codec_Dec_l4 (n : Int) s = some ((k : Int), t) ∧ k < 10 ∧ UInt8.ofNat (48 + k) :: t = decN n ++ s
  | m, n, s, hm, hn, hs => by
    by_cases h10 : n < 10
    · refine ⟨n, s, codec_Dec_l4_of ?_, h10, by rw [decN_small h10]; rfl⟩
      unfold codec_Dec_l4_E
      rw [decide_eq_false (by omega)]; rfl
    · cases m with
      | zero => omega
      | succ m =>
        obtain ⟨k, t, g1, g2, g3⟩ := dec_loop m (n / 10) (UInt8.ofNat (48 + n % 10) :: s) (by omega) (by omega) (by simp; omega)
        refine ⟨k, t, codec_Dec_l4_of ?_, g2, ?_⟩
        · unfold codec_Dec_l4_E
          rw [decide_eq_true (by omega), remI_ten, digit_byte (by omega), cond_true, show [byte (UInt8.ofNat (48 + n % 10))] = ([UInt8.ofNat (48 + n % 10)] : List UInt8).map byte from rfl, bytesK_map _ (by simp), catS_big (by simp; omega), divI_ten (by omega)]
          exact g1
        · rw [g3, decN_big h10]; simp
theorem dec_is {n : Int} (h : within n = true) : codec_Dec n = some (dec n) := by
  obtain ⟨k, rfl, hk⟩ := within_nat h
  obtain ⟨j, t, g1, g2, g3⟩ := dec_loop k k [] (Nat.le_refl _) hk (by simp; omega)
  rw [List.append_nil] at g3
  have hl := dec_len h
  apply codec_Dec_of
  unfold codec_Dec_E
  unfold dec at hl ⊢
  rw [Int.toNat_natCast] at hl ⊢
  have : t.length ≤ 9 := by have := congrArg List.length g3; simp at this; omega
  rw [decide_eq_false (by omega), g1]
  simp only [cond_false, Option.bind_some]
  rw [digit_byte g2, show [byte (UInt8.ofNat (48 + j))] = ([UInt8.ofNat (48 + j)] : List UInt8).map byte from rfl, bytesK_map _ (by simp), catS_of (by simp; omega)]
  rw [← g3]; rfl
theorem rdec_loop : ∀ (m n : Nat) (s : List UInt8), n ≤ m → n ≤ 999999999 → (decN n).length + s.length ≤ 90000 → ∃ (k : Nat) (t : List UInt8), drayageref01_Dec_l4 (n : Int) (s.map byte) = some ((k : Int), t.map byte) ∧ k < 10 ∧ UInt8.ofNat (48 + k) :: t = decN n ++ s
  | m, n, s, hm, hn, hl => by
    by_cases h10 : n < 10
    · refine ⟨n, s, drayageref01_Dec_l4_of ?_, h10, by rw [decN_small h10]; rfl⟩
      unfold drayageref01_Dec_l4_E
      rw [decide_eq_false (by omega)]; rfl
    · cases m with
      | zero => omega
      | succ m =>
        rw [decN_big h10, List.length_append, List.length_singleton] at hl
        have hp : 0 < (decN (n / 10)).length := by
          rw [decN]; split <;> simp
        obtain ⟨k, t, g1, g2, g3⟩ := rdec_loop m (n / 10) (UInt8.ofNat (48 + n % 10) :: s) (by omega) (by omega) (by simp; omega)
        refine ⟨k, t, drayageref01_Dec_l4_of ?_, g2, ?_⟩
        · unfold drayageref01_Dec_l4_E
          rw [decide_eq_true (by omega), remI_ten, digit_byte (by omega), cond_true, room_of (by simp; omega) (by omega), divI_ten (by omega)]
          exact g1
        · rw [g3, decN_big h10]; simp
theorem rdec_is {n : Int} (h : within n = true) : drayageref01_Dec n = some (dec n) := by
  have hl := dec_len h
  obtain ⟨k, rfl, hk⟩ := within_nat h
  unfold dec at hl ⊢
  rw [Int.toNat_natCast] at hl ⊢
  obtain ⟨j, t, g1, g2, g3⟩ := rdec_loop k k [] (Nat.le_refl _) hk (by simp; omega)
  rw [List.append_nil] at g3
  apply drayageref01_Dec_of
  unfold drayageref01_Dec_E
  have : t.length ≤ 9 := by have := congrArg List.length g3; simp at this; omega
  have g1' : drayageref01_Dec_l4 (k : Int) [] = _ := g1
  rw [decide_eq_false (by omega), g1']
  simp only [cond_false, Option.bind_some]
  rw [digit_byte g2, room_of (by simp; omega) (by omega), show [byte (UInt8.ofNat (48 + j))] ++ t.map byte = (UInt8.ofNat (48 + j) :: t).map byte from rfl, bytesK_map _ (by simp; omega), g3]

/-! ### A core's text -/
/-- The numbers, from the i-th on. -/
def nT : Nat → List Int → List UInt8
  | _, [] => []
  | i, n :: t => (if 0 < i then [46] else []) ++ dec n ++ nT (i + 1) t
def sg (f : Int) : List UInt8 := if f = 3 then [95] else [126]
def dash (f : Int) : List UInt8 := if f = 3 then [45, 114] else [45]
def epT (e : Int) : List UInt8 := if e = 0 then [] else dec e ++ [58]
def preT (f : Int) (pre : List UInt8) (pn : Int) : List UInt8 := if pre = [] then [] else sg f ++ pre ++ dec pn
def txt (f e : Int) (ns : List Int) (le pre : List UInt8) (pn rev : Int) : List UInt8 := epT e ++ nT 0 ns ++ le ++ preT f pre pn ++ (dash f ++ dec rev)
abbrev iA (ns : List Int) : List AV := ns.map (AV.int .i64)
theorem nT_len : ∀ (ns : List Int) (i : Nat), ns.all within = true → (nT i ns).length ≤ 10 * ns.length
  | [], i, _ => by simp [nT]
  | n :: t, i, h => by
    rw [List.all_cons, Bool.and_eq_true] at h
    have h1 := dec_len h.1
    have h2 := nT_len t (i + 1) h.2
    rw [nT]
    simp only [List.length_append, List.length_cons]
    split <;> simp <;> omega
theorem text_loop (f e : Int) (ns : List Int) (le pre : List UInt8) (pn rev : Int) (hn : ns.length ≤ 1000) : ∀ (l : List Int) (i : Nat) (b : List UInt8), ns.drop i = l → l.all within = true → b.length + 10 * l.length ≤ 50000 →
    vmap_text_l5 f (iA ns) (ns.length : Int) (i : Int) e (iA ns) le pre pn rev (b.map byte) = some (f, (e, iA ns, le, pre, pn, rev), (b ++ nT i l).map byte)
  | [], i, b, h, hw, hb => by
    apply vmap_text_l5_of
    unfold vmap_text_l5_E
    rw [out_dec h]
    simp [nT]
  | n :: t, i, b, h, hw, hb => by
    obtain ⟨h1, h2, h3, h4⟩ := drop_cons h
    rw [List.all_cons, Bool.and_eq_true] at hw
    have hl := dec_len hw.1
    simp only [List.length_cons] at hb
    have hd : (iA ns).drop i = AV.int .i64 n :: iA t := by rw [← List.map_drop, h]; rfl
    apply vmap_text_l5_of
    unfold vmap_text_l5_E
    rw [in_dec h, getL_of hd, wr_succ (by omega)]
    simp only [dInt, cond_true, if_true, dec_is hw.1, Option.bind_some]
    by_cases hi : 0 < i
    · have ih := text_loop f e ns le pre pn rev hn t (i + 1) (b ++ [46] ++ dec n) h3 hw.2 (by simp; omega)
      rw [decide_eq_true (by omega), cond_true, room_of (by simp; omega) (by omega), room_of (by simp; omega) (by omega)]
      have e1 : List.map byte b ++ [AV.int .u8 46] ++ List.map byte (dec n) = (b ++ [46] ++ dec n).map byte := by simp; rfl
      rw [e1, ih, nT, if_pos hi]
      simp
    · have ih := text_loop f e ns le pre pn rev hn t (i + 1) (b ++ dec n) h3 hw.2 (by simp; omega)
      rw [decide_eq_false (by omega), cond_false, room_of (by simp; omega) (by omega)]
      have e1 : List.map byte b ++ List.map byte (dec n) = (b ++ dec n).map byte := by simp
      rw [e1, ih, nT, if_neg hi]
      simp
theorem k17_is (rd : List UInt8) (e : Int) (A : List AV) (le pre : List UInt8) (pn rev : Int) (b : List UInt8) (hr : within rev = true) (hb : b.length ≤ 60000) (hd : rd.length ≤ 2) :
    vmap_text_k17 rd e A le pre pn rev (b.map byte) = some (b ++ (rd ++ dec rev), (e, A, le, pre, pn, rev), (b ++ (rd ++ dec rev)).map byte) := by
  have hl := dec_len hr
  apply vmap_text_k17_of
  unfold vmap_text_k17_E
  rw [dec_is hr]
  simp only [Option.bind_some]
  rw [catS_of (by omega), room_of (by simp; omega) (by omega)]
  have e1 : List.map byte b ++ List.map byte (rd ++ dec rev) = (b ++ (rd ++ dec rev)).map byte := by simp
  rw [e1, bytesK_map _ (by simp; omega)]
theorem k15_is (sgn rd : List UInt8) (e : Int) (A : List AV) (le pre : List UInt8) (pn rev : Int) (b : List UInt8) (hr : within rev = true) (hp : within pn = true) (hb : b.length ≤ 55000) (hpl : pre.length ≤ 100) (hd : rd.length ≤ 2) (hs : sgn.length ≤ 1) :
    vmap_text_k15 sgn rd e A le pre pn rev (b.map byte) = some (b ++ (if pre = [] then [] else sgn ++ pre ++ dec pn) ++ (rd ++ dec rev), (e, A, le, pre, pn, rev), (b ++ (if pre = [] then [] else sgn ++ pre ++ dec pn) ++ (rd ++ dec rev)).map byte) := by
  have hl := dec_len hp
  by_cases h : pre = []
  · subst h
    apply vmap_text_k15_of
    unfold vmap_text_k15_E
    rw [k17_is rd e A le [] pn rev b hr (by omega) hd, if_pos rfl, List.append_nil]
    rfl
  · have hc : (!(pre == ([] : List UInt8))) = true := by simpa using h
    apply vmap_text_k15_of
    unfold vmap_text_k15_E
    rw [hc, dec_is hp]
    simp only [Option.bind_some, cond_true]
    rw [catS_of (by omega), catS_of (by simp; omega), room_of (by simp; omega) (by omega)]
    have e1 : List.map byte b ++ List.map byte (sgn ++ pre ++ dec pn) = (b ++ (sgn ++ pre ++ dec pn)).map byte := by simp
    rw [e1, k17_is rd e A le pre pn rev _ hr (by simp; omega) hd, if_neg h]
    rfl
theorem text_is (f e : Int) (ns : List Int) (le pre : List UInt8) (pn rev : Int) (hn : ns.length ≤ 300) (hw : ns.all within = true) (he : within e = true) (hp : within pn = true) (hr : within rev = true) (hl : le.length ≤ 100) (hpl : pre.length ≤ 100) :
    vmap_text f e (iA ns) le pre pn rev = some (txt f e ns le pre pn rev) := by
  have hk4 : ∀ b : List UInt8, b.length ≤ 100 → vmap_text_k4 f e (iA ns) le pre pn rev (b.map byte) = some (b ++ nT 0 ns ++ le ++ preT f pre pn ++ (dash f ++ dec rev), (e, iA ns, le, pre, pn, rev), (b ++ nT 0 ns ++ le ++ preT f pre pn ++ (dash f ++ dec rev)).map byte) := by
    intro b hb
    have h5 : vmap_text_l5 f (iA ns) (ns.length : Int) 0 e (iA ns) le pre pn rev (b.map byte) = some (f, (e, iA ns, le, pre, pn, rev), (b ++ nT 0 ns).map byte) := text_loop f e ns le pre pn rev (by omega) ns 0 b rfl hw (by omega)
    have hnl := nT_len ns 0 hw
    by_cases h3 : f = 3
    · have hc : (f == 3) = true := by rw [h3]; rfl
      have hB := k15_is [95] [45, 114] e (iA ns) le pre pn rev (b ++ nT 0 ns ++ le) hr hp (by simp; omega) hpl (by simp) (by simp)
      apply vmap_text_k4_of
      unfold vmap_text_k4_E
      rw [List.length_map, h5]
      simp only [Option.bind_some, hc, cond_true]
      rw [room_of (by simp; omega) (by omega)]
      have e1 : List.map byte (b ++ nT 0 ns) ++ List.map byte le = (b ++ nT 0 ns ++ le).map byte := by simp
      rw [e1, hB]
      simp only [Option.bind_some]
      unfold preT sg dash
      rw [if_pos h3, if_pos h3]
    · have hc : (f == 3) = false := by simpa using h3
      have hB := k15_is [126] [45] e (iA ns) le pre pn rev (b ++ nT 0 ns ++ le) hr hp (by simp; omega) hpl (by simp) (by simp)
      apply vmap_text_k4_of
      unfold vmap_text_k4_E
      rw [List.length_map, h5]
      simp only [Option.bind_some, hc, cond_false]
      rw [room_of (by simp; omega) (by omega)]
      have e1 : List.map byte (b ++ nT 0 ns) ++ List.map byte le = (b ++ nT 0 ns ++ le).map byte := by simp
      rw [e1, hB]
      simp only [Option.bind_some]
      unfold preT sg dash
      rw [if_neg h3, if_neg h3]
  have hel := dec_len he
  apply vmap_text_of
  unfold vmap_text_E
  by_cases h0 : e = 0
  · have hc : (e != 0) = false := by rw [h0]; rfl
    have hX := hk4 [] (by simp)
    have hX' : vmap_text_k4 f e (iA ns) le pre pn rev [] = _ := hX
    rw [hc, cond_false, hX']
    simp only [Option.bind_some]
    unfold txt epT
    rw [if_pos h0]
  · have hc : (e != 0) = true := by simpa using h0
    have hX := hk4 (dec e ++ [58]) (by simp; omega)
    rw [hc, cond_true, dec_is he]
    simp only [Option.bind_some]
    rw [catS_of (by simp; omega), room_of (by simp; omega) (by omega), List.nil_append, hX]
    simp only [Option.bind_some]
    unfold txt epT
    rw [if_neg h0]
end Go.Proofs.YtlgpcmklpknmcaaDoor
 end

 section
set_option linter.unusedVariables false
set_option linter.unusedSimpArgs false
namespace Go.Proofs.YtlgpcmklpknmcaaDoor
open Go Go.Eng Go.Proofs

theorem rtext_loop (f e : Int) (ns : List Int) (le pre : List UInt8) (pn rev : Int) (hn : ns.length ≤ 64) : ∀ (l : List Int) (i : Nat) (b : List UInt8), ns.drop i = l → l.all within = true → b.length + 10 * l.length ≤ 50000 →
    drayageref13_text_l5 f b (i : Int) e (iA ns) le pre pn rev = some (f, b ++ nT i l, (e, iA ns, le, pre, pn, rev))
  | [], i, b, h, hw, hb => by
    have hd : (iA ns).drop i = [] := by rw [← List.map_drop, h]; rfl
    apply drayageref13_text_l5_of
    unfold drayageref13_text_l5_E
    rw [out_dec hd]
    simp [nT]
  | n :: t, i, b, h, hw, hb => by
    obtain ⟨h1, h2, h3, h4⟩ := drop_cons h
    rw [List.all_cons, Bool.and_eq_true] at hw
    have hl := dec_len hw.1
    simp only [List.length_cons] at hb
    have hd : (iA ns).drop i = AV.int .i64 n :: iA t := by rw [← List.map_drop, h]; rfl
    have k9 : ∀ s : List UInt8, s.length ≤ 60000 → drayageref13_text_k9 f s (i : Int) e (iA ns) le pre pn rev = some (f, s ++ dec n, (i : Int), (e, iA ns, le, pre, pn, rev)) := by
      intro s hs
      apply drayageref13_text_k9_of
      unfold drayageref13_text_k9_E
      rw [getL_of hd]
      simp only [dInt, if_true, rdec_is hw.1, Option.bind_some]
      rw [catS_of (by omega)]
    apply drayageref13_text_l5_of
    unfold drayageref13_text_l5_E
    rw [in_dec hd, decide_eq_true (by omega : (i : Int) < 70)]
    simp only [cond_true, Option.bind_some]
    by_cases hi : 0 < i
    · have ih := rtext_loop f e ns le pre pn rev hn t (i + 1) (b ++ [46] ++ dec n) h3 hw.2 (by simp; omega)
      rw [decide_eq_true (by omega), cond_true, catS_of (by simp; omega), k9 _ (by simp; omega)]
      simp only [Option.bind_some]
      rw [wr_succ (by omega), ih, nT, if_pos hi]
      simp
    · have ih := rtext_loop f e ns le pre pn rev hn t (i + 1) (b ++ dec n) h3 hw.2 (by simp; omega)
      rw [decide_eq_false (by omega), cond_false, k9 _ (by omega)]
      simp only [Option.bind_some]
      rw [wr_succ (by omega), ih, nT, if_neg hi]
      simp
theorem rtext_is (f e : Int) (ns : List Int) (le pre : List UInt8) (pn rev : Int) (hn : ns.length ≤ 64) (hw : ns.all within = true) (he : within e = true) (hp : within pn = true) (hr : within rev = true) (hl : le.length ≤ 100) (hpl : pre.length ≤ 100) :
    drayageref13_text f e (iA ns) le pre pn rev = some (txt f e ns le pre pn rev) := by
  have hrl := dec_len hr
  have hpl2 := dec_len hp
  have hnl := nT_len ns 0 hw
  have k16 : ∀ s : List UInt8, s.length ≤ 60000 → drayageref13_text_k16 f s e (iA ns) le pre pn rev = some (s ++ (dash f ++ dec rev), (e, iA ns, le, pre, pn, rev)) := by
    intro s hs
    apply drayageref13_text_k16_of
    unfold drayageref13_text_k16_E
    by_cases h3 : f = 3
    · have hc : (f == 3) = true := by rw [h3]; rfl
      rw [hc, cond_true, catS_of (by simp; omega), rdec_is hr]
      simp only [Option.bind_some]
      rw [catS_of (by simp; omega)]
      unfold dash; rw [if_pos h3, List.append_assoc]
    · have hc : (f == 3) = false := by simpa using h3
      rw [hc, cond_false, catS_of (by simp; omega), rdec_is hr]
      simp only [Option.bind_some]
      rw [catS_of (by simp; omega)]
      unfold dash; rw [if_neg h3, List.append_assoc]
  have k15 : ∀ s g : List UInt8, s.length ≤ 50000 → g.length ≤ 1 → drayageref13_text_k15 f s g e (iA ns) le pre pn rev = some (f, s ++ (g ++ pre ++ dec pn), (e, iA ns, le, pre, pn, rev)) := by
    intro s g hs hgl
    apply drayageref13_text_k15_of
    unfold drayageref13_text_k15_E
    rw [catS_of (by omega), catS_of (by simp; omega), rdec_is hp]
    simp only [Option.bind_some]
    rw [catS_of (by simp; omega)]
    simp only [List.append_assoc]
  have k4 : ∀ b : List UInt8, b.length ≤ 100 → drayageref13_text_k4 f b e (iA ns) le pre pn rev = some (b ++ nT 0 ns ++ le ++ preT f pre pn ++ (dash f ++ dec rev), (e, iA ns, le, pre, pn, rev)) := by
    intro b hb
    have h5 : drayageref13_text_l5 f b 0 e (iA ns) le pre pn rev = some (f, b ++ nT 0 ns, (e, iA ns, le, pre, pn, rev)) := rtext_loop f e ns le pre pn rev hn ns 0 b rfl hw (by omega)
    apply drayageref13_text_k4_of
    unfold drayageref13_text_k4_E
    rw [h5]
    simp only [Option.bind_some]
    rw [catS_of (by simp; omega)]
    by_cases h : pre = []
    · have hc : (!(pre == ([] : List UInt8))) = false := by rw [h]; rfl
      rw [hc, cond_false, k16 _ (by simp; omega)]
      unfold preT
      rw [if_pos h, List.append_nil]
      rfl
    · have hc : (!(pre == ([] : List UInt8))) = true := by simpa using h
      rw [hc, cond_true]
      unfold preT sg
      rw [if_neg h]
      by_cases h3 : f = 3
      · have hc3 : (f == 3) = true := by rw [h3]; rfl
        rw [hc3, cond_true, if_pos h3, k15 _ [95] (by simp; omega) (by simp)]
        simp only [Option.bind_some]
        rw [k16 _ (by simp; omega)]
        rfl
      · have hc3 : (f == 3) = false := by simpa using h3
        rw [hc3, cond_false, if_neg h3, k15 _ [126] (by simp; omega) (by simp)]
        simp only [Option.bind_some]
        rw [k16 _ (by simp; omega)]
        rfl
  have hel := dec_len he
  apply drayageref13_text_of
  unfold drayageref13_text_E
  by_cases h0 : e = 0
  · have hc : (e != 0) = false := by rw [h0]; rfl
    rw [hc, cond_false, k4 [] (by simp)]
    simp only [Option.bind_some]
    unfold txt epT
    rw [if_pos h0]
  · have hc : (e != 0) = true := by simpa using h0
    rw [hc, cond_true, rdec_is he]
    simp only [Option.bind_some]
    rw [catS_of (by simp; omega), k4 (dec e ++ [58]) (by simp; omega)]
    simp only [Option.bind_some]
    unfold txt epT
    rw [if_neg h0]

/-! ### Words -/
def idxL : List (List UInt8) → List UInt8 → Nat → Int
  | [], _, _ => -1
  | y :: t, x, i => if x == y then (i : Int) else idxL t x (i + 1)
theorem idxL_yes {y x : List UInt8} {t : List (List UInt8)} {i : Nat} (h : (x == y) = true) : idxL (y :: t) x i = (i : Int) := if_pos h
theorem idxL_no {y x : List UInt8} {t : List (List UInt8)} {i : Nat} (h : ¬ (x == y) = true) : idxL (y :: t) x i = idxL t x (i + 1) := if_neg h
theorem sidx_loop (s : List (List UInt8)) (x : List UInt8) (hs : s.length ≤ 1000) : ∀ (l : List (List UInt8)) (i : Nat), s.drop i = l →
    slices_Index_string_string_l2 (s.map AV.str) x (s.length : Int) (i : Int) = some (if 0 ≤ idxL l x i then Sum.inr (idxL l x i) else Sum.inl ())
  | [], i, h => by
    apply slices_Index_string_string_l2_of
    unfold slices_Index_string_string_l2_E
    rw [out_dec h]
    rfl
  | y :: t, i, h => by
    obtain ⟨h1, h2, h3, h4⟩ := drop_cons h
    have ih := sidx_loop s x hs t (i + 1) h3
    have hd : (s.map AV.str).drop i = AV.str y :: t.map AV.str := by rw [← List.map_drop, h]; rfl
    apply slices_Index_string_string_l2_of
    unfold slices_Index_string_string_l2_E
    rw [in_dec h, getL_of hd, wr_succ (by omega), ih]
    simp only [dStr, cond_true]
    by_cases hxy : (x == y) = true
    · rw [idxL_yes hxy, hxy, cond_true, if_pos (by omega)]
    · have hf : (x == y) = false := by simpa using hxy
      rw [idxL_no hxy, hf]; rfl
theorem idxL_ge : ∀ (l : List (List UInt8)) (x : List UInt8) (i : Nat), -1 ≤ idxL l x i
  | [], x, i => by unfold idxL; omega
  | y :: t, x, i => by
    unfold idxL
    have := idxL_ge t x (i + 1)
    split <;> omega
theorem sidx_is (s : List (List UInt8)) (x : List UInt8) (hs : s.length ≤ 1000) : slices_Index_string_string (s.map AV.str) x = some (idxL s x 0) := by
  apply slices_Index_string_string_of
  unfold slices_Index_string_string_E
  have h : slices_Index_string_string_l2 (s.map AV.str) x (s.length : Int) 0 = _ := sidx_loop s x hs s 0 rfl
  rw [List.length_map, h]
  have hg := idxL_ge s x 0
  by_cases h0 : 0 ≤ idxL s x 0
  · rw [if_pos h0]; rfl
  · rw [if_neg h0]
    have : idxL s x 0 = -1 := by omega
    rw [this]; rfl
def words4 : List (List UInt8) := [[97, 108, 112, 104, 97], [98, 101, 116, 97], [112, 114, 101], [114, 99]]
def rk (x : List UInt8) : Int := idxL words4 x 0
theorem pres_is : vmap_pres = some (words4.map AV.str) := vmap_pres_of rfl
theorem rk_is (x : List UInt8) : slices_Index_string_string (words4.map AV.str) x = some (rk x) := sidx_is words4 x (by decide)
theorem contains4 (x : List UInt8) : slices_Contains_string_string (words4.map AV.str) x = some (decide (0 ≤ rk x)) := by
  apply slices_Contains_string_string_of
  unfold slices_Contains_string_string_E
  rw [rk_is]; rfl
theorem rk_nil : rk [] = -1 := by decide
theorem rword_is (k : Nat) (w : List UInt8) (h : words4[k]? = some w) : drayageref13_word (k : Int) = some w := by
  apply drayageref13_word_of
  unfold drayageref13_word_E
  have hg : ∀ K : AV → Option (List UInt8), getL [AV.str [97, 108, 112, 104, 97], AV.str [98, 101, 116, 97], AV.str [112, 114, 101], AV.str [114, 99]] (k : Int) K = K (AV.str w) := fun K => getL_get (by
    show (words4.map AV.str)[k]? = _
    rw [List.getElem?_map, h]; rfl) K
  rw [hg]; rfl
theorem rank_loop (x : List UInt8) : ∀ (l : List (List UInt8)) (i : Nat), words4.drop i = l → drayageref13_Rank_l2 x (i : Int) = some (if 0 ≤ idxL l x i then Sum.inr (idxL l x i) else Sum.inl x)
  | [], i, h => by
    have := drop_nil h
    have h4 : words4.length = 4 := rfl
    apply drayageref13_Rank_l2_of
    unfold drayageref13_Rank_l2_E
    rw [decide_eq_false (by omega)]
    rfl
  | y :: t, i, h => by
    obtain ⟨h1, h2, h3, h4⟩ := drop_cons h
    have h5 : words4.length = 4 := rfl
    have ih := rank_loop x t (i + 1) h3
    apply drayageref13_Rank_l2_of
    unfold drayageref13_Rank_l2_E
    rw [decide_eq_true (by omega), rword_is i y h2, wr_succ (by omega), ih]
    simp only [cond_true, Option.bind_some]
    have : (y == x) = (x == y) := by
      rw [Bool.eq_iff_iff, beq_iff_eq, beq_iff_eq]; exact eq_comm
    rw [this]
    by_cases hxy : (x == y) = true
    · rw [idxL_yes hxy, hxy, cond_true, if_pos (by omega)]
    · have hf : (x == y) = false := by simpa using hxy
      rw [idxL_no hxy, hf]; rfl
theorem rank_is (x : List UInt8) : drayageref13_Rank x = some (if x = [] then 4 else rk x) := by
  apply drayageref13_Rank_of
  unfold drayageref13_Rank_E
  have h : drayageref13_Rank_l2 x 0 = _ := rank_loop x words4 0 rfl
  rw [h]
  have hg := idxL_ge words4 x 0
  by_cases h0 : 0 ≤ idxL words4 x 0
  · rw [if_pos h0]
    have hx : x ≠ [] := by
      rintro rfl
      have : idxL words4 [] 0 = -1 := rk_nil
      omega
    rw [if_neg hx]; rfl
  · rw [if_neg h0]
    by_cases hx : x = []
    · subst hx; rfl
    · rw [if_neg hx]
      have : (x == ([] : List UInt8)) = false := by simpa using hx
      simp only [Option.bind_some, Sum.elim_inl, this, cond_false]
      have h1 : rk x = idxL words4 x 0 := rfl
      rw [h1]
      congr 1; omega

/-! ### Is a core right? -/
theorem within_is (n : Int) : vmap_within n = some (within n) := by
  apply vmap_within_of
  unfold vmap_within_E within
  simp only [cond_some, cond_and, Option.bind_some]
theorem check1_is (n : Int) : vmap_Check_1 n = some (!(within n)) := by
  apply vmap_Check_1_of
  unfold vmap_Check_1_E
  rw [within_is]; rfl
theorem rnumber_is (n : Int) : drayageref13_number n = some (within n) := by
  apply drayageref13_number_of
  unfold drayageref13_number_E within
  simp only [cond_some, cond_and, Option.bind_some]
theorem cf62_loop (s : List Int) (hs : s.length ≤ 1000) : ∀ (l : List Int) (i : Nat), s.drop i = l →
    ∃ w, slices_IndexFunc_int_int_f62_l2 (iA s) (s.length : Int) (i : Int) = some w ∧ (if l.all within then w = Sum.inl () else ∃ k : Nat, w = Sum.inr (k : Int))
  | [], i, h => by
    refine ⟨Sum.inl (), slices_IndexFunc_int_int_f62_l2_of ?_, by simp⟩
    unfold slices_IndexFunc_int_int_f62_l2_E
    rw [out_dec h]; rfl
  | n :: t, i, h => by
    obtain ⟨h1, h2, h3, h4⟩ := drop_cons h
    obtain ⟨w, ih, hw⟩ := cf62_loop s hs t (i + 1) h3
    have hd : (iA s).drop i = AV.int .i64 n :: iA t := by rw [← List.map_drop, h]; rfl
    cases hn : within n with
    | true =>
      refine ⟨w, slices_IndexFunc_int_int_f62_l2_of ?_, by rw [List.all_cons, hn, Bool.true_and]; exact hw⟩
      unfold slices_IndexFunc_int_int_f62_l2_E
      rw [in_dec h, getL_of hd, wr_succ (by omega), ih]
      simp only [dInt, cond_true, if_true, check1_is, hn, Option.bind_some, Bool.not_true, cond_false]
    | false =>
      refine ⟨Sum.inr (i : Int), slices_IndexFunc_int_int_f62_l2_of ?_, by rw [List.all_cons, hn, Bool.false_and]; exact ⟨i, rfl⟩⟩
      unfold slices_IndexFunc_int_int_f62_l2_E
      rw [in_dec h, getL_of hd, wr_succ (by omega), ih]
      simp only [dInt, cond_true, if_true, check1_is, hn, Option.bind_some, Bool.not_false]
theorem cf62_is (s : List Int) (hs : s.length ≤ 1000) : slices_ContainsFunc_int_int_f62 (iA s) = some (!(s.all within)) := by
  obtain ⟨w, h1, h2⟩ := cf62_loop s hs s 0 rfl
  have h1' : slices_IndexFunc_int_int_f62_l2 (iA s) (s.length : Int) 0 = some w := h1
  apply slices_ContainsFunc_int_int_f62_of
  unfold slices_ContainsFunc_int_int_f62_E
  have : slices_IndexFunc_int_int_f62 (iA s) = some (Sum.elim (fun _ => -1) (fun k => k) w) := by
    apply slices_IndexFunc_int_int_f62_of
    unfold slices_IndexFunc_int_int_f62_E
    rw [List.length_map, h1']
    cases w <;> rfl
  rw [this]
  cases ha : s.all within with
  | true => rw [ha] at h2; simp only [if_true] at h2; subst h2; rfl
  | false =>
    rw [ha] at h2
    simp only [Bool.false_eq_true, if_false] at h2
    obtain ⟨k, rfl⟩ := h2
    simp only [Option.bind_some, Sum.elim_inr, Bool.not_false]
    rw [decide_eq_true (by omega)]
def leOk : List UInt8 → Bool
  | [] => true
  | [c] => decide (97 ≤ c.toNat) && decide (c.toNat ≤ 122)
  | _ :: _ :: _ => false
def preOk (pre : List UInt8) (pn : Int) : Bool := (pre == [] && pn == 0) || decide (0 ≤ rk pre)
def okC (e : Int) (ns : List Int) (le pre : List UInt8) (pn rev : Int) : Bool :=
  !(decide (ns.length = 0) || decide (64 < ns.length)) && leOk le && preOk pre pn && (within e && (within pn && (within rev && ns.all within))) && !(decide (64 < (txt 1 e ns le pre pn rev).length))
theorem check_is (e : Int) (ns : List Int) (le pre : List UInt8) (pn rev : Int) (hn : ns.length ≤ 300) (hl : le.length ≤ 100) (hpl : pre.length ≤ 100) :
    vmap_Check e (iA ns) le pre pn rev = some (if okC e ns le pre pn rev then 0 else 11) := by
  apply vmap_Check_of
  unfold vmap_Check_E
  rw [room_of (by simp; omega) (by omega)]
  have e1 : [AV.int .i64 e, AV.int .i64 pn, AV.int .i64 rev] ++ iA ns = iA ([e, pn, rev] ++ ns) := by simp
  have hcf : slices_ContainsFunc_int_int_f62 ([AV.int .i64 e, AV.int .i64 pn, AV.int .i64 rev] ++ iA ns) = some (!(([e, pn, rev] ++ ns).all within)) := by rw [e1]; exact cf62_is _ (by simp; omega)
  have hle : cond (le == []) true (cond ((le.length : Int) == 1) (cond (!(Op.bytesLess le [97])) (Op.bytesLess le [122] || le == [122]) false) false) = leOk le := by
    cases le with
    | nil => rfl
    | cons c t =>
      cases t with
      | nil =>
        have h1 : Op.bytesLess [c] [97] = decide (c.toNat < 97) := by
          show (decide (c < 97) || (c == 97 && false)) = _
          rw [Bool.and_false, Bool.or_false]
          have : (c < 97) ↔ (c.toNat < 97) := UInt8.lt_iff_toNat_lt
          simp [this]
        have h2 : (Op.bytesLess [c] [122] || [c] == [122]) = decide (c.toNat ≤ 122) := by
          have e2 : Op.bytesLess [c] [122] = decide (c.toNat < 122) := by
            show (decide (c < 122) || (c == 122 && false)) = _
            rw [Bool.and_false, Bool.or_false]
            have : (c < 122) ↔ (c.toNat < 122) := UInt8.lt_iff_toNat_lt
            simp [this]
          have e3 : ([c] == ([122] : List UInt8)) = decide (c.toNat = 122) := by
            rw [Bool.eq_iff_iff, beq_iff_eq, decide_eq_true_iff]
            constructor
            · intro h; cases h; rfl
            · intro h
              have : c = 122 := UInt8.toNat_inj.1 h
              rw [this]
          rw [e2, e3]
          rw [Bool.eq_iff_iff, Bool.or_eq_true, decide_eq_true_iff, decide_eq_true_iff, decide_eq_true_iff]
          omega
        rw [h1, h2]
        have h3 : (!(decide (c.toNat < 97))) = decide (97 ≤ c.toNat) := by
          rw [Bool.eq_iff_iff, Bool.not_eq_true', decide_eq_false_iff_not, decide_eq_true_iff]; omega
        rw [h3]
        have h4 : (([c] : List UInt8) == []) = false := rfl
        have h5 : (((([c] : List UInt8).length : Nat) : Int) == 1) = true := rfl
        rw [h4, h5]
        show cond false true (cond true (cond (decide (97 ≤ c.toNat)) (decide (c.toNat ≤ 122)) false) false) = (decide (97 ≤ c.toNat) && decide (c.toNat ≤ 122))
        cases decide (97 ≤ c.toNat) <;> rfl
      | cons d t =>
        have h5 : ((((c :: d :: t).length : Nat) : Int) == 1) = false := by
          rw [beq_eq_false_iff_ne]; simp only [List.length_cons]; omega
        rw [h5]; rfl
  simp only [cond_some, Option.bind_some, pres_is, contains4, hcf, hle]
  have hpre : cond (cond (pre == []) (pn == 0) false) true (decide (0 ≤ rk pre)) = preOk pre pn := by
    unfold preOk
    cases pre == [] <;> cases pn == 0 <;> rfl
  rw [hpre]
  have hlen : cond (((iA ns).length : Int) == 0) true (decide ((64 : Int) < ((iA ns).length : Int))) = (decide (ns.length = 0) || decide (64 < ns.length)) := by
    rw [List.length_map]
    have h1 : ((ns.length : Int) == 0) = decide (ns.length = 0) := by
      rw [Bool.eq_iff_iff, beq_iff_eq, decide_eq_true_iff]; omega
    have h2 : decide ((64 : Int) < (ns.length : Int)) = decide (64 < ns.length) := by
      rw [Bool.eq_iff_iff, decide_eq_true_iff, decide_eq_true_iff]; omega
    rw [h1, h2]
    cases decide (ns.length = 0) <;> rfl
  rw [hlen]
  have hall : ([e, pn, rev] ++ ns).all within = (within e && (within pn && (within rev && ns.all within))) := by simp
  rw [hall]
  unfold okC
  cases (decide (ns.length = 0) || decide (64 < ns.length)) with
  | true => rfl
  | false =>
    cases leOk le with
    | false => rfl
    | true =>
      cases preOk pre pn with
      | false => rfl
      | true =>
        cases hw : (within e && (within pn && (within rev && ns.all within))) with
        | false => rfl
        | true =>
          simp only [Bool.and_eq_true] at hw
          rw [text_is 1 e ns le pre pn rev hn hw.2.2.2 hw.1 hw.2.1 hw.2.2.1 hl hpl]
          have h2 : decide ((64 : Int) < ((txt 1 e ns le pre pn rev).length : Int)) = decide (64 < (txt 1 e ns le pre pn rev).length) := by
            rw [Bool.eq_iff_iff, decide_eq_true_iff, decide_eq_true_iff]; omega
          simp only [Bool.not_true, cond_false, cond_true, Option.bind_some, h2, Bool.not_false, Bool.and_self, Bool.true_and]
          cases decide (64 < (txt 1 e ns le pre pn rev).length) <;> rfl
theorem rall_loop (e : Int) (ns : List Int) (le pre : List UInt8) (pn rev : Int) (hn : ns.length ≤ 300) : ∀ (l : List Int) (i : Nat), ns.drop i = l →
    drayageref13_Check_l4 (i : Int) e (iA ns) le pre pn rev = some (if l.all within then Sum.inl (e, iA ns, le, pre, pn, rev) else Sum.inr (11, (e, iA ns, le, pre, pn, rev)))
  | [], i, h => by
    have hd : (iA ns).drop i = [] := by rw [← List.map_drop, h]; rfl
    apply drayageref13_Check_l4_of
    unfold drayageref13_Check_l4_E
    rw [out_dec hd]; rfl
  | n :: t, i, h => by
    obtain ⟨h1, h2, h3, h4⟩ := drop_cons h
    have hd : (iA ns).drop i = AV.int .i64 n :: iA t := by rw [← List.map_drop, h]; rfl
    have ih := rall_loop e ns le pre pn rev hn t (i + 1) h3
    apply drayageref13_Check_l4_of
    unfold drayageref13_Check_l4_E
    rw [in_dec hd, getL_of hd, wr_succ (by omega), ih]
    simp only [dInt, cond_true, if_true, rnumber_is, Option.bind_some]
    rw [List.all_cons]
    cases within n <;> rfl
theorem rcheck_is (e : Int) (ns : List Int) (le pre : List UInt8) (pn rev : Int) (hn : ns.length ≤ 300) (hl : le.length ≤ 100) (hpl : pre.length ≤ 100) :
    drayageref13_Check e (iA ns) le pre pn rev = some (if okC e ns le pre pn rev then 0 else 11) := by
  apply drayageref13_Check_of
  unfold drayageref13_Check_E
  have h4 : drayageref13_Check_l4 0 e (iA ns) le pre pn rev = _ := rall_loop e ns le pre pn rev hn ns 0 rfl
  simp only [cond_some, Option.bind_some, rnumber_is, rank_is, h4]
  have hlen : cond (decide (((iA ns).length : Int) < 1)) true (decide ((64 : Int) < ((iA ns).length : Int))) = (decide (ns.length = 0) || decide (64 < ns.length)) := by
    rw [List.length_map]
    have h1 : decide ((ns.length : Int) < 1) = decide (ns.length = 0) := by
      rw [Bool.eq_iff_iff, decide_eq_true_iff, decide_eq_true_iff]; omega
    have h2 : decide ((64 : Int) < (ns.length : Int)) = decide (64 < ns.length) := by
      rw [Bool.eq_iff_iff, decide_eq_true_iff, decide_eq_true_iff]; omega
    rw [h1, h2]
    cases decide (ns.length = 0) <;> rfl
  rw [hlen]
  have hpre : (cond (decide ((if pre = [] then 4 else rk pre) < 0)) true (cond (pre == []) (pn != 0) false)) = !(preOk pre pn) := by
    unfold preOk
    by_cases hp : pre = []
    · subst hp
      rw [if_pos rfl, rk_nil]
      have : ((pn != 0) : Bool) = !(pn == 0) := rfl
      rw [this]
      cases pn == 0 <;> rfl
    · rw [if_neg hp]
      have : (pre == ([] : List UInt8)) = false := by simpa using hp
      rw [this]
      by_cases h0 : 0 ≤ rk pre
      · rw [decide_eq_true h0, decide_eq_false (by omega)]; rfl
      · rw [decide_eq_false h0, decide_eq_true (by omega)]; rfl
  unfold okC
  cases hb : (decide (ns.length = 0) || decide (64 < ns.length)) with
  | true => rfl
  | false =>
    cases he : within e with
    | false =>
      simp only [Bool.not_false, Bool.not_true, cond_true, cond_false, Bool.false_and, Bool.and_false, Bool.false_eq_true, if_false]
    | true =>
      cases hp : within pn with
      | false => simp only [Bool.not_false, Bool.not_true, cond_true, cond_false, Bool.false_and, Bool.and_false, Bool.false_eq_true, if_false]
      | true =>
        cases hr : within rev with
        | false => simp only [Bool.not_false, Bool.not_true, cond_true, cond_false, Bool.false_and, Bool.and_false, Bool.false_eq_true, if_false]
        | true =>
          simp only [Bool.not_true, cond_false]
          rw [hpre]
          cases hq : preOk pre pn with
          | false => simp only [Bool.not_false, cond_true, Bool.and_false, Bool.false_and, Bool.false_eq_true, if_false]
          | true =>
            simp only [Bool.not_true, cond_false, Bool.not_false, Bool.true_and, Bool.and_true]
            cases ha : ns.all within with
            | false => simp only [Bool.false_eq_true, if_false, Sum.elim_inr, Bool.and_false, Bool.false_and]
            | true =>
              simp only [if_true, Sum.elim_inl, Bool.and_true]
              have hn64 : ns.length ≤ 64 := by
                simp only [Bool.or_eq_false_iff, decide_eq_false_iff_not] at hb; omega
              rw [rtext_is 1 e ns le pre pn rev hn64 ha he hp hr hl hpl]
              have h2 : decide ((64 : Int) < ((txt 1 e ns le pre pn rev).length : Int)) = decide (64 < (txt 1 e ns le pre pn rev).length) := by
                rw [Bool.eq_iff_iff, decide_eq_true_iff, decide_eq_true_iff]; omega
              simp only [Option.bind_some, h2]
              have hle : ∀ K : Bool → Option Int, ((cond (decide ((1 : Int) < (le.length : Int))) (some true) (cond ((le.length : Int) == 1) (idxS le 0 fun c30 => (cond (decide ((UInt8.toNat c30 : Int) < 97)) (some true) (idxS le 0 fun c31 => (some (decide ((122 : Int) < (UInt8.toNat c31 : Int))))))) (some false))).bind K) = K (!(leOk le)) := by
                intro K
                cases le with
                | nil => rfl
                | cons c t =>
                  cases t with
                  | nil =>
                    simp only [idxS_zero]
                    have h1 : decide ((UInt8.toNat c : Int) < 97) = !(decide (97 ≤ c.toNat)) := by
                      rw [Bool.eq_iff_iff, Bool.not_eq_true', decide_eq_false_iff_not, decide_eq_true_iff]; omega
                    have h2 : decide ((122 : Int) < (UInt8.toNat c : Int)) = !(decide (c.toNat ≤ 122)) := by
                      rw [Bool.eq_iff_iff, Bool.not_eq_true', decide_eq_false_iff_not, decide_eq_true_iff]; omega
                    rw [h1, h2]
                    have h4 : leOk [c] = (decide (97 ≤ c.toNat) && decide (c.toNat ≤ 122)) := rfl
                    rw [h4]
                    cases decide (97 ≤ c.toNat) <;> cases decide (c.toNat ≤ 122) <;> rfl
                  | cons d t =>
                    rw [decide_eq_true (by simp only [List.length_cons]; omega)]
                    rfl
              rw [hle]
              cases leOk le <;> cases decide (64 < (txt 1 e ns le pre pn rev).length) <;> rfl
end Go.Proofs.YtlgpcmklpknmcaaDoor
 end
