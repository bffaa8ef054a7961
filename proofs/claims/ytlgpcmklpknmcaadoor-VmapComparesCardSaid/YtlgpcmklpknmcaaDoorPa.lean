/- Small laws of the plain texts: places in lists, numbers that fit.
   Comparisons that order: numbers, bytes, lists, lists with nothing behind them.
   What the small functions tell: digits, letters, names.
   Numbers, words, digits: what the versions' translation is made of. -/
import Derived.Test.YtlgpcmklpknmcaaDoorEk
import Derived.IntWalk
import Derived.Lib.IndexLaws
import Derived.Test.YtlgpcmklpknmcaaDoorYc
 section
set_option linter.unusedVariables false
namespace Go.Eng
open Go
variable {R : Type}

theorem cond_some {α : Type} (b : Bool) (x y : α) : (cond b (some x) (some y)) = some (cond b x y) := by cases b <;> rfl
theorem cond_and (b c : Bool) : cond b c false = (b && c) := by cases b <;> rfl
theorem cond_or (b c : Bool) : cond b true c = (b || c) := by cases b <;> rfl
theorem cond_nand (b c : Bool) : cond b false c = (!b && c) := by cases b <;> rfl
theorem cond_nor (b c : Bool) : cond b c true = (!b || c) := by cases b <;> rfl

theorem drop_cons {α : Type} {s : List α} {i : Nat} {c : α} {t : List α} (h : s.drop i = c :: t) : i < s.length ∧ s[i]? = some c ∧ s.drop (i + 1) = t ∧ s.length = i + 1 + t.length := by
  have h1 : i < s.length := by
    have := congrArg List.length h
    rw [List.length_drop, List.length_cons] at this
    omega
  have h2 : s.length = i + 1 + t.length := by
    have := congrArg List.length h
    rw [List.length_drop, List.length_cons] at this
    omega
  refine ⟨h1, ?_, ?_, h2⟩
  · have := congrArg List.head? h
    rw [List.head?_drop] at this
    exact this
  · have := congrArg List.tail h
    rw [List.tail_drop] at this
    exact this
theorem drop_nil {α : Type} {s : List α} {i : Nat} (h : s.drop i = []) : s.length ≤ i := List.drop_eq_nil_iff.1 h

theorem idxS_of {s : List UInt8} {i : Nat} {c : UInt8} {t} (h : s.drop i = c :: t) (K : UInt8 → Option R) : idxS s (i : Int) K = K c := by
  obtain ⟨h1, h2, _, _⟩ := drop_cons h
  unfold idxS
  rw [if_pos ⟨by omega, by omega⟩]
  rw [Int.toNat_natCast, h2]
theorem idxS_get {s : List UInt8} {i : Nat} {c : UInt8} (h : s[i]? = some c) (K : UInt8 → Option R) : idxS s (i : Int) K = K c := by
  have h1 : i < s.length := (List.getElem?_eq_some_iff.1 h).1
  unfold idxS
  rw [if_pos ⟨by omega, by omega⟩]
  rw [Int.toNat_natCast, h]
theorem idxS_zero {c : UInt8} {t} (K : UInt8 → Option R) : idxS (c :: t) 0 K = K c := idxS_of (i := 0) (s := c :: t) rfl K
theorem getL_of {s : List AV} {i : Nat} {c : AV} {t} (h : s.drop i = c :: t) (K : AV → Option R) : getL s (i : Int) K = K c := by
  obtain ⟨h1, h2, _, _⟩ := drop_cons h
  unfold getL
  rw [if_pos ⟨by omega, by omega⟩]
  rw [Int.toNat_natCast, h2]
theorem getL_get {s : List AV} {i : Nat} {c : AV} (h : s[i]? = some c) (K : AV → Option R) : getL s (i : Int) K = K c := by
  have h1 : i < s.length := (List.getElem?_eq_some_iff.1 h).1
  unfold getL
  rw [if_pos ⟨by omega, by omega⟩]
  rw [Int.toNat_natCast, h]
theorem cutS_of {s : List UInt8} {a b : Nat} (h : a ≤ b) (hb : b ≤ s.length) (K : List UInt8 → Option R) : cutS s (a : Int) (b : Int) K = K ((s.take b).drop a) := by
  unfold cutS
  rw [if_pos ⟨by omega, by omega, by omega⟩, Int.toNat_natCast, Int.toNat_natCast]
theorem cutS_from {s : List UInt8} {a : Nat} (h : a ≤ s.length) (K : List UInt8 → Option R) : cutS s (a : Int) (s.length : Int) K = K (s.drop a) := by
  rw [cutS_of h (Nat.le_refl _), List.take_length]
theorem cutS_to {s : List UInt8} {b : Nat} (hb : b ≤ s.length) (K : List UInt8 → Option R) : cutS s 0 (b : Int) K = K (s.take b) := by
  have := cutS_of (s := s) (a := 0) (b := b) (by omega) hb K
  rw [List.drop_zero] at this
  exact this
theorem cutL_of {s : List AV} {a b : Nat} (h : a ≤ b) (hb : b ≤ s.length) (K : List AV → Option R) : cutL s (a : Int) (b : Int) K = K ((s.take b).drop a) := by
  unfold cutL
  rw [if_pos ⟨by omega, by omega, by omega⟩, Int.toNat_natCast, Int.toNat_natCast]
theorem in_dec {α : Type} {s : List α} {i : Nat} {c : α} {t} (h : s.drop i = c :: t) : decide ((i : Int) < (s.length : Int)) = true := by
  have := (drop_cons h).1
  exact decide_eq_true (by omega)
theorem out_dec {α : Type} {s : List α} {i : Nat} (h : s.drop i = []) : decide ((i : Int) < (s.length : Int)) = false := by
  have := drop_nil h
  exact decide_eq_false (by omega)
theorem wr {x : Int} (h : -9223372036854775808 ≤ x ∧ x ≤ 9223372036854775807) : IntKind.wrap .i64 x = x := IntWalk.i64_in x h
theorem wr_succ {i : Nat} (h : i ≤ 4611686018427387904) : IntKind.wrap .i64 ((i : Int) + 1) = ((i + 1 : Nat) : Int) := by
  rw [wr (by omega)]; omega
theorem wr_pred {i : Nat} (h : i ≤ 4611686018427387904) : IntKind.wrap .i64 (((i + 1 : Nat) : Int) - 1) = (i : Int) := by
  rw [wr (by omega)]; omega
theorem wr_add {i j : Nat} (h : i ≤ 4611686018427387904) (h2 : j ≤ 2305843009213693952) : IntKind.wrap .i64 ((i : Int) + (j : Int)) = ((i + j : Nat) : Int) := by
  rw [wr (by omega)]; omega
theorem room_of {n bytes : Nat} (h : n ≤ 100000) (hb : bytes ≤ 1024) (K : Option R) : roomL n bytes K = K := by
  unfold roomL
  rw [if_pos]
  refine ⟨?_, by omega⟩
  calc (2 * n + 1024) * bytes ≤ (2 * 100000 + 1024) * 1024 := Nat.mul_le_mul (by omega) hb
    _ ≤ _ := by decide
theorem byte_back (c : UInt8) : UInt8.ofNat (Int.toNat (UInt8.toNat c : Int)) = c := by simp
theorem byte_eq (c : UInt8) (n : Nat) (h : n < 256) : ((UInt8.toNat c : Int) == (n : Int)) = (c == UInt8.ofNat n) := by
  rw [Bool.eq_iff_iff, beq_iff_eq, beq_iff_eq]
  constructor
  · intro e
    apply UInt8.toNat_inj.1
    simp only [UInt8.toNat_ofNat']
    omega
  · intro e
    subst e
    simp only [UInt8.toNat_ofNat']
    omega
theorem byte_beq (c d : UInt8) : ((UInt8.toNat c : Int) == (UInt8.toNat d : Int)) = (c == d) := by
  rw [Bool.eq_iff_iff, beq_iff_eq, beq_iff_eq]
  constructor
  · intro e
    apply UInt8.toNat_inj.1
    omega
  · intro e
    rw [e]
/-- The last place of a byte among the first so many. -/
def lastAt (s : List UInt8) (b : UInt8) : Nat → Int
  | 0 => -1
  | k + 1 => if s[k]? = some b then k else lastAt s b k
theorem lastAt_succ (s : List UInt8) (b : UInt8) (k : Nat) : lastAt s b (k + 1) = if s[k]? = some b then (k : Int) else lastAt s b k := rfl
theorem lastAt_le (s : List UInt8) (b : UInt8) : ∀ k, lastAt s b k < k
  | 0 => by unfold lastAt; omega
  | k + 1 => by
    unfold lastAt
    have := lastAt_le s b k
    split <;> omega
theorem lastAt_ge (s : List UInt8) (b : UInt8) : ∀ k, -1 ≤ lastAt s b k
  | 0 => by unfold lastAt; omega
  | k + 1 => by
    unfold lastAt
    have := lastAt_ge s b k
    split <;> omega
theorem indexByte_has (l : List UInt8) (c : UInt8) : decide (Lib.indexByte l c < 0) = !(l.contains c) := by
  induction l with
  | nil => rfl
  | cons b l ih =>
    have g := Lib.indexByte_ge l c
    unfold Lib.indexByte
    rw [List.contains_cons]
    by_cases h : (b == c) = true
    · have h2 : (c == b) = true := by rw [beq_iff_eq] at h ⊢; exact h.symm
      rw [if_pos h, h2]
      rfl
    · have h2 : (c == b) = false := by
        rw [Bool.eq_false_iff]; intro e; apply h; rw [beq_iff_eq] at e ⊢; exact e.symm
      rw [if_neg h, h2, Bool.false_or, ← ih]
      by_cases h3 : (Lib.indexByte l c == -1) = true
      · rw [if_pos h3]
        rw [beq_iff_eq] at h3
        rw [h3]
      · rw [if_neg h3]
        have h4 : Lib.indexByte l c ≠ -1 := by simpa using h3
        rw [decide_eq_false (by omega), decide_eq_false (by omega)]
/-- Digits and letters. -/
def dig (a : Int) : Bool := decide ((48 : Int) ≤ a) && decide (a ≤ 57)
def lit (a : Int) : Bool := (decide ((97 : Int) ≤ a) && decide (a ≤ 122)) || (decide ((65 : Int) ≤ a) && decide (a ≤ 90))
def dg (c : UInt8) : Bool := dig (UInt8.toNat c : Int)
def lt (c : UInt8) : Bool := lit (UInt8.toNat c : Int)
end Go.Eng
 end

 section
set_option linter.unusedVariables false
set_option linter.unusedSimpArgs false
namespace Go.Eng
open Go

/-- A comparison by -1, 0, 1 that orders. -/
structure Ordd {α : Type} (c : α → α → Int) : Prop where
  val : ∀ a b, c a b = -1 ∨ c a b = 0 ∨ c a b = 1
  anti : ∀ a b, c b a = 0 - c a b
  tr : ∀ a b d, c a b ≤ 0 → c b d ≤ 0 → c a d ≤ 0 ∧ (c a d = 0 → c a b = 0 ∧ c b d = 0)
def thn (a b : Int) : Int := if a = 0 then b else a
theorem thn_zero (b : Int) : thn 0 b = b := if_pos rfl
theorem thn_ne {a : Int} (h : a ≠ 0) (b : Int) : thn a b = a := if_neg h
theorem dropWhile_le {α : Type} (p : α → Bool) : ∀ l : List α, (l.dropWhile p).length ≤ l.length
  | [] => Nat.le_refl _
  | a :: l => by
    rw [List.dropWhile_cons]
    have := dropWhile_le p l
    split <;> simp <;> omega
theorem Ordd.refl {α : Type} {c : α → α → Int} (h : Ordd c) (a : α) : c a a = 0 := by
  have := h.anti a a; omega
theorem Ordd.comap {α β : Type} {c : β → β → Int} (h : Ordd c) (f : α → β) : Ordd fun a b => c (f a) (f b) :=
  ⟨fun a b => h.val _ _, fun a b => h.anti _ _, fun a b d => h.tr _ _ _⟩
theorem Ordd.thn {α : Type} {c d : α → α → Int} (h : Ordd c) (k : Ordd d) : Ordd fun a b => thn (c a b) (d a b) where
  val a b := by
    have := h.val a b; have := k.val a b
    unfold Eng.thn; split <;> assumption
  anti a b := by
    have h1 := h.anti a b; have h2 := k.anti a b
    unfold Eng.thn
    by_cases e : c a b = 0
    · rw [if_pos e, if_pos (by omega)]; exact h2
    · rw [if_neg e, if_neg (by omega)]; exact h1
  tr a b x := by
    have h1 := h.tr a b x
    have h2 := k.tr a b x
    unfold Eng.thn
    intro p q
    by_cases e1 : c a b = 0
    · rw [if_pos e1] at p
      rw [if_pos e1]
      by_cases e2 : c b x = 0
      · rw [if_pos e2] at q
        rw [if_pos e2]
        have h3 := h.tr x b a
        have a1 := h.anti a b; have a2 := h.anti b x; have a3 := h.anti a x
        have e3 : c a x = 0 := by
          have := h1 (by omega) (by omega); have := h3 (by omega) (by omega); omega
        rw [if_pos e3]
        exact h2 p q
      · rw [if_neg e2] at q
        rw [if_neg e2]
        have g := h1 (by omega) q
        have : c a x ≠ 0 := fun e => e2 (g.2 e).2
        rw [if_neg this]
        exact ⟨g.1, fun e => absurd e this⟩
    · rw [if_neg e1] at p
      rw [if_neg e1]
      have q' : c b x ≤ 0 := by
        by_cases e2 : c b x = 0
        · omega
        · rw [if_neg e2] at q; exact q
      have g := h1 p q'
      have : c a x ≠ 0 := fun e => e1 (g.2 e).1
      rw [if_neg this]
      exact ⟨g.1, fun e => absurd e this⟩
/-- Numbers. -/
def icmp (a b : Int) : Int := if a < b then -1 else if b < a then 1 else 0
theorem icmp_cases (x y : Int) : (x < y ∧ icmp x y = -1) ∨ (y < x ∧ icmp x y = 1) ∨ (x = y ∧ icmp x y = 0) := by
  unfold icmp
  by_cases h : x < y
  · rw [if_pos h]; omega
  · rw [if_neg h]
    by_cases h2 : y < x
    · rw [if_pos h2]; omega
    · rw [if_neg h2]; omega
theorem icmp_ord : Ordd icmp where
  val a b := by
    unfold icmp
    split
    · simp
    · split <;> simp
  anti a b := by
    have e : ∀ x y : Int, (x < y ∧ icmp x y = -1) ∨ (y < x ∧ icmp x y = 1) ∨ (x = y ∧ icmp x y = 0) := icmp_cases
    have := e a b; have := e b a
    omega
  tr a b d := by
    have := icmp_cases a b; have := icmp_cases b d; have := icmp_cases a d
    omega
/-- Lists: the first place where they part; a beginning is less. -/
def lcmp {α : Type} (c : α → α → Int) : List α → List α → Int
  | [], [] => 0
  | [], _ :: _ => -1
  | _ :: _, [] => 1
  | x :: xs, y :: ys => thn (c x y) (lcmp c xs ys)
theorem lcmp_ord {α : Type} {c : α → α → Int} (h : Ordd c) : Ordd (lcmp c) where
  val a b := by
    induction a generalizing b with
    | nil => cases b <;> simp [lcmp]
    | cons x xs ih =>
      cases b with
      | nil => simp [lcmp]
      | cons y ys =>
        have := h.val x y; have := ih ys
        simp only [lcmp, thn]; split <;> assumption
  anti a b := by
    induction a generalizing b with
    | nil => cases b <;> simp [lcmp]
    | cons x xs ih =>
      cases b with
      | nil => simp [lcmp]
      | cons y ys =>
        have h1 := h.anti x y; have h2 := ih ys
        simp only [lcmp, thn]
        by_cases e : c x y = 0
        · rw [if_pos e, if_pos (by omega)]; exact h2
        · rw [if_neg e, if_neg (by omega)]; exact h1
  tr a b d := by
    induction a generalizing b d with
    | nil =>
      cases b with
      | nil => cases d <;> simp [lcmp]
      | cons y ys => cases d <;> simp [lcmp]
    | cons x xs ih =>
      cases b with
      | nil => simp [lcmp]
      | cons y ys =>
        cases d with
        | nil => simp [lcmp]
        | cons z zs =>
          have h1 := h.tr x y z
          have h3 := h.tr z y x
          have h2 := ih ys zs
          have a1 := h.anti x y; have a2 := h.anti y z; have a3 := h.anti x z
          simp only [lcmp, thn]
          intro p q
          by_cases e1 : c x y = 0
          · rw [if_pos e1] at p ⊢
            by_cases e2 : c y z = 0
            · rw [if_pos e2] at q ⊢
              have e3 : c x z = 0 := by have := h1 (by omega) (by omega); have := h3 (by omega) (by omega); omega
              rw [if_pos e3]
              exact h2 p q
            · rw [if_neg e2] at q ⊢
              have g := h1 (by omega) q
              have : c x z ≠ 0 := fun e => e2 (g.2 e).2
              rw [if_neg this]
              exact ⟨g.1, fun e => absurd e this⟩
          · rw [if_neg e1] at p ⊢
            have q' : c y z ≤ 0 := by
              by_cases e2 : c y z = 0
              · omega
              · rw [if_neg e2] at q; exact q
            have g := h1 p q'
            have : c x z ≠ 0 := fun e => e1 (g.2 e).1
            rw [if_neg this]
            exact ⟨g.1, fun e => absurd e this⟩
/-- Lists with an endless row of one thing behind them. -/
def pcmp {α : Type} (c : α → α → Int) (z : α) : List α → List α → Int
  | [], [] => 0
  | [], y :: ys => thn (c z y) (pcmp c z [] ys)
  | x :: xs, [] => thn (c x z) (pcmp c z xs [])
  | x :: xs, y :: ys => thn (c x y) (pcmp c z xs ys)
theorem pcmp_step {α : Type} {c : α → α → Int} (h : Ordd c) (z : α) (xs ys : List α) : pcmp c z xs ys = thn (c (xs.headD z) (ys.headD z)) (pcmp c z xs.tail ys.tail) := by
  cases xs <;> cases ys <;> simp [pcmp, h.refl, thn]
theorem pcmp_ord {α : Type} {c : α → α → Int} (h : Ordd c) (z : α) : Ordd (pcmp c z) := by
  have H : ∀ n : Nat, (∀ a b : List α, a.length ≤ n → b.length ≤ n → (pcmp c z a b = -1 ∨ pcmp c z a b = 0 ∨ pcmp c z a b = 1) ∧ pcmp c z b a = 0 - pcmp c z a b) ∧
      ∀ a b d : List α, a.length ≤ n → b.length ≤ n → d.length ≤ n → pcmp c z a b ≤ 0 → pcmp c z b d ≤ 0 → pcmp c z a d ≤ 0 ∧ (pcmp c z a d = 0 → pcmp c z a b = 0 ∧ pcmp c z b d = 0) := by
    intro n
    induction n with
    | zero =>
      refine ⟨fun a b ha hb => ?_, fun a b d ha hb hd => ?_⟩
      · obtain rfl := List.length_eq_zero_iff.1 (Nat.le_zero.1 ha)
        obtain rfl := List.length_eq_zero_iff.1 (Nat.le_zero.1 hb)
        simp [pcmp]
      · obtain rfl := List.length_eq_zero_iff.1 (Nat.le_zero.1 ha)
        obtain rfl := List.length_eq_zero_iff.1 (Nat.le_zero.1 hb)
        obtain rfl := List.length_eq_zero_iff.1 (Nat.le_zero.1 hd)
        simp [pcmp]
    | succ n ih =>
      have tl : ∀ {a : List α}, a.length ≤ n + 1 → a.tail.length ≤ n := fun {a} ha => by rw [List.length_tail]; omega
      refine ⟨fun a b ha hb => ?_, fun a b d ha hb hd => ?_⟩
      · obtain ⟨i1, i2⟩ := ih.1 a.tail b.tail (tl ha) (tl hb)
        rw [pcmp_step h z a b, pcmp_step h z b a]
        have v := h.val (a.headD z) (b.headD z)
        have w := h.anti (a.headD z) (b.headD z)
        unfold thn
        constructor
        · split <;> assumption
        · by_cases e : c (a.headD z) (b.headD z) = 0
          · rw [if_pos e, if_pos (by omega)]; exact i2
          · rw [if_neg e, if_neg (by omega)]; exact w
      · rw [pcmp_step h z a b, pcmp_step h z b d, pcmp_step h z a d]
        have h1 := h.tr (a.headD z) (b.headD z) (d.headD z)
        have h3 := h.tr (d.headD z) (b.headD z) (a.headD z)
        have h2 := ih.2 a.tail b.tail d.tail (tl ha) (tl hb) (tl hd)
        have a1 := h.anti (a.headD z) (b.headD z); have a2 := h.anti (b.headD z) (d.headD z); have a3 := h.anti (a.headD z) (d.headD z)
        unfold thn
        intro p q
        by_cases e1 : c (a.headD z) (b.headD z) = 0
        · rw [if_pos e1] at p ⊢
          by_cases e2 : c (b.headD z) (d.headD z) = 0
          · rw [if_pos e2] at q ⊢
            have e3 : c (a.headD z) (d.headD z) = 0 := by have := h1 (by omega) (by omega); have := h3 (by omega) (by omega); omega
            rw [if_pos e3]
            exact h2 p q
          · rw [if_neg e2] at q ⊢
            have g := h1 (by omega) q
            have : c (a.headD z) (d.headD z) ≠ 0 := fun e => e2 (g.2 e).2
            rw [if_neg this]
            exact ⟨g.1, fun e => absurd e this⟩
        · rw [if_neg e1] at p ⊢
          have q' : c (b.headD z) (d.headD z) ≤ 0 := by
            by_cases e2 : c (b.headD z) (d.headD z) = 0
            · omega
            · rw [if_neg e2] at q; exact q
          have g := h1 p q'
          have : c (a.headD z) (d.headD z) ≠ 0 := fun e => e1 (g.2 e).1
          rw [if_neg this]
          exact ⟨g.1, fun e => absurd e this⟩
  refine ⟨fun a b => ((H (max a.length b.length)).1 a b (Nat.le_max_left _ _) (Nat.le_max_right _ _)).1, fun a b => ((H (max a.length b.length)).1 a b (Nat.le_max_left _ _) (Nat.le_max_right _ _)).2, fun a b d => ?_⟩
  exact (H (max a.length (max b.length d.length))).2 a b d (by omega) (by omega) (by omega)
/-- Bytes. -/
def ucmp (a b : UInt8) : Int := icmp (a.toNat : Int) (b.toNat : Int)
theorem ucmp_ord : Ordd ucmp := icmp_ord.comap fun a : UInt8 => (a.toNat : Int)
def bcmp (a b : List UInt8) : Int := lcmp ucmp a b
theorem bcmp_ord : Ordd bcmp := lcmp_ord ucmp_ord
theorem bcmp_eq : ∀ a b : List UInt8, bcmp a b = cond (Op.bytesLess a b) (-1) (cond (!(Op.bytesLess a b || a == b)) 1 0)
  | [], [] => rfl
  | [], _ :: _ => rfl
  | _ :: _, [] => rfl
  | a :: x, b :: y => by
    have ih := bcmp_eq x y
    unfold bcmp at ih ⊢
    rw [lcmp, ih]
    unfold ucmp icmp thn
    have e1 : Op.bytesLess (a :: x) (b :: y) = (decide (a < b) || (a == b && Op.bytesLess x y)) := rfl
    have e2 : ((a :: x) == (b :: y)) = (a == b && x == y) := rfl
    rw [e1, e2]
    by_cases h1 : a < b
    · have : (a.toNat : Int) < (b.toNat : Int) := by have := UInt8.lt_iff_toNat_lt.1 h1; omega
      rw [if_pos this, decide_eq_true h1]; rfl
    · have h1' : ¬ (a.toNat : Int) < (b.toNat : Int) := fun e => h1 (UInt8.lt_iff_toNat_lt.2 (by omega))
      rw [if_neg h1', decide_eq_false h1]
      by_cases h2 : a = b
      · subst h2
        rw [if_neg h1']
        simp
      · have h3 : (b.toNat : Int) < (a.toNat : Int) := by
          have : a.toNat ≠ b.toNat := fun e => h2 (UInt8.toNat_inj.1 e)
          omega
        rw [if_pos h3]
        have : (a == b) = false := by simpa using h2
        rw [this]; rfl
end Go.Eng
 end

 section
set_option linter.unusedVariables false
set_option linter.unusedSimpArgs false
namespace Go.Proofs.YtlgpcmklpknmcaaDoor
open Go Go.Eng Go.Proofs

theorem version_digit_is (a : Int) : version_digit a = some (dig a) := by
  apply version_digit_of
  unfold version_digit_E
  simp only [cond_some, Option.bind_some, cond_and]
  rfl
theorem version_letter_is (a : Int) : version_letter a = some (lit a) := by
  apply version_letter_of
  unfold version_letter_E
  simp only [cond_some, Option.bind_some, cond_and, cond_or]
  rfl
theorem strings_IndexByte_is (s : List UInt8) (c : UInt8) : strings_IndexByte s (UInt8.toNat c : Int) = some (Lib.indexByte s c) := by
  apply strings_IndexByte_of
  unfold strings_IndexByte_E
  rw [i_stringslite_IndexByte_of (w := Lib.indexByte s c) (by unfold i_stringslite_IndexByte_E; rw [byte_back])]
  rfl
theorem i_stringslite_IndexByte_is (s : List UInt8) (c : UInt8) : i_stringslite_IndexByte s (UInt8.toNat c : Int) = some (Lib.indexByte s c) :=
  i_stringslite_IndexByte_of (by unfold i_stringslite_IndexByte_E; rw [byte_back])

theorem version_number_loop (s : List UInt8) (hs : s.length ≤ 4611686018427387904) : ∀ (l : List UInt8) (i : Nat), i ≤ s.length → s.drop i = l →
    version_number_l2 s i = some (s, ((i + (l.takeWhile dg).length : Nat) : Int))
  | [], i, hi, h => by
    apply version_number_l2_of
    unfold version_number_l2_E
    rw [out_dec h]
    rfl
  | c :: t, i, hi, h => by
    obtain ⟨h1, h2, h3, h4⟩ := drop_cons h
    apply version_number_l2_of
    unfold version_number_l2_E
    rw [in_dec h, idxS_of h, version_digit_is, wr_succ (by omega), version_number_loop s hs t (i + 1) (by omega) h3]
    rw [List.takeWhile_cons]
    simp only [Option.bind_some, cond_true]
    by_cases hd : dg c = true
    · rw [hd]
      have : dig (UInt8.toNat c : Int) = true := hd
      rw [this]
      simp only [cond_true, if_true, List.length_cons]
      rw [Nat.add_right_comm, Nat.add_assoc]
    · have hd' : dg c = false := by simpa using hd
      have : dig (UInt8.toNat c : Int) = false := hd'
      rw [hd', this]
      rfl
theorem takeWhile_le {α : Type} (p : α → Bool) : ∀ l : List α, (l.takeWhile p).length ≤ l.length
  | [] => Nat.le_refl _
  | a :: l => by
    rw [List.takeWhile_cons]
    have := takeWhile_le p l
    split <;> simp <;> omega
theorem take_takeWhile {α : Type} (p : α → Bool) : ∀ l : List α, l.take (l.takeWhile p).length = l.takeWhile p
  | [] => rfl
  | a :: l => by
    rw [List.takeWhile_cons]
    have := take_takeWhile p l
    split
    · rw [List.length_cons, List.take_succ_cons, this]
    · rfl
theorem drop_takeWhile {α : Type} (p : α → Bool) : ∀ l : List α, l.drop (l.takeWhile p).length = l.dropWhile p
  | [] => rfl
  | a :: l => by
    rw [List.takeWhile_cons, List.dropWhile_cons]
    have := drop_takeWhile p l
    split
    · rw [List.length_cons, List.drop_succ_cons, this]
    · rfl
theorem version_number_is (s : List UInt8) (hs : s.length ≤ 4611686018427387904) : version_number s = some (s.takeWhile dg, s.dropWhile dg) := by
  apply version_number_of
  unfold version_number_E
  have h := version_number_loop s hs s 0 (by omega) rfl
  rw [Nat.zero_add] at h
  have h' : version_number_l2 s 0 = some (s, ((s.takeWhile dg).length : Int)) := h
  rw [h']
  have hl := takeWhile_le dg s
  simp only [Option.bind_some]
  rw [cutS_to hl, cutS_from hl, take_takeWhile, drop_takeWhile]

/-- Of letters, digits and others. -/
def mk (others : List UInt8) (c : UInt8) : Bool := dg c || lt c || others.contains c
theorem vmade_loop (s o : List UInt8) (hs : s.length ≤ 4611686018427387904) : ∀ (l : List UInt8) (i : Nat), i ≤ s.length → s.drop i = l →
    version_made_l2 s o i = some (if l.all (mk o) then Sum.inl s else Sum.inr false)
  | [], i, hi, h => by
    apply version_made_l2_of
    unfold version_made_l2_E
    rw [out_dec h]
    rfl
  | d :: t, i, hi, h => by
    obtain ⟨h1, h2, h3, h4⟩ := drop_cons h
    apply version_made_l2_of
    unfold version_made_l2_E
    rw [in_dec h, idxS_of h]
    simp only [idxS_of h, version_digit_is, version_letter_is, strings_IndexByte_is, Option.bind_some, cond_some, cond_true]
    rw [wr_succ (by omega), vmade_loop s o hs t (i + 1) (by omega) h3, indexByte_has, List.all_cons]
    have e1 : dig (UInt8.toNat d : Int) = dg d := rfl
    have e2 : lit (UInt8.toNat d : Int) = lt d := rfl
    rw [e1, e2]
    unfold mk
    cases dg d <;> cases lt d <;> cases o.contains d <;> simp
theorem vmade_is (s o : List UInt8) (hs : s.length ≤ 4611686018427387904) : version_made s o = some (s.all (mk o) && !(s == [])) := by
  apply version_made_of
  unfold version_made_E
  have h := vmade_loop s o hs s 0 (by omega) rfl
  have h' : version_made_l2 s o 0 = _ := h
  rw [h']
  cases s.all (mk o) <;> rfl
theorem nonempty_is (s : List UInt8) : decide ((0 : Int) < (s.length : Int)) = !(s == []) := by
  cases s with
  | nil => rfl
  | cons a s =>
    rw [decide_eq_true (by rw [List.length_cons]; omega)]
    rfl
/-- The last place of a byte. -/
theorem last_loop (s : List UInt8) (b : UInt8) (hs : s.length ≤ 4611686018427387904) : ∀ k : Nat, k ≤ s.length →
    i_bytealg_LastIndexByteString_l2 s (UInt8.toNat b : Int) ((k : Int) - 1) = some (if lastAt s b k = -1 then Sum.inl () else Sum.inr (lastAt s b k))
  | 0, _ => by
    apply i_bytealg_LastIndexByteString_l2_of
    unfold i_bytealg_LastIndexByteString_l2_E
    rfl
  | k + 1, hk => by
    have e : (((k + 1 : Nat) : Int) - 1) = (k : Int) := by omega
    rw [e]
    apply i_bytealg_LastIndexByteString_l2_of
    unfold i_bytealg_LastIndexByteString_l2_E
    have hg : s[k]? = some (s[k]'(by omega)) := List.getElem?_eq_getElem (by omega)
    rw [decide_eq_true (by omega : (0 : Int) ≤ (k : Int)), idxS_get hg, byte_beq, wr (by omega), last_loop s b hs k (by omega)]
    rw [lastAt_succ, hg]
    by_cases hb : s[k]'(by omega) = b
    · rw [hb]
      simp
    · have : (s[k]'(by omega) == b) = false := by simpa using hb
      rw [this]
      have h2 : ¬ (some (s[k]'(by omega)) = some b) := by simpa using hb
      rw [if_neg h2]
      rfl
theorem last_is (s : List UInt8) (b : UInt8) (hs : s.length ≤ 4611686018427387904) : strings_LastIndexByte s (UInt8.toNat b : Int) = some (lastAt s b s.length) := by
  apply strings_LastIndexByte_of
  unfold strings_LastIndexByte_E
  have : i_bytealg_LastIndexByteString s (UInt8.toNat b : Int) = some (lastAt s b s.length) := by
    apply i_bytealg_LastIndexByteString_of
    unfold i_bytealg_LastIndexByteString_E
    rw [wr (by omega), last_loop s b hs s.length (Nat.le_refl _)]
    by_cases h : lastAt s b s.length = -1
    · rw [if_pos h, h]; rfl
    · rw [if_neg h]; rfl
  rw [this]; rfl
end Go.Proofs.YtlgpcmklpknmcaaDoor
 end

 section
set_option linter.unusedVariables false
set_option linter.unusedSimpArgs false
namespace Go.Proofs.YtlgpcmklpknmcaaDoor
open Go Go.Eng Go.Proofs

theorem compare_int (a b : Int) : cmp_Compare_int a b = some (icmp a b) := by
  apply cmp_Compare_int_of
  unfold cmp_Compare_int_E
  have h : ∀ x : Int, cmp_isNaN_int x = some false := fun x => cmp_isNaN_int_of (by unfold cmp_isNaN_int_E; simp)
  rw [h, h]
  simp only [Option.bind_some, cond_false]
  unfold icmp
  by_cases h1 : a < b
  · rw [decide_eq_true h1, if_pos h1]; rfl
  · rw [decide_eq_false h1, if_neg h1]
    by_cases h2 : b < a
    · rw [decide_eq_true h2, if_pos h2]; rfl
    · rw [decide_eq_false h2, if_neg h2]; rfl
theorem compare_string (a b : List UInt8) : cmp_Compare_string a b = some (bcmp a b) := by
  apply cmp_Compare_string_of
  unfold cmp_Compare_string_E
  have h : ∀ x : List UInt8, cmp_isNaN_string x = some false := fun x => cmp_isNaN_string_of (by unfold cmp_isNaN_string_E; simp)
  rw [h, h, bcmp_eq]
  simp only [Option.bind_some, cond_false, cond_some]
/-- The first that isn't nought. -/
def orL : List Int → Int
  | [] => 0
  | x :: l => thn x (orL l)
theorem or_loop (s : List Int) (hs : s.length ≤ 1000) : ∀ (l : List Int) (i : Nat), s.drop i = l →
    cmp_Or_int_l3 0 (s.map (AV.int .i64)) (s.length : Int) (i : Int) = some (if orL l = 0 then Sum.inl 0 else Sum.inr (orL l))
  | [], i, h => by
    apply cmp_Or_int_l3_of
    unfold cmp_Or_int_l3_E
    rw [out_dec h]
    rfl
  | x :: t, i, h => by
    obtain ⟨h1, h2, h3, h4⟩ := drop_cons h
    have ih := or_loop s hs t (i + 1) h3
    have hd : (s.map (AV.int .i64)).drop i = AV.int .i64 x :: t.map (AV.int .i64) := by rw [← List.map_drop, h]; rfl
    apply cmp_Or_int_l3_of
    unfold cmp_Or_int_l3_E
    rw [in_dec h, getL_of hd, wr_succ (by omega), ih]
    simp only [dInt, cond_true, if_true]
    rw [orL]
    by_cases hx : x = 0
    · subst hx; rw [thn_zero]; rfl
    · have : (x != 0) = true := by simpa using hx
      rw [this, thn_ne hx, if_neg hx]; rfl
theorem or_is (s : List Int) (hs : s.length ≤ 1000) : cmp_Or_int (s.map (AV.int .i64)) = some (orL s) := by
  apply cmp_Or_int_of
  unfold cmp_Or_int_E
  rw [List.length_map]
  have h : cmp_Or_int_l3 0 (s.map (AV.int .i64)) (s.length : Int) 0 = _ := or_loop s hs s 0 rfl
  rw [h]
  by_cases e : orL s = 0
  · rw [if_pos e, e]; rfl
  · rw [if_neg e]; rfl
theorem or_two (a b : Int) : cmp_Or_int [AV.int .i64 a, AV.int .i64 b] = some (thn a b) := by
  have := or_is [a, b] (by simp)
  have e : orL [a, b] = thn a b := by
    simp only [orL]
    have : thn b 0 = b := by unfold thn; split <;> omega
    rw [this]
  rw [e] at this
  exact this
theorem or_three (a b c : Int) : cmp_Or_int [AV.int .i64 a, AV.int .i64 b, AV.int .i64 c] = some (thn a (thn b c)) := by
  have := or_is [a, b, c] (by simp)
  have e : orL [a, b, c] = thn a (thn b c) := by
    simp only [orL]
    have : thn c 0 = c := by unfold thn; split <;> omega
    rw [this]
  rw [e] at this
  exact this

theorem or_four (a b c d : Int) : cmp_Or_int [AV.int .i64 a, AV.int .i64 b, AV.int .i64 c, AV.int .i64 d] = some (thn a (thn b (thn c d))) := by
  have := or_is [a, b, c, d] (by simp)
  have e : orL [a, b, c, d] = thn a (thn b (thn c d)) := by
    simp only [orL]
    have : thn d 0 = d := by unfold thn; split <;> omega
    rw [this]
  rw [e] at this
  exact this
theorem byteOf_byte (b : UInt8) : Go.Eng.byteOf (byte b) = some b := by
  have : b.toNat < 256 := b.toNat_lt
  show (if 0 ≤ (b.toNat : Int) ∧ (b.toNat : Int) < 256 then some ((b.toNat : Int)).toNat.toUInt8 else none) = some b
  rw [if_pos (by omega)]
  congr 1
  simp
theorem bytesL_map : ∀ l : List UInt8, bytesL (l.map byte) = some l
  | [] => rfl
  | b :: l => by
    rw [List.map_cons, bytesL, byteOf_byte, bytesL_map l]
theorem bytesK_map {R : Type} (l : List UInt8) (h : l.length ≤ 1000000) (K : List UInt8 → Option R) : bytesK (l.map byte) K = K l := by
  unfold bytesK
  rw [if_pos (by rw [List.length_map]; omega), bytesL_map]; rfl
theorem digit_byte {q : Nat} (h : q < 10) : AV.int .u8 (IntKind.wrap .u8 (IntKind.wrap .i64 (48 + (q : Int)))) = byte (UInt8.ofNat (48 + q)) := by
  rw [wr (by omega)]
  have : IntKind.wrap .u8 (48 + (q : Int)) = ((48 + q : Nat) : Int) := by
    have e : ∀ k : Fin 10, IntKind.wrap .u8 (48 + ((k.val : Nat) : Int)) = ((48 + k.val : Nat) : Int) := by decide
    exact e ⟨q, h⟩
  rw [this]
  unfold byte
  have : (UInt8.ofNat (48 + q)).toNat = 48 + q := by simp; omega
  rw [this]
theorem catS_of {R : Type} {a b : List UInt8} (h : a.length + b.length ≤ 1000000) (K : List UInt8 → Option R) : catS a b K = K (a ++ b) := by
  unfold catS
  rw [if_pos (by omega)]
theorem remI_ten {R : Type} (n : Nat) (K : Int → Option R) : remI (n : Int) 10 K = K ((n % 10 : Nat) : Int) := by
  unfold remI
  rw [if_neg (by decide)]
  congr 1
theorem divI_ten {R : Type} {n : Nat} (h : n ≤ 1000000000) (K : Int → Option R) : divI .i64 (n : Int) 10 K = K ((n / 10 : Nat) : Int) := by
  unfold divI
  rw [if_neg (by decide)]
  have : (n : Int).tdiv 10 = ((n / 10 : Nat) : Int) := rfl
  rw [this, wr (by omega)]
/-- A number's digits. -/
def decN (n : Nat) : List UInt8 := if n < 10 then [UInt8.ofNat (48 + n)] else decN (n / 10) ++ [UInt8.ofNat (48 + n % 10)]
termination_by n
def within (n : Int) : Bool := decide (0 ≤ n) && decide (n ≤ 999999999)
def dec (n : Int) : List UInt8 := decN n.toNat
theorem decN_small {n : Nat} (h : n < 10) : decN n = [UInt8.ofNat (48 + n)] := by rw [decN, if_pos h]
theorem decN_big {n : Nat} (h : ¬ n < 10) : decN n = decN (n / 10) ++ [UInt8.ofNat (48 + n % 10)] := by rw [decN, if_neg h]
theorem decN_len : ∀ (k n : Nat), n < 10 ^ (k + 1) → (decN n).length ≤ k + 1
  | 0, n, h => by rw [decN_small (by simpa using h)]; simp
  | k + 1, n, h => by
    by_cases h10 : n < 10
    · rw [decN_small h10]; simp
    · rw [decN_big h10, List.length_append]
      have := decN_len k (n / 10) (by rw [Nat.pow_succ] at h; omega)
      simp; omega
theorem within_nat {n : Int} (h : within n = true) : ∃ k : Nat, n = (k : Int) ∧ k ≤ 999999999 := by
  unfold within at h
  simp only [Bool.and_eq_true, decide_eq_true_eq] at h
  exact ⟨n.toNat, by omega, by omega⟩
theorem dec_len {n : Int} (h : within n = true) : (dec n).length ≤ 9 := by
  obtain ⟨k, rfl, hk⟩ := within_nat h
  unfold dec
  rw [Int.toNat_natCast]
  exact decN_len 8 k (by omega)
theorem catS_big {R : Type} {a b : List UInt8} (h : a.length + b.length ≤ 4611686018427387904) (K : List UInt8 → Option R) : catS a b K = K (a ++ b) := by
  unfold catS
  rw [if_pos h]
theorem dec_loop : ∀ (m n : Nat) (s : List UInt8), n ≤ m → n ≤ 999999999 → s.length + n ≤ 2000000000 → ∃ (k : Nat) (t : List UInt8), codec_Dec_l4 (n : Int) s = some ((k : Int), t) ∧ k < 10 ∧ UInt8.ofNat (48 + k) :: t = decN n ++ s
  | m, n, s, hm, hn, hs => by
    by_cases h10 : n < 10
    · refine ⟨n, s, codec_Dec_l4_of ?_, h10, by rw [decN_small h10]; rfl⟩
      unfold codec_Dec_l4_E
      rw [decide_eq_false (by omega)]; rfl
    · cases m with
      | zero => omega
      | succ m =>
        obtain ⟨k, t, g1, g2, g3⟩ := dec_loop m (n / 10) (UInt8.ofNat (48 + n % 10) :: s) (by omega) (by omega) (by simp; omega)
        refine ⟨k, t, codec_Dec_l4_of ?_, g2, ?_⟩
        · unfold codec_Dec_l4_E
          rw [decide_eq_true (by omega), remI_ten, digit_byte (by omega), cond_true, show [byte (UInt8.ofNat (48 + n % 10))] = ([UInt8.ofNat (48 + n % 10)] : List UInt8).map byte from rfl, bytesK_map _ (by simp), catS_big (by simp; omega), divI_ten (by omega)]
          exact g1
        · rw [g3, decN_big h10]; simp
theorem dec_is {n : Int} (h : within n = true) : codec_Dec n = some (dec n) := by
  obtain ⟨k, rfl, hk⟩ := within_nat h
  obtain ⟨j, t, g1, g2, g3⟩ := dec_loop k k [] (Nat.le_refl _) hk (by simp; omega)
  rw [List.append_nil] at g3
  have hl := dec_len h
  apply codec_Dec_of
  unfold codec_Dec_E
  unfold dec at hl ⊢
  rw [Int.toNat_natCast] at hl ⊢
  have : t.length ≤ 9 := by have := congrArg List.length g3; simp at this; omega
  rw [decide_eq_false (by omega), g1]
  simp only [cond_false, Option.bind_some]
  rw [digit_byte g2, show [byte (UInt8.ofNat (48 + j))] = ([UInt8.ofNat (48 + j)] : List UInt8).map byte from rfl, bytesK_map _ (by simp), catS_of (by simp; omega)]
  rw [← g3]; rfl
theorem rdec_loop : ∀ (m n : Nat) (s : List UInt8), n ≤ m → n ≤ 999999999 → (decN n).length + s.length ≤ 90000 → ∃ (k : Nat) (t : List UInt8), drayageref01_Dec_l4 (n : Int) (s.map byte) = some ((k : Int), t.map byte) ∧ k < 10 ∧ UInt8.ofNat (48 + k) :: t = decN n ++ s
  | m, n, s, hm, hn, hl => by
    by_cases h10 : n < 10
    · refine ⟨n, s, drayageref01_Dec_l4_of ?_, h10, by rw [decN_small h10]; rfl⟩
      unfold drayageref01_Dec_l4_E
      rw [decide_eq_false (by omega)]; rfl
    · cases m with
      | zero => omega
      | succ m =>
        rw [decN_big h10, List.length_append, List.length_singleton] at hl
        have hp : 0 < (decN (n / 10)).length := by
          rw [decN]; split <;> simp
        obtain ⟨k, t, g1, g2, g3⟩ := rdec_loop m (n / 10) (UInt8.ofNat (48 + n % 10) :: s) (by omega) (by omega) (by simp; omega)
        refine ⟨k, t, drayageref01_Dec_l4_of ?_, g2, ?_⟩
        · unfold drayageref01_Dec_l4_E
          rw [decide_eq_true (by omega), remI_ten, digit_byte (by omega), cond_true, room_of (by simp; omega) (by omega), divI_ten (by omega)]
          exact g1
        · rw [g3, decN_big h10]; simp
theorem rdec_is {n : Int} (h : within n = true) : drayageref01_Dec n = some (dec n) := by
  have hl := dec_len h
  obtain ⟨k, rfl, hk⟩ := within_nat h
  unfold dec at hl ⊢
  rw [Int.toNat_natCast] at hl ⊢
  obtain ⟨j, t, g1, g2, g3⟩ := rdec_loop k k [] (Nat.le_refl _) hk (by simp; omega)
  rw [List.append_nil] at g3
  apply drayageref01_Dec_of
  unfold drayageref01_Dec_E
  have : t.length ≤ 9 := by have := congrArg List.length g3; simp at this; omega
  have g1' : drayageref01_Dec_l4 (k : Int) [] = _ := g1
  rw [decide_eq_false (by omega), g1']
  simp only [cond_false, Option.bind_some]
  rw [digit_byte g2, room_of (by simp; omega) (by omega), show [byte (UInt8.ofNat (48 + j))] ++ t.map byte = (UInt8.ofNat (48 + j) :: t).map byte from rfl, bytesK_map _ (by simp; omega), g3]

/-! ### A core's text -/
/-- The numbers, from the i-th on. -/
def nT : Nat → List Int → List UInt8
  | _, [] => []
  | i, n :: t => (if 0 < i then [46] else []) ++ dec n ++ nT (i + 1) t
def sg (f : Int) : List UInt8 := if f = 3 then [95] else [126]
def dash (f : Int) : List UInt8 := if f = 3 then [45, 114] else [45]
def epT (e : Int) : List UInt8 := if e = 0 then [] else dec e ++ [58]
def preT (f : Int) (pre : List UInt8) (pn : Int) : List UInt8 := if pre = [] then [] else sg f ++ pre ++ dec pn
def txt (f e : Int) (ns : List Int) (le pre : List UInt8) (pn rev : Int) : List UInt8 := epT e ++ nT 0 ns ++ le ++ preT f pre pn ++ (dash f ++ dec rev)
abbrev iA (ns : List Int) : List AV := ns.map (AV.int .i64)
theorem nT_len : ∀ (ns : List Int) (i : Nat), ns.all within = true → (nT i ns).length ≤ 10 * ns.length
  | [], i, _ => by simp [nT]
  | n :: t, i, h => by
    rw [List.all_cons, Bool.and_eq_true] at h
    have h1 := dec_len h.1
    have h2 := nT_len t (i + 1) h.2
    rw [nT]
    simp only [List.length_append, List.length_cons]
    split <;> simp <;> omega
theorem text_loop (f e : Int) (ns : List Int) (le pre : List UInt8) (pn rev : Int) (hn : ns.length ≤ 1000) : ∀ (l : List Int) (i : Nat) (b : List UInt8), ns.drop i = l → l.all within = true → b.length + 10 * l.length ≤ 50000 →
    vmap_text_l5 f (iA ns) (ns.length : Int) (i : Int) e (iA ns) le pre pn rev (b.map byte) = some (f, (e, iA ns, le, pre, pn, rev), (b ++ nT i l).map byte)
  | [], i, b, h, hw, hb => by
    apply vmap_text_l5_of
    unfold vmap_text_l5_E
    rw [out_dec h]
    simp [nT]
  | n :: t, i, b, h, hw, hb => by
    obtain ⟨h1, h2, h3, h4⟩ := drop_cons h
    rw [List.all_cons, Bool.and_eq_true] at hw
    have hl := dec_len hw.1
    simp only [List.length_cons] at hb
    have hd : (iA ns).drop i = AV.int .i64 n :: iA t := by rw [← List.map_drop, h]; rfl
    apply vmap_text_l5_of
    unfold vmap_text_l5_E
    rw [in_dec h, getL_of hd, wr_succ (by omega)]
    simp only [dInt, cond_true, if_true, dec_is hw.1, Option.bind_some]
    by_cases hi : 0 < i
    · have ih := text_loop f e ns le pre pn rev hn t (i + 1) (b ++ [46] ++ dec n) h3 hw.2 (by simp; omega)
      rw [decide_eq_true (by omega), cond_true, room_of (by simp; omega) (by omega), room_of (by simp; omega) (by omega)]
      have e1 : List.map byte b ++ [AV.int .u8 46] ++ List.map byte (dec n) = (b ++ [46] ++ dec n).map byte := by simp; rfl
      rw [e1, ih, nT, if_pos hi]
      simp
    · have ih := text_loop f e ns le pre pn rev hn t (i + 1) (b ++ dec n) h3 hw.2 (by simp; omega)
      rw [decide_eq_false (by omega), cond_false, room_of (by simp; omega) (by omega)]
      have e1 : List.map byte b ++ List.map byte (dec n) = (b ++ dec n).map byte := by simp
      rw [e1, ih, nT, if_neg hi]
      simp
theorem k17_is (rd : List UInt8) (e : Int) (A : List AV) (le pre : List UInt8) (pn rev : Int) (b : List UInt8) (hr : within rev = true) (hb : b.length ≤ 60000) (hd : rd.length ≤ 2) :
    vmap_text_k17 rd e A le pre pn rev (b.map byte) = some (b ++ (rd ++ dec rev), (e, A, le, pre, pn, rev), (b ++ (rd ++ dec rev)).map byte) := by
  have hl := dec_len hr
  apply vmap_text_k17_of
  unfold vmap_text_k17_E
  rw [dec_is hr]
  simp only [Option.bind_some]
  rw [catS_of (by omega), room_of (by simp; omega) (by omega)]
  have e1 : List.map byte b ++ List.map byte (rd ++ dec rev) = (b ++ (rd ++ dec rev)).map byte := by simp
  rw [e1, bytesK_map _ (by simp; omega)]
theorem k15_is (sgn rd : List UInt8) (e : Int) (A : List AV) (le pre : List UInt8) (pn rev : Int) (b : List UInt8) (hr : within rev = true) (hp : within pn = true) (hb : b.length ≤ 55000) (hpl : pre.length ≤ 100) (hd : rd.length ≤ 2) (hs : sgn.length ≤ 1) :
    vmap_text_k15 sgn rd e A le pre pn rev (b.map byte) = some (b ++ (if pre = [] then [] else sgn ++ pre ++ dec pn) ++ (rd ++ dec rev), (e, A, le, pre, pn, rev), (b ++ (if pre = [] then [] else sgn ++ pre ++ dec pn) ++ (rd ++ dec rev)).map byte) := by
  have hl := dec_len hp
  by_cases h : pre = []
  · subst h
    apply vmap_text_k15_of
    unfold vmap_text_k15_E
    rw [k17_is rd e A le [] pn rev b hr (by omega) hd, if_pos rfl, List.append_nil]
    rfl
  · have hc : (!(pre == ([] : List UInt8))) = true := by simpa using h
    apply vmap_text_k15_of
    unfold vmap_text_k15_E
    rw [hc, dec_is hp]
    simp only [Option.bind_some, cond_true]
    rw [catS_of (by omega), catS_of (by simp; omega), room_of (by simp; omega) (by omega)]
    have e1 : List.map byte b ++ List.map byte (sgn ++ pre ++ dec pn) = (b ++ (sgn ++ pre ++ dec pn)).map byte := by simp
    rw [e1, k17_is rd e A le pre pn rev _ hr (by simp; omega) hd, if_neg h]
    rfl
theorem text_is (f e : Int) (ns : List Int) (le pre : List UInt8) (pn rev : Int) (hn : ns.length ≤ 300) (hw : ns.all within = true) (he : within e = true) (hp : within pn = true) (hr : within rev = true) (hl : le.length ≤ 100) (hpl : pre.length ≤ 100) :
    vmap_text f e (iA ns) le pre pn rev = some (txt f e ns le pre pn rev) := by
  have hk4 : ∀ b : List UInt8, b.length ≤ 100 → vmap_text_k4 f e (iA ns) le pre pn rev (b.map byte) = some (b ++ nT 0 ns ++ le ++ preT f pre pn ++ (dash f ++ dec rev), (e, iA ns, le, pre, pn, rev), (b ++ nT 0 ns ++ le ++ preT f pre pn ++ (dash f ++ dec rev)).map byte) := by
    intro b hb
    have h5 : vmap_text_l5 f (iA ns) (ns.length : Int) 0 e (iA ns) le pre pn rev (b.map byte) = some (f, (e, iA ns, le, pre, pn, rev), (b ++ nT 0 ns).map byte) := text_loop f e ns le pre pn rev (by omega) ns 0 b rfl hw (by omega)
    have hnl := nT_len ns 0 hw
    by_cases h3 : f = 3
    · have hc : (f == 3) = true := by rw [h3]; rfl
      have hB := k15_is [95] [45, 114] e (iA ns) le pre pn rev (b ++ nT 0 ns ++ le) hr hp (by simp; omega) hpl (by simp) (by simp)
      apply vmap_text_k4_of
      unfold vmap_text_k4_E
      rw [List.length_map, h5]
      simp only [Option.bind_some, hc, cond_true]
      rw [room_of (by simp; omega) (by omega)]
      have e1 : List.map byte (b ++ nT 0 ns) ++ List.map byte le = (b ++ nT 0 ns ++ le).map byte := by simp
      rw [e1, hB]
      simp only [Option.bind_some]
      unfold preT sg dash
      rw [if_pos h3, if_pos h3]
    · have hc : (f == 3) = false := by simpa using h3
      have hB := k15_is [126] [45] e (iA ns) le pre pn rev (b ++ nT 0 ns ++ le) hr hp (by simp; omega) hpl (by simp) (by simp)
      apply vmap_text_k4_of
      unfold vmap_text_k4_E
      rw [List.length_map, h5]
      simp only [Option.bind_some, hc, cond_false]
      rw [room_of (by simp; omega) (by omega)]
      have e1 : List.map byte (b ++ nT 0 ns) ++ List.map byte le = (b ++ nT 0 ns ++ le).map byte := by simp
      rw [e1, hB]
      simp only [Option.bind_some]
      unfold preT sg dash
      rw [if_neg h3, if_neg h3]
  have hel := dec_len he
  apply vmap_text_of
  unfold vmap_text_E
  by_cases h0 : e = 0
  · have hc : (e != 0) = false := by rw [h0]; rfl
    have hX := hk4 [] (by simp)
    have hX' : vmap_text_k4 f e (iA ns) le pre pn rev [] = _ := hX
    rw [hc, cond_false, hX']
    simp only [Option.bind_some]
    unfold txt epT
    rw [if_pos h0]
  · have hc : (e != 0) = true := by simpa using h0
    have hX := hk4 (dec e ++ [58]) (by simp; omega)
    rw [hc, cond_true, dec_is he]
    simp only [Option.bind_some]
    rw [catS_of (by simp; omega), room_of (by simp; omega) (by omega), List.nil_append, hX]
    simp only [Option.bind_some]
    unfold txt epT
    rw [if_neg h0]
end Go.Proofs.YtlgpcmklpknmcaaDoor
 end
