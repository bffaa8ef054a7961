/- Comparisons that order: numbers, bytes, lists, lists with nothing behind them.
   Numbers, words, weights; versions of Dpkg in order.
   Versions of Rpm in order.
   Versions of Apk: their pieces, in order. -/
import Derived.Test.YtlgpcmklpknmcaaDoorPa
 section
set_option linter.unusedVariables false
set_option linter.unusedSimpArgs false
namespace Go.Eng
open Go

/-- A comparison by -1, 0, 1 that orders. -/
structure Ordd {α : Type} (c : α → α → Int) : Prop where
  val : ∀ a b, c a b = -1 ∨ c a b = 0 ∨ c a b = 1
  anti : ∀ a b, c b a = 0 - c a b
  tr : ∀ a b d, c a b ≤ 0 → c b d ≤ 0 → c a d ≤ 0 ∧ (c a d = 0 → c a b = 0 ∧ c b d = 0)
def thn (a b : Int) : Int := if a = 0 then b else a
theorem thn_zero (b : Int) : thn 0 b = b := if_pos rfl
theorem thn_ne {a : Int} (h : a ≠ 0) (b : Int) : thn a b = a := if_neg h
theorem dropWhile_le {α : Type} (p : α → Bool) : ∀ l : List α, (l.dropWhile p).length ≤ l.length
  | [] => Nat.le_refl _
  | a :: l => by
    rw [List.dropWhile_cons]
    have := dropWhile_le p l
    split <;> simp <;> omega
theorem Ordd.refl {α : Type} {c : α → α → Int} (h : Ordd c) (a : α) : c a a = 0 := by
  have := h.anti a a; omega
theorem Ordd.comap {α β : Type} {c : β → β → Int} (h : Ordd c) (f : α → β) : Ordd fun a b => c (f a) (f b) :=
  ⟨fun a b => h.val _ _, fun a b => h.anti _ _, fun a b d => h.tr _ _ _⟩
theorem Ordd.thn {α : Type} {c d : α → α → Int} (h : Ordd c) (k : Ordd d) : Ordd fun a b => thn (c a b) (d a b) where
  val a b := by
    have := h.val a b; have := k.val a b
    unfold Eng.thn; split <;> assumption
  anti a b := by
    have h1 := h.anti a b; have h2 := k.anti a b
    unfold Eng.thn
    by_cases e : c a b = 0
    · rw [if_pos e, if_pos (by omega)]; exact h2
    · rw [if_neg e, if_neg (by omega)]; exact h1
  tr a b x := by
    have h1 := h.tr a b x
    have h2 := k.tr a b x
    unfold Eng.thn
    intro p q
    by_cases e1 : c a b = 0
    · rw [if_pos e1] at p
      rw [if_pos e1]
      by_cases e2 : c b x = 0
      · rw [if_pos e2] at q
        rw [if_pos e2]
        have h3 := h.tr x b a
        have a1 := h.anti a b; have a2 := h.anti b x; have a3 := h.anti a x
        have e3 : c a x = 0 := by
          have := h1 (by omega) (by omega); have := h3 (by omega) (by omega); omega
        rw [if_pos e3]
        exact h2 p q
      · rw [if_neg e2] at q
        rw [if_neg e2]
        have g := h1 (by omega) q
        have : c a x ≠ 0 := fun e => e2 (g.2 e).2
        rw [if_neg this]
        exact ⟨g.1, fun e => absurd e this⟩
    · rw [if_neg e1] at p
      rw [if_neg e1]
      have q' : c b x ≤ 0 := by
        by_cases e2 : c b x = 0
        · omega
        · rw [if_neg e2] at q; exact q
      have g := h1 p q'
      have : c a x ≠ 0 := fun e => e1 (g.2 e).1
      rw [if_neg this]
      exact ⟨g.1, fun e => absurd e this⟩
/-- Numbers. -/
def icmp (a b : Int) : Int := if a < b then -1 else if b < a then 1 else 0
theorem icmp_cases (x y : Int) : (x < y ∧ icmp x y = -1) ∨ (y < x ∧ icmp x y = 1) ∨ (x = y ∧ icmp x y = 0) := by
  unfold icmp
  by_cases h : x < y
  · rw [if_pos h]; omega
  · rw [if_neg h]
    by_cases h2 : y < x
    · rw [if_pos h2]; omega
    · rw [if_neg h2]; omega
theorem icmp_ord : Ordd icmp where
  val a b := by
    unfold icmp
    split
    · simp
    · split <;> simp
  anti a b := by
    have e : ∀ x y : Int, (x < y ∧ icmp x y = -1) ∨ (y < x ∧ icmp x y = 1) ∨ (x = y ∧ icmp x y = 0) := icmp_cases
    have := e a b; have := e b a
    omega
  tr a b d := by
    have := icmp_cases a b; have := icmp_cases b d; have := icmp_cases a d
    omega
/-- Lists: the first place where they part; a beginning is less. -/
def lcmp {α : Type} (c : α → α → Int) : List α → List α → Int
  | [], [] => 0
  | [], _ :: _ => -1
  | _ :: _, [] => 1
  | x :: xs, y :: ys => thn (c x y) (lcmp c xs ys)
theorem lcmp_ord {α : Type} {c : α → α → Int} (h : Ordd c) : Ordd (lcmp c) where
  val a b := by
    induction a generalizing b with
    | nil => cases b <;> simp [lcmp]
    | cons x xs ih =>
      cases b with
      | nil => simp [lcmp]
      | cons y ys =>
        have := h.val x y; have := ih ys
        simp only [lcmp, thn]; split <;> assumption
  anti a b := by
    induction a generalizing b with
    | nil => cases b <;> simp [lcmp]
    | cons x xs ih =>
      cases b with
      | nil => simp [lcmp]
      | cons y ys =>
        have h1 := h.anti x y; have h2 := ih ys
        simp only [lcmp, thn]
        by_cases e : c x y = 0
        · rw [if_pos e, if_pos (by omega)]; exact h2
        · rw [if_neg e, if_neg (by omega)]; exact h1
  tr a b d := by
    induction a generalizing b d with
    | nil =>
      cases b with
      | nil => cases d <;> simp [lcmp]
      | cons y ys => cases d <;> simp [lcmp]
    | cons x xs ih =>
      cases b with
      | nil => simp [lcmp]
      | cons y ys =>
        cases d with
        | nil => simp [lcmp]
        | cons z zs =>
          have h1 := h.tr x y z
          have h3 := h.tr z y x
          have h2 := ih ys zs
          have a1 := h.anti x y; have a2 := h.anti y z; have a3 := h.anti x z
          simp only [lcmp, thn]
          intro p q
          by_cases e1 : c x y = 0
          · rw [if_pos e1] at p ⊢
            by_cases e2 : c y z = 0
            · rw [if_pos e2] at q ⊢
              have e3 : c x z = 0 := by have := h1 (by omega) (by omega); have := h3 (by omega) (by omega); omega
              rw [if_pos e3]
              exact h2 p q
            · rw [if_neg e2] at q ⊢
              have g := h1 (by omega) q
              have : c x z ≠ 0 := fun e => e2 (g.2 e).2
              rw [if_neg this]
              exact ⟨g.1, fun e => absurd e this⟩
          · rw [if_neg e1] at p ⊢
            have q' : c y z ≤ 0 := by
              by_cases e2 : c y z = 0
              · omega
              · rw [if_neg e2] at q; exact q
            have g := h1 p q'
            have : c x z ≠ 0 := fun e => e1 (g.2 e).1
            rw [if_neg this]
            exact ⟨g.1, fun e => absurd e this⟩
/-- Lists with an endless row of one thing behind them. -/
def pcmp {α : Type} (c : α → α → Int) (z : α) : List α → List α → Int
  | [], [] => 0
  | [], y :: ys => thn (c z y) (pcmp c z [] ys)
  | x :: xs, [] => thn (c x z) (pcmp c z xs [])
  | x :: xs, y :: ys => thn (c x y) (pcmp c z xs ys)
theorem pcmp_step {α : Type} {c : α → α → Int} (h : Ordd c) (z : α) (xs ys : List α) : pcmp c z xs ys = thn (c (xs.headD z) (ys.headD z)) (pcmp c z xs.tail ys.tail) := by
  cases xs <;> cases ys <;> simp [pcmp, h.refl, thn]
theorem pcmp_ord {α : Type} {c : α → α → Int} (h : Ordd c) (z : α) : Ordd (pcmp c z) := by
  have H : ∀ n : Nat, (∀ a b : List α, a.length ≤ n → b.length ≤ n → (pcmp c z a b = -1 ∨ pcmp c z a b = 0 ∨ pcmp c z a b = 1) ∧ pcmp c z b a = 0 - pcmp c z a b) ∧
      ∀ a b d : List α, a.length ≤ n → b.length ≤ n → d.length ≤ n → pcmp c z a b ≤ 0 → pcmp c z b d ≤ 0 → pcmp c z a d ≤ 0 ∧ (pcmp c z a d = 0 → pcmp c z a b = 0 ∧ pcmp c z b d = 0) := by
    intro n
    induction n with
    | zero =>
      refine ⟨fun a b ha hb => ?_, fun a b d ha hb hd => ?_⟩
      · obtain rfl := List.length_eq_zero_iff.1 (Nat.le_zero.1 ha)
        obtain rfl := List.length_eq_zero_iff.1 (Nat.le_zero.1 hb)
        simp [pcmp]
      · obtain rfl := List.length_eq_zero_iff.1 (Nat.le_zero.1 ha)
        obtain rfl := List.length_eq_zero_iff.1 (Nat.le_zero.1 hb)
        obtain rfl := List.length_eq_zero_iff.1 (Nat.le_zero.1 hd)
        simp [pcmp]
    | succ n ih =>
      have tl : ∀ {a : List α}, a.length ≤ n + 1 → a.tail.length ≤ n := fun {a} ha => by rw [List.length_tail]; omega
      refine ⟨fun a b ha hb => ?_, fun a b d ha hb hd => ?_⟩
      · obtain ⟨i1, i2⟩ := ih.1 a.tail b.tail (tl ha) (tl hb)
        rw [pcmp_step h z a b, pcmp_step h z b a]
        have v := h.val (a.headD z) (b.headD z)
        have w := h.anti (a.headD z) (b.headD z)
        unfold thn
        constructor
        · split <;> assumption
        · by_cases e : c (a.headD z) (b.headD z) = 0
          · rw [if_pos e, if_pos (by omega)]; exact i2
          · rw [if_neg e, if_neg (by omega)]; exact w
      · rw [pcmp_step h z a b, pcmp_step h z b d, pcmp_step h z a d]
        have h1 := h.tr (a.headD z) (b.headD z) (d.headD z)
        have h3 := h.tr (d.headD z) (b.headD z) (a.headD z)
        have h2 := ih.2 a.tail b.tail d.tail (tl ha) (tl hb) (tl hd)
        have a1 := h.anti (a.headD z) (b.headD z); have a2 := h.anti (b.headD z) (d.headD z); have a3 := h.anti (a.headD z) (d.headD z)
        unfold thn
        intro p q
        by_cases e1 : c (a.headD z) (b.headD z) = 0
        · rw [if_pos e1] at p ⊢
          by_cases e2 : c (b.headD z) (d.headD z) = 0
          · rw [if_pos e2] at q ⊢
            have e3 : c (a.headD z) (d.headD z) = 0 := by have := h1 (by omega) (by omega); have := h3 (by omega) (by omega); omega
            rw [if_pos e3]
            exact h2 p q
          · rw [if_neg e2] at q ⊢
            have g := h1 (by omega) q
            have : c (a.headD z) (d.headD z) ≠ 0 := fun e => e2 (g.2 e).2
            rw [if_neg this]
            exact ⟨g.1, fun e => absurd e this⟩
        · rw [if_neg e1] at p ⊢
          have q' : c (b.headD z) (d.headD z) ≤ 0 := by
            by_cases e2 : c (b.headD z) (d.headD z) = 0
            · omega
            · rw [if_neg e2] at q; exact q
          have g := h1 p q'
          have : c (a.headD z) (d.headD z) ≠ 0 := fun e => e1 (g.2 e).1
          rw [if_neg this]
          exact ⟨g.1, fun e => absurd e this⟩
  refine ⟨fun a b => ((H (max a.length b.length)).1 a b (Nat.le_max_left _ _) (Nat.le_max_right _ _)).1, fun a b => ((H (max a.length b.length)).1 a b (Nat.le_max_left _ _) (Nat.le_max_right _ _)).2, fun a b d => ?_⟩
  exact (H (max a.length (max b.length d.length))).2 a b d (by omega) (by omega) (by omega)
/-- Bytes. -/
def ucmp (a b : UInt8) : Int := icmp (a.toNat : Int) (b.toNat : Int)
theorem ucmp_ord : Ordd ucmp := icmp_ord.comap fun a : UInt8 => (a.toNat : Int)
def bcmp (a b : List UInt8) : Int := lcmp ucmp a b
theorem bcmp_ord : Ordd bcmp := lcmp_ord ucmp_ord
theorem bcmp_eq : ∀ a b : List UInt8, bcmp a b = cond (Op.bytesLess a b) (-1) (cond (!(Op.bytesLess a b || a == b)) 1 0)
  | [], [] => rfl
  | [], _ :: _ => rfl
  | _ :: _, [] => rfl
  | a :: x, b :: y => by
    have ih := bcmp_eq x y
    unfold bcmp at ih ⊢
    rw [lcmp, ih]
    unfold ucmp icmp thn
    have e1 : Op.bytesLess (a :: x) (b :: y) = (decide (a < b) || (a == b && Op.bytesLess x y)) := rfl
    have e2 : ((a :: x) == (b :: y)) = (a == b && x == y) := rfl
    rw [e1, e2]
    by_cases h1 : a < b
    · have : (a.toNat : Int) < (b.toNat : Int) := by have := UInt8.lt_iff_toNat_lt.1 h1; omega
      rw [if_pos this, decide_eq_true h1]; rfl
    · have h1' : ¬ (a.toNat : Int) < (b.toNat : Int) := fun e => h1 (UInt8.lt_iff_toNat_lt.2 (by omega))
      rw [if_neg h1', decide_eq_false h1]
      by_cases h2 : a = b
      · subst h2
        rw [if_neg h1']
        simp
      · have h3 : (b.toNat : Int) < (a.toNat : Int) := by
          have : a.toNat ≠ b.toNat := fun e => h2 (UInt8.toNat_inj.1 e)
          omega
        rw [if_pos h3]
        have : (a == b) = false := by simpa using h2
        rw [this]; rfl
end Go.Eng
 end

 section
set_option linter.unusedVariables false
set_option linter.unusedSimpArgs false
namespace Go.Proofs.YtlgpcmklpknmcaaDoor
open Go Go.Eng Go.Proofs

theorem compare_int (a b : Int) : cmp_Compare_int a b = some (icmp a b) := by
  apply cmp_Compare_int_of
  unfold cmp_Compare_int_E
  have h : ∀ x : Int, cmp_isNaN_int x = some false := fun x => cmp_isNaN_int_of (by unfold cmp_isNaN_int_E; simp)
  rw [h, h]
  simp only [Option.bind_some, cond_false]
  unfold icmp
  by_cases h1 : a < b
  · rw [decide_eq_true h1, if_pos h1]; rfl
  · rw [decide_eq_false h1, if_neg h1]
    by_cases h2 : b < a
    · rw [decide_eq_true h2, if_pos h2]; rfl
    · rw [decide_eq_false h2, if_neg h2]; rfl
theorem compare_string (a b : List UInt8) : cmp_Compare_string a b = some (bcmp a b) := by
  apply cmp_Compare_string_of
  unfold cmp_Compare_string_E
  have h : ∀ x : List UInt8, cmp_isNaN_string x = some false := fun x => cmp_isNaN_string_of (by unfold cmp_isNaN_string_E; simp)
  rw [h, h, bcmp_eq]
  simp only [Option.bind_some, cond_false, cond_some]
/-- The first that isn't nought. -/
def orL : List Int → Int
  | [] => 0
  | x :: l => thn x (orL l)
theorem or_loop (s : List Int) (hs : s.length ≤ 1000) : ∀ (l : List Int) (i : Nat), s.drop i = l →
    cmp_Or_int_l3 0 (s.map (AV.int .i64)) (s.length : Int) (i : Int) = some (if orL l = 0 then Sum.inl 0 else Sum.inr (orL l))
  | [], i, h => by
    apply cmp_Or_int_l3_of
    unfold cmp_Or_int_l3_E
    rw [out_dec h]
    rfl
  | x :: t, i, h => by
    obtain ⟨h1, h2, h3, h4⟩ := drop_cons h
    have ih := or_loop s hs t (i + 1) h3
    have hd : (s.map (AV.int .i64)).drop i = AV.int .i64 x :: t.map (AV.int .i64) := by rw [← List.map_drop, h]; rfl
    apply cmp_Or_int_l3_of
    unfold cmp_Or_int_l3_E
    rw [in_dec h, getL_of hd, wr_succ (by omega), ih]
    simp only [dInt, cond_true, if_true]
    rw [orL]
    by_cases hx : x = 0
    · subst hx; rw [thn_zero]; rfl
    · have : (x != 0) = true := by simpa using hx
      rw [this, thn_ne hx, if_neg hx]; rfl
theorem or_is (s : List Int) (hs : s.length ≤ 1000) : cmp_Or_int (s.map (AV.int .i64)) = some (orL s) := by
  apply cmp_Or_int_of
  unfold cmp_Or_int_E
  rw [List.length_map]
  have h : cmp_Or_int_l3 0 (s.map (AV.int .i64)) (s.length : Int) 0 = _ := or_loop s hs s 0 rfl
  rw [h]
  by_cases e : orL s = 0
  · rw [if_pos e, e]; rfl
  · rw [if_neg e]; rfl
theorem or_two (a b : Int) : cmp_Or_int [AV.int .i64 a, AV.int .i64 b] = some (thn a b) := by
  have := or_is [a, b] (by simp)
  have e : orL [a, b] = thn a b := by
    simp only [orL]
    have : thn b 0 = b := by unfold thn; split <;> omega
    rw [this]
  rw [e] at this
  exact this
theorem or_three (a b c : Int) : cmp_Or_int [AV.int .i64 a, AV.int .i64 b, AV.int .i64 c] = some (thn a (thn b c)) := by
  have := or_is [a, b, c] (by simp)
  have e : orL [a, b, c] = thn a (thn b c) := by
    simp only [orL]
    have : thn c 0 = c := by unfold thn; split <;> omega
    rw [this]
  rw [e] at this
  exact this
/-- Without noughts ahead. -/
def strip (s : List UInt8) : List UInt8 := s.dropWhile (· == 48)
theorem trim_loop : ∀ s : List UInt8, strings_trimLeftByte_l1 s 48 = some (strip s)
  | [] => by
    apply strings_trimLeftByte_l1_of
    unfold strings_trimLeftByte_l1_E
    rfl
  | c :: t => by
    apply strings_trimLeftByte_l1_of
    unfold strings_trimLeftByte_l1_E
    rw [nonempty_is, idxS_zero]
    have e : ((UInt8.toNat c : Int) == 48) = (c == 48) := byte_eq c 48 (by decide)
    have hc := cutS_from (s := c :: t) (a := 1) (by simp) fun s11 => strings_trimLeftByte_l1 s11 48
    have hc' : cutS (c :: t) 1 ((c :: t).length : Int) (fun s11 => strings_trimLeftByte_l1 s11 48) = strings_trimLeftByte_l1 t 48 := hc
    rw [e, hc', trim_loop t]
    unfold strip
    rw [List.dropWhile_cons]
    cases c == 48 <;> rfl
theorem trim_is (s : List UInt8) : strings_TrimLeft s [48] = some (strip s) := by
  apply strings_TrimLeft_of
  unfold strings_TrimLeft_E
  have h : strings_trimLeftByte s 48 = some (strip s) := strings_trimLeftByte_of (by unfold strings_trimLeftByte_E; rw [trim_loop]; rfl)
  have h' : strings_trimLeftByte s (UInt8.toNat 48 : Int) = some (strip s) := h
  cases s with
  | nil => rfl
  | cons c t =>
    have e1 : ((c :: t) == ([] : List UInt8)) = false := rfl
    have e2 : (([48] : List UInt8) == []) = false := rfl
    have e3 : ((([48] : List UInt8).length : Int) == 1) = true := rfl
    have e5 : UInt8.toNat 48 = 48 := by decide
    have e4 : decide ((UInt8.toNat 48 : Int) < 128) = true := decide_eq_true (by omega)
    simp only [idxS_zero, h', e1, e2, e3, e4, cond_false, cond_true, Option.bind_some]
def numC (a b : List UInt8) : Int := thn (icmp ((strip a).length : Int) ((strip b).length : Int)) (bcmp (strip a) (strip b))
theorem numC_ord : Ordd numC := ((icmp_ord.comap fun a : List UInt8 => ((strip a).length : Int)).thn (bcmp_ord.comap strip))
theorem numbers_is (a b : List UInt8) : version_numbers a b = some (numC a b) := by
  apply version_numbers_of
  unfold version_numbers_E
  simp only [trim_is, compare_int, compare_string, Option.bind_some, or_two]
  rfl
theorem version_word_loop (s : List UInt8) (hs : s.length ≤ 4611686018427387904) : ∀ (l : List UInt8) (i : Nat), i ≤ s.length → s.drop i = l →
    version_word_l2 s i = some (s, ((i + (l.takeWhile lt).length : Nat) : Int))
  | [], i, hi, h => by
    apply version_word_l2_of
    unfold version_word_l2_E
    rw [out_dec h]
    rfl
  | c :: t, i, hi, h => by
    obtain ⟨h1, h2, h3, h4⟩ := drop_cons h
    apply version_word_l2_of
    unfold version_word_l2_E
    rw [in_dec h, idxS_of h, version_letter_is, wr_succ (by omega), version_word_loop s hs t (i + 1) (by omega) h3]
    rw [List.takeWhile_cons]
    simp only [Option.bind_some, cond_true]
    by_cases hd : lt c = true
    · rw [hd]
      have : lit (UInt8.toNat c : Int) = true := hd
      rw [this]
      simp only [cond_true, if_true, List.length_cons]
      rw [Nat.add_right_comm, Nat.add_assoc]
    · have hd' : lt c = false := by simpa using hd
      have : lit (UInt8.toNat c : Int) = false := hd'
      rw [hd', this]
      rfl
theorem version_word_is (s : List UInt8) (hs : s.length ≤ 4611686018427387904) : version_word s = some (s.takeWhile lt, s.dropWhile lt) := by
  apply version_word_of
  unfold version_word_E
  have h := version_word_loop s hs s 0 (by omega) rfl
  rw [Nat.zero_add] at h
  have h' : version_word_l2 s 0 = some (s, ((s.takeWhile lt).length : Int)) := h
  rw [h']
  have hl := takeWhile_le lt s
  simp only [Option.bind_some]
  rw [cutS_to hl, cutS_from hl, take_takeWhile, drop_takeWhile]
theorem begins_is (s : List UInt8) (c : UInt8) : version_begins s (UInt8.toNat c : Int) = some (s.head? == some c) := by
  apply version_begins_of
  unfold version_begins_E
  cases s with
  | nil => rfl
  | cons d t =>
    rw [idxS_zero, byte_beq]
    rfl
theorem cutS_one {R : Type} (c : UInt8) (t : List UInt8) (K : List UInt8 → Option R) : cutS (c :: t) 1 ((c :: t).length : Int) K = K t :=
  cutS_from (s := c :: t) (a := 1) (by simp) K

/-! ### Dpkg -/
def wtc (c : UInt8) : Int := if dg c then 0 else if c == 126 then -1 else if lt c then (c.toNat : Int) else (c.toNat : Int) + 256
def wt : List UInt8 → Int
  | [] => 0
  | c :: _ => wtc c
theorem weight_is (s : List UInt8) : version_weight s = some (wt s) := by
  apply version_weight_of
  unfold version_weight_E
  cases s with
  | nil => rfl
  | cons c t =>
    have hb : c.toNat < 256 := c.toNat_lt
    have e : ((UInt8.toNat c : Int) == 126) = (c == 126) := byte_eq c 126 (by decide)
    have e1 : dig (UInt8.toNat c : Int) = dg c := rfl
    have e2 : lit (UInt8.toNat c : Int) = lt c := rfl
    simp only [idxS_zero, version_digit_is, version_letter_is, Option.bind_some, e, e1, e2]
    rw [wr (by omega), wr (by omega)]
    unfold wt wtc
    have : ((c :: t) == []) = false := rfl
    rw [this]
    simp only [cond_false, Option.bind_some]
    cases dg c <;> cases c == 126 <;> cases lt c <;> rfl
theorem wtc_zero {c : UInt8} (h : wtc c = 0) : dg c = true := by
  unfold wtc at h
  split at h
  · assumption
  · split at h
    · omega
    · split at h
      · rename_i h1 h2 h3
        exfalso
        have : lit (UInt8.toNat c : Int) = true := h3
        unfold lit at this
        simp only [Bool.or_eq_true, Bool.and_eq_true, decide_eq_true_eq] at this
        omega
      · omega
/-- What is held against each other: weights, numbers. -/
def dtoks : List UInt8 → List (Int × List UInt8)
  | [] => []
  | c :: t => if dg c then (0, c :: t.takeWhile dg) :: dtoks (t.dropWhile dg) else (wtc c, []) :: dtoks t
termination_by s => s.length
decreasing_by
  all_goals simp only [List.length_cons]
  · have := dropWhile_le dg t; omega
  · omega
def dC (p q : Int × List UInt8) : Int := thn (icmp p.1 q.1) (numC p.2 q.2)
theorem dC_ord : Ordd dC := (icmp_ord.comap Prod.fst).thn (numC_ord.comap Prod.snd)
def dK (a b : List UInt8) : Int := pcmp dC (0, []) (dtoks a) (dtoks b)
theorem dK_ord : Ordd dK := (pcmp_ord dC_ord (0, [])).comap dtoks
theorem dtoks_head (s : List UInt8) : ((dtoks s).headD (0, [])).1 = wt s := by
  cases s with
  | nil => rw [dtoks]; rfl
  | cons c t =>
    rw [dtoks]
    by_cases h : dg c = true
    · rw [if_pos h]
      have : wt (c :: t) = 0 := by show wtc c = 0; unfold wtc; rw [if_pos h]
      rw [this]; rfl
    · rw [if_neg h]; rfl
theorem dtoks_num {s : List UInt8} (h : wt s = 0) : (dtoks s).headD (0, []) = (0, s.takeWhile dg) ∧ (dtoks s).tail = dtoks (s.dropWhile dg) := by
  cases s with
  | nil => simp [dtoks]
  | cons c t =>
    have hd := wtc_zero h
    rw [dtoks, if_pos hd, List.takeWhile_cons, List.dropWhile_cons, if_pos hd, if_pos hd]
    exact ⟨rfl, rfl⟩
theorem dtoks_wt {c : UInt8} {t : List UInt8} (h : wtc c ≠ 0) : dtoks (c :: t) = (wtc c, []) :: dtoks t := by
  rw [dtoks, if_neg]
  intro hd
  apply h
  unfold wtc; rw [if_pos hd]
theorem d_inner : ∀ (n : Nat) (a b : List UInt8), a.length + b.length ≤ n →
    (∃ a' b', version_dpkg_l2 a b = some (Sum.inl (a', b')) ∧ dK a b = dK a' b' ∧ wt a' = 0 ∧ wt b' = 0 ∧ a'.length ≤ a.length ∧ b'.length ≤ b.length) ∨
    (∃ r, version_dpkg_l2 a b = some (Sum.inr r) ∧ r ≠ 0 ∧ dK a b = r)
  | n, a, b, hn => by
    by_cases hz : wt a = 0 ∧ wt b = 0
    · refine .inl ⟨a, b, ?_, rfl, hz.1, hz.2, Nat.le_refl _, Nat.le_refl _⟩
      apply version_dpkg_l2_of
      unfold version_dpkg_l2_E
      rw [weight_is, weight_is, hz.1, hz.2]
      rfl
    · have hcond : (cond (wt a != 0) true (wt b != 0)) = true := by
        by_cases h1 : wt a = 0
        · have h2 : wt b ≠ 0 := fun e => hz ⟨h1, e⟩
          rw [h1]
          simpa using h2
        · have : (wt a != 0) = true := by simpa using h1
          rw [this]; rfl
      by_cases hc : icmp (wt a) (wt b) = 0
      · have he : wt a = wt b := by have := icmp_cases (wt a) (wt b); omega
        cases a with
        | nil => exact absurd ⟨rfl, by rw [← he]; rfl⟩ hz
        | cons x s =>
          cases b with
          | nil => exact absurd ⟨by rw [he]; rfl, rfl⟩ hz
          | cons y t =>
            have hx : wtc x ≠ 0 := fun e => hz ⟨e, by rw [← he]; exact e⟩
            have hxy : wtc x = wtc y := he
            have hstep : version_dpkg_l2 s t = version_dpkg_l2 s t := rfl
            have hD : dK (x :: s) (y :: t) = dK s t := by
              unfold dK
              rw [dtoks_wt hx, dtoks_wt (by rw [← hxy]; exact hx), pcmp]
              have : dC (wtc x, []) (wtc y, []) = 0 := by
                unfold dC
                rw [hxy]
                have : icmp (wtc y) (wtc y) = 0 := icmp_ord.refl _
                rw [this, numC_ord.refl, thn_zero]
              rw [this]; rfl
            have hL : ∀ r, version_dpkg_l2 s t = some r → version_dpkg_l2 (x :: s) (y :: t) = some r := by
              intro r hr
              apply version_dpkg_l2_of
              unfold version_dpkg_l2_E
              simp only [weight_is, compare_int, Option.bind_some, cond_some, hcond, hc, cutS_one, cond_true]
              exact hr
            cases n with
            | zero => simp at hn
            | succ n =>
              rcases d_inner n s t (by simp at hn; omega) with ⟨a', b', g1, g2, g3, g4, g5, g6⟩ | ⟨r, g1, g2, g3⟩
              · exact .inl ⟨a', b', hL _ g1, hD.trans g2, g3, g4, by simp; omega, by simp; omega⟩
              · exact .inr ⟨r, hL _ g1, g2, hD.trans g3⟩
      · refine .inr ⟨icmp (wt a) (wt b), ?_, hc, ?_⟩
        · apply version_dpkg_l2_of
          unfold version_dpkg_l2_E
          simp only [weight_is, compare_int, Option.bind_some, cond_some, hcond, cond_true]
          have : (icmp (wt a) (wt b) != 0) = true := by simpa using hc
          rw [this]; rfl
        · unfold dK
          rw [pcmp_step dC_ord]
          have e : dC ((dtoks a).headD (0, [])) ((dtoks b).headD (0, [])) = icmp (wt a) (wt b) := by
            unfold dC
            rw [dtoks_head, dtoks_head, thn_ne hc]
          rw [e, thn_ne hc]
theorem d_outer : ∀ (n : Nat) (a b : List UInt8), a.length + b.length ≤ n → n ≤ 1000000 → version_dpkg_l1 a b = some (if dK a b = 0 then Sum.inl () else Sum.inr (dK a b))
  | n, a, b, hn, hm => by
    by_cases he : a = [] ∧ b = []
    · obtain ⟨rfl, rfl⟩ := he
      have : dK [] [] = 0 := dK_ord.refl _
      rw [if_pos this]
      apply version_dpkg_l1_of
      unfold version_dpkg_l1_E
      rfl
    · have hcond : (cond (!(a == [])) true (!(b == []))) = true := by
        cases a with
        | nil => cases b with
          | nil => exact absurd ⟨rfl, rfl⟩ he
          | cons y t => rfl
        | cons x s => rfl
      apply version_dpkg_l1_of
      unfold version_dpkg_l1_E
      rcases d_inner n a b hn with ⟨a', b', g1, g2, g3, g4, g5, g6⟩ | ⟨r, g1, g2, g3⟩
      · simp only [cond_some, Option.bind_some, hcond, cond_true, g1, Sum.elim_inl, version_number_is _ (show a'.length ≤ 4611686018427387904 by omega), version_number_is _ (show b'.length ≤ 4611686018427387904 by omega), numbers_is]
        have hD : dK a b = thn (numC (a'.takeWhile dg) (b'.takeWhile dg)) (dK (a'.dropWhile dg) (b'.dropWhile dg)) := by
          rw [g2]
          unfold dK
          rw [pcmp_step dC_ord, (dtoks_num g3).1, (dtoks_num g4).1, (dtoks_num g3).2, (dtoks_num g4).2]
          have : dC (0, a'.takeWhile dg) (0, b'.takeWhile dg) = numC (a'.takeWhile dg) (b'.takeWhile dg) := by
            unfold dC
            have : icmp 0 0 = 0 := icmp_ord.refl _
            simp only [this, thn_zero]
          rw [this]
        rw [hD]
        by_cases hN : numC (a'.takeWhile dg) (b'.takeWhile dg) = 0
        · rw [hN]
          have hlt : (a'.dropWhile dg).length + (b'.dropWhile dg).length < a.length + b.length := by
            have d1 := dropWhile_le dg a'
            have d2 := dropWhile_le dg b'
            rcases Nat.lt_or_ge (a'.length + b'.length) (a.length + b.length) with h | h
            · omega
            · have el : a'.length = a.length ∧ b'.length = b.length := by omega
              cases a' with
              | nil =>
                cases b' with
                | nil =>
                  exfalso; apply he
                  exact ⟨List.length_eq_zero_iff.1 (by rw [← el.1]; rfl), List.length_eq_zero_iff.1 (by rw [← el.2]; rfl)⟩
                | cons y t =>
                  have := wtc_zero g4
                  rw [List.dropWhile_cons, if_pos this] at d2 ⊢
                  have := dropWhile_le dg t
                  simp only [List.length_cons] at *
                  omega
              | cons x s =>
                have := wtc_zero g3
                rw [List.dropWhile_cons, if_pos this] at d1 ⊢
                have := dropWhile_le dg s
                simp only [List.length_cons] at *
                omega
          cases n with
          | zero => omega
          | succ n =>
            have ih := d_outer n (a'.dropWhile dg) (b'.dropWhile dg) (by omega) (by omega)
            rw [thn_zero]
            exact ih
        · have : (numC (a'.takeWhile dg) (b'.takeWhile dg) != 0) = true := by simpa using hN
          rw [this, thn_ne hN, if_neg hN]
          rfl
      · simp only [cond_some, Option.bind_some, hcond, cond_true, g1, Sum.elim_inr]
        rw [g3, if_neg g2]
theorem dpkg_is (a b : List UInt8) (h : a.length + b.length ≤ 1000000) : version_dpkg a b = some (dK a b) := by
  apply version_dpkg_of
  unfold version_dpkg_E
  rw [d_outer _ a b (Nat.le_refl _) h]
  by_cases e : dK a b = 0
  · rw [if_pos e, e]; rfl
  · rw [if_neg e]; rfl
end Go.Proofs.YtlgpcmklpknmcaaDoor
 end

 section
set_option linter.unusedVariables false
set_option linter.unusedSimpArgs false
namespace Go.Proofs.YtlgpcmklpknmcaaDoor
open Go Go.Eng Go.Proofs

/-- What says nothing. -/
def sepr (c : UInt8) : Bool := !dg c && !lt c && !(c == 126) && !(c == 94)
theorem skip_is : ∀ s : List UInt8, version_skip_l1 s = some (s.dropWhile sepr)
  | [] => by
    apply version_skip_l1_of
    unfold version_skip_l1_E
    rfl
  | c :: t => by
    apply version_skip_l1_of
    unfold version_skip_l1_E
    have e1 : ((UInt8.toNat c : Int) != 126) = !(c == 126) := congrArg (! ·) (byte_eq c 126 (by decide))
    have e2 : ((UInt8.toNat c : Int) != 94) = !(c == 94) := congrArg (! ·) (byte_eq c 94 (by decide))
    have e3 : dig (UInt8.toNat c : Int) = dg c := rfl
    have e4 : lit (UInt8.toNat c : Int) = lt c := rfl
    have e5 : ((c :: t) == ([] : List UInt8)) = false := rfl
    simp only [idxS_zero, version_digit_is, version_letter_is, Option.bind_some, e1, e2, e3, e4, e5, cond_some, cond_and, cutS_one, skip_is t, Bool.not_false, cond_true]
    rw [List.dropWhile_cons]
    unfold sepr
    cases dg c <;> cases lt c <;> cases c == 126 <;> cases c == 94 <;> rfl
theorem vskip_is (s : List UInt8) : version_skip s = some (s.dropWhile sepr) :=
  version_skip_of (by unfold version_skip_E; rw [skip_is]; rfl)
theorem older_is (b : Bool) : version_older b = some (if b then -1 else 1) :=
  version_older_of (by unfold version_older_E; cases b <;> rfl)

/-- What is held against each other: its kind, a number, a word. -/
def rtoks : List UInt8 → List (Int × List UInt8 × List UInt8)
  | [] => [(0, [], [])]
  | c :: t => if dg c then (3, c :: t.takeWhile dg, []) :: rtoks (t.dropWhile dg)
    else if lt c then (2, [], c :: t.takeWhile lt) :: rtoks (t.dropWhile lt)
    else if c == 126 then (-1, [], []) :: rtoks t
    else if c == 94 then (1, [], []) :: rtoks t
    else rtoks t
termination_by s => s.length
decreasing_by
  all_goals simp only [List.length_cons]
  · have := dropWhile_le dg t; omega
  · have := dropWhile_le lt t; omega
  all_goals omega
def rC (p q : Int × List UInt8 × List UInt8) : Int := thn (icmp p.1 q.1) (thn (numC p.2.1 q.2.1) (bcmp p.2.2 q.2.2))
theorem rC_ord : Ordd rC := (icmp_ord.comap fun p : Int × List UInt8 × List UInt8 => p.1).thn ((numC_ord.comap fun p : Int × List UInt8 × List UInt8 => p.2.1).thn (bcmp_ord.comap fun p : Int × List UInt8 × List UInt8 => p.2.2))
def rK (a b : List UInt8) : Int := lcmp rC (rtoks a) (rtoks b)
theorem rK_ord : Ordd rK := (lcmp_ord rC_ord).comap rtoks
theorem rtoks_skip : ∀ s : List UInt8, rtoks s = rtoks (s.dropWhile sepr)
  | [] => rfl
  | c :: t => by
    rw [List.dropWhile_cons]
    by_cases h : sepr c = true
    · rw [if_pos h, ← rtoks_skip t, rtoks]
      unfold sepr at h
      simp only [Bool.and_eq_true, Bool.not_eq_true'] at h
      rw [h.1.1.1, h.1.1.2, h.1.2, h.2]
      rfl
    · rw [if_neg h]
theorem head_dropWhile {p : UInt8 → Bool} : ∀ {s : List UInt8} {c : UInt8} {t : List UInt8}, s.dropWhile p = c :: t → p c = false
  | [], c, t, h => by cases h
  | d :: s, c, t, h => by
    rw [List.dropWhile_cons] at h
    split at h
    · exact head_dropWhile h
    · rename_i hd; cases h; simpa using hd
/-- The first token of a text that begins with something. -/
inductive RHead : List UInt8 → Prop
  | nil : RHead []
  | dig (c t) (h : dg c = true) : RHead (c :: t)
  | let (c t) (hd : dg c = false) (h : lt c = true) : RHead (c :: t)
  | til (t) : RHead (126 :: t)
  | car (t) : RHead (94 :: t)
theorem rhead (s : List UInt8) : RHead (s.dropWhile sepr) := by
  cases h : s.dropWhile sepr with
  | nil => exact .nil
  | cons c t =>
    have := head_dropWhile h
    unfold sepr at this
    cases hd : dg c with
    | true => exact .dig c t hd
    | false =>
      cases hl : lt c with
      | true => exact .let c t hd hl
      | false =>
        rw [hd, hl] at this
        by_cases h1 : c = 126
        · subst h1; exact .til t
        · by_cases h2 : c = 94
          · subst h2; exact .car t
          · have e1 : (c == 126) = false := by simpa using h1
            have e2 : (c == 94) = false := by simpa using h2
            rw [e1, e2] at this; cases this
theorem rt_nil : rtoks [] = [(0, [], [])] := by rw [rtoks]
theorem rt_dig {c : UInt8} {t : List UInt8} (h : dg c = true) : rtoks (c :: t) = (3, (c :: t).takeWhile dg, []) :: rtoks ((c :: t).dropWhile dg) := by
  rw [rtoks, if_pos h, List.takeWhile_cons, List.dropWhile_cons, if_pos h, if_pos h]
theorem rt_let {c : UInt8} {t : List UInt8} (hd : dg c = false) (h : lt c = true) : rtoks (c :: t) = (2, [], (c :: t).takeWhile lt) :: rtoks ((c :: t).dropWhile lt) := by
  rw [rtoks, if_neg (by simp [hd]), if_pos h, List.takeWhile_cons, List.dropWhile_cons, if_pos h, if_pos h]
theorem rt_til {t : List UInt8} : rtoks (126 :: t) = (-1, [], []) :: rtoks t := by rw [rtoks]; rfl
theorem rt_car {t : List UInt8} : rtoks (94 :: t) = (1, [], []) :: rtoks t := by rw [rtoks]; rfl
theorem lcmp_cons {x y : Int × List UInt8 × List UInt8} {xs ys} : lcmp rC (x :: xs) (y :: ys) = thn (rC x y) (lcmp rC xs ys) := rfl
theorem rC_kind {x y : Int × List UInt8 × List UInt8} (h : icmp x.1 y.1 ≠ 0) : rC x y = icmp x.1 y.1 := thn_ne h _
theorem not_dg_til : dg 126 = false := by decide
theorem not_dg_car : dg 94 = false := by decide
theorem lt_not_sign {c : UInt8} (h : lt c = true) : (c == 126) = false ∧ (c == 94) = false := by
  constructor
  · rw [beq_eq_false_iff_ne]; rintro rfl; revert h; decide
  · rw [beq_eq_false_iff_ne]; rintro rfl; revert h; decide
theorem dg_not_sign {c : UInt8} (h : dg c = true) : (c == 126) = false ∧ (c == 94) = false := by
  constructor
  · rw [beq_eq_false_iff_ne]; rintro rfl; revert h; decide
  · rw [beq_eq_false_iff_ne]; rintro rfl; revert h; decide
theorem thn_zero_r (a : Int) : thn a 0 = a := by unfold thn; split <;> omega
theorem takeWhile_no {p : UInt8 → Bool} {c : UInt8} {t : List UInt8} (h : p c = false) : (c :: t).takeWhile p = [] := by rw [List.takeWhile_cons, if_neg (by simp [h])]
theorem takeWhile_yes {p : UInt8 → Bool} {c : UInt8} {t : List UInt8} (h : p c = true) : ((c :: t).takeWhile p == []) = false := by rw [List.takeWhile_cons, if_pos h]; rfl
theorem drop_less {p : UInt8 → Bool} {c : UInt8} {t : List UInt8} (h : p c = true) : ((c :: t).dropWhile p).length < (c :: t).length := by
  rw [List.dropWhile_cons, if_pos h]
  have := dropWhile_le p t
  simp; omega
theorem cmin_nil : (if 1 < ((([] : List UInt8).length : Nat) : Int) then 1 else ((([] : List UInt8).length : Nat) : Int)) = 0 := rfl
theorem cmin_cons (c : UInt8) (t : List UInt8) : (if 1 < (((c :: t).length : Nat) : Int) then 1 else (((c :: t).length : Nat) : Int)) = 1 := by
  by_cases h : 1 < (((c :: t).length : Nat) : Int)
  · rw [if_pos h]
  · rw [if_neg h]; simp only [List.length_cons] at *; omega
theorem none_beq (x : UInt8) : ((none : Option UInt8) == some x) = false := rfl
theorem some_beq (x y : UInt8) : (some x == some y) = (x == y) := rfl
theorem nil_beq : (([] : List UInt8) == []) = true := rfl
theorem cons_beq (c : UInt8) (t : List UInt8) : ((c :: t) == ([] : List UInt8)) = false := rfl
theorem bq1 : (true == true) = true := rfl
theorem bq2 : (true == false) = false := rfl
theorem bq3 : (false == true) = false := rfl
theorem bq4 : (false == false) = true := rfl
theorem w_one : IntKind.wrap .i64 (0 - (-1)) = 1 := rfl
theorem w_neg : IntKind.wrap .i64 (0 - 1) = -1 := rfl
theorem lt_dg {c : UInt8} (h : lt c = true) : dg c = false := by
  have : lit (UInt8.toNat c : Int) = true := h
  show dig (UInt8.toNat c : Int) = false
  unfold lit at this
  unfold dig
  simp only [Bool.or_eq_true, Bool.and_eq_true, decide_eq_true_eq, Bool.and_eq_false_iff, decide_eq_false_iff_not] at *
  omega
theorem dg_lt {c : UInt8} (h : dg c = true) : lt c = false := by
  cases hl : lt c with
  | false => rfl
  | true => rw [lt_dg hl] at h; cases h
theorem rpm_loop : ∀ (n : Nat) (a b : List UInt8), a.length + b.length ≤ n → n ≤ 1000000 → version_rpm_l1 a b = some (rK a b)
  | n, a, b, hn, hm => by
    have e126 : ∀ s, version_begins s 126 = some (s.head? == some 126) := fun s => begins_is s 126
    have e94 : ∀ s, version_begins s 94 = some (s.head? == some 94) := fun s => begins_is s 94
    have hab : rK a b = rK (a.dropWhile sepr) (b.dropWhile sepr) := by unfold rK; rw [← rtoks_skip, ← rtoks_skip]
    have da := dropWhile_le sepr a
    have db := dropWhile_le sepr b
    have ha := rhead a
    have hb := rhead b
    rw [hab]
    apply version_rpm_l1_of
    unfold version_rpm_l1_E
    rw [vskip_is, vskip_is]
    generalize a.dropWhile sepr = x at *
    generalize b.dropWhile sepr = y at *
    simp only [Option.bind_some, e126, e94, older_is, cutS_one]
    have next : ∀ x' y' : List UInt8, x'.length + y'.length < x.length + y.length → version_rpm_l1 x' y' = some (rK x' y') := fun x' y' h => by
      cases n with
      | zero => omega
      | succ n => exact rpm_loop n x' y' (by omega) (by omega)
    have K : ∀ {p q : Int × List UInt8 × List UInt8} {ps qs}, rtoks x = p :: ps → rtoks y = q :: qs → rK x y = thn (rC p q) (lcmp rC ps qs) := fun h1 h2 => by unfold rK; rw [h1, h2]; rfl
    have zero : rC (-1, [], []) (-1, [], []) = 0 := rC_ord.refl _
    have one : rC (1, [], []) (1, [], []) = 0 := rC_ord.refl _
    have kk : ∀ (i j : Int) (u v u' v' : List UInt8) (l l'), i ≠ j → thn (rC (i, u, v) (j, u', v')) (lcmp rC l l') = icmp i j := fun i j u v u' v' l l' h => by
      have : icmp i j ≠ 0 := by have := icmp_cases i j; omega
      rw [rC_kind this, thn_ne this]
    have i1 : (126 : UInt8) == 94 ↔ False := by decide
    have b1 : ((126 : UInt8) == 126) = true := rfl
    have b2 : ((126 : UInt8) == 94) = false := rfl
    have b3 : ((94 : UInt8) == 126) = false := rfl
    have b4 : ((94 : UInt8) == 94) = true := rfl
    have nl : ([] : List UInt8).head? = none := rfl
    have hx : x.length ≤ 4611686018427387904 := by omega
    have hy : y.length ≤ 4611686018427387904 := by omega
    cases ha <;> cases hb
    case nil.nil => rw [K rt_nil rt_nil]; simp only [nl, List.head?_cons, none_beq, some_beq, nil_beq, cons_beq, b1, b2, b3, b4, BEq.rfl, beq_self_eq_true, Bool.not_true, Bool.not_false, bq1, bq2, bq3, bq4, cond_true, cond_false, Option.bind_some, Bool.false_eq_true, if_true, if_false, compare_int, cmin_nil, cmin_cons, w_one, w_neg, idxS_zero, version_digit_is, cutS_one]; rfl
    case nil.dig d t h =>
      obtain ⟨s1, s2⟩ := dg_not_sign h
      rw [K rt_nil (rt_dig h), kk _ _ _ _ _ _ _ _ (by decide)]
      simp only [s1, s2, nl, List.head?_cons, none_beq, some_beq, nil_beq, cons_beq, b1, b2, b3, b4, BEq.rfl, beq_self_eq_true, Bool.not_true, Bool.not_false, bq1, bq2, bq3, bq4, cond_true, cond_false, Option.bind_some, Bool.false_eq_true, if_true, if_false, compare_int, cmin_nil, cmin_cons, w_one, w_neg, idxS_zero, version_digit_is, cutS_one]; rfl
    case nil.let d t hd h =>
      obtain ⟨s1, s2⟩ := lt_not_sign h
      rw [K rt_nil (rt_let hd h), kk _ _ _ _ _ _ _ _ (by decide)]
      simp only [s1, s2, nl, List.head?_cons, none_beq, some_beq, nil_beq, cons_beq, b1, b2, b3, b4, BEq.rfl, beq_self_eq_true, Bool.not_true, Bool.not_false, bq1, bq2, bq3, bq4, cond_true, cond_false, Option.bind_some, Bool.false_eq_true, if_true, if_false, compare_int, cmin_nil, cmin_cons, w_one, w_neg, idxS_zero, version_digit_is, cutS_one]; rfl
    case nil.til t => rw [K rt_nil rt_til, kk _ _ _ _ _ _ _ _ (by decide)]; simp only [nl, List.head?_cons, none_beq, some_beq, nil_beq, cons_beq, b1, b2, b3, b4, BEq.rfl, beq_self_eq_true, Bool.not_true, Bool.not_false, bq1, bq2, bq3, bq4, cond_true, cond_false, Option.bind_some, Bool.false_eq_true, if_true, if_false, compare_int, cmin_nil, cmin_cons, w_one, w_neg, idxS_zero, version_digit_is, cutS_one]; rfl
    case nil.car t => rw [K rt_nil rt_car, kk _ _ _ _ _ _ _ _ (by decide)]; simp only [nl, List.head?_cons, none_beq, some_beq, nil_beq, cons_beq, b1, b2, b3, b4, BEq.rfl, beq_self_eq_true, Bool.not_true, Bool.not_false, bq1, bq2, bq3, bq4, cond_true, cond_false, Option.bind_some, Bool.false_eq_true, if_true, if_false, compare_int, cmin_nil, cmin_cons, w_one, w_neg, idxS_zero, version_digit_is, cutS_one]; rfl
    case dig.nil c s h =>
      obtain ⟨s1, s2⟩ := dg_not_sign h
      rw [K (rt_dig h) rt_nil, kk _ _ _ _ _ _ _ _ (by decide)]
      simp only [s1, s2, nl, List.head?_cons, none_beq, some_beq, nil_beq, cons_beq, b1, b2, b3, b4, BEq.rfl, beq_self_eq_true, Bool.not_true, Bool.not_false, bq1, bq2, bq3, bq4, cond_true, cond_false, Option.bind_some, Bool.false_eq_true, if_true, if_false, compare_int, cmin_nil, cmin_cons, w_one, w_neg, idxS_zero, version_digit_is, cutS_one]; rfl
    case let.nil c s hd h =>
      obtain ⟨s1, s2⟩ := lt_not_sign h
      rw [K (rt_let hd h) rt_nil, kk _ _ _ _ _ _ _ _ (by decide)]
      simp only [s1, s2, nl, List.head?_cons, none_beq, some_beq, nil_beq, cons_beq, b1, b2, b3, b4, BEq.rfl, beq_self_eq_true, Bool.not_true, Bool.not_false, bq1, bq2, bq3, bq4, cond_true, cond_false, Option.bind_some, Bool.false_eq_true, if_true, if_false, compare_int, cmin_nil, cmin_cons, w_one, w_neg, idxS_zero, version_digit_is, cutS_one]; rfl
    case til.nil s => rw [K rt_til rt_nil, kk _ _ _ _ _ _ _ _ (by decide)]; simp only [nl, List.head?_cons, none_beq, some_beq, nil_beq, cons_beq, b1, b2, b3, b4, BEq.rfl, beq_self_eq_true, Bool.not_true, Bool.not_false, bq1, bq2, bq3, bq4, cond_true, cond_false, Option.bind_some, Bool.false_eq_true, if_true, if_false, compare_int, cmin_nil, cmin_cons, w_one, w_neg, idxS_zero, version_digit_is, cutS_one]; rfl
    case car.nil s => rw [K rt_car rt_nil, kk _ _ _ _ _ _ _ _ (by decide)]; simp only [nl, List.head?_cons, none_beq, some_beq, nil_beq, cons_beq, b1, b2, b3, b4, BEq.rfl, beq_self_eq_true, Bool.not_true, Bool.not_false, bq1, bq2, bq3, bq4, cond_true, cond_false, Option.bind_some, Bool.false_eq_true, if_true, if_false, compare_int, cmin_nil, cmin_cons, w_one, w_neg, idxS_zero, version_digit_is, cutS_one]; rfl
    case til.til s t =>
      rw [K rt_til rt_til, zero, thn_zero]
      simp only [nl, List.head?_cons, none_beq, some_beq, nil_beq, cons_beq, b1, b2, b3, b4, BEq.rfl, beq_self_eq_true, Bool.not_true, Bool.not_false, bq1, bq2, bq3, bq4, cond_true, cond_false, Option.bind_some, Bool.false_eq_true, if_true, if_false, compare_int, cmin_nil, cmin_cons, w_one, w_neg, idxS_zero, version_digit_is, cutS_one]
      exact next s t (by simp; omega)
    case car.car s t =>
      rw [K rt_car rt_car, one, thn_zero]
      simp only [nl, List.head?_cons, none_beq, some_beq, nil_beq, cons_beq, b1, b2, b3, b4, BEq.rfl, beq_self_eq_true, Bool.not_true, Bool.not_false, bq1, bq2, bq3, bq4, cond_true, cond_false, Option.bind_some, Bool.false_eq_true, if_true, if_false, compare_int, cmin_nil, cmin_cons, w_one, w_neg, idxS_zero, version_digit_is, cutS_one]
      exact next s t (by simp; omega)
    case til.car s t => rw [K rt_til rt_car, kk _ _ _ _ _ _ _ _ (by decide)]; simp only [nl, List.head?_cons, none_beq, some_beq, nil_beq, cons_beq, b1, b2, b3, b4, BEq.rfl, beq_self_eq_true, Bool.not_true, Bool.not_false, bq1, bq2, bq3, bq4, cond_true, cond_false, Option.bind_some, Bool.false_eq_true, if_true, if_false, compare_int, cmin_nil, cmin_cons, w_one, w_neg, idxS_zero, version_digit_is, cutS_one]; rfl
    case car.til s t => rw [K rt_car rt_til, kk _ _ _ _ _ _ _ _ (by decide)]; simp only [nl, List.head?_cons, none_beq, some_beq, nil_beq, cons_beq, b1, b2, b3, b4, BEq.rfl, beq_self_eq_true, Bool.not_true, Bool.not_false, bq1, bq2, bq3, bq4, cond_true, cond_false, Option.bind_some, Bool.false_eq_true, if_true, if_false, compare_int, cmin_nil, cmin_cons, w_one, w_neg, idxS_zero, version_digit_is, cutS_one]; rfl
    case til.dig s d t h =>
      obtain ⟨s1, s2⟩ := dg_not_sign h
      rw [K rt_til (rt_dig h), kk _ _ _ _ _ _ _ _ (by decide)]
      simp only [s1, s2, nl, List.head?_cons, none_beq, some_beq, nil_beq, cons_beq, b1, b2, b3, b4, BEq.rfl, beq_self_eq_true, Bool.not_true, Bool.not_false, bq1, bq2, bq3, bq4, cond_true, cond_false, Option.bind_some, Bool.false_eq_true, if_true, if_false, compare_int, cmin_nil, cmin_cons, w_one, w_neg, idxS_zero, version_digit_is, cutS_one]; rfl
    case til.let s d t hd h =>
      obtain ⟨s1, s2⟩ := lt_not_sign h
      rw [K rt_til (rt_let hd h), kk _ _ _ _ _ _ _ _ (by decide)]
      simp only [s1, s2, nl, List.head?_cons, none_beq, some_beq, nil_beq, cons_beq, b1, b2, b3, b4, BEq.rfl, beq_self_eq_true, Bool.not_true, Bool.not_false, bq1, bq2, bq3, bq4, cond_true, cond_false, Option.bind_some, Bool.false_eq_true, if_true, if_false, compare_int, cmin_nil, cmin_cons, w_one, w_neg, idxS_zero, version_digit_is, cutS_one]; rfl
    case car.dig s d t h =>
      obtain ⟨s1, s2⟩ := dg_not_sign h
      rw [K rt_car (rt_dig h), kk _ _ _ _ _ _ _ _ (by decide)]
      simp only [s1, s2, nl, List.head?_cons, none_beq, some_beq, nil_beq, cons_beq, b1, b2, b3, b4, BEq.rfl, beq_self_eq_true, Bool.not_true, Bool.not_false, bq1, bq2, bq3, bq4, cond_true, cond_false, Option.bind_some, Bool.false_eq_true, if_true, if_false, compare_int, cmin_nil, cmin_cons, w_one, w_neg, idxS_zero, version_digit_is, cutS_one]; rfl
    case car.let s d t hd h =>
      obtain ⟨s1, s2⟩ := lt_not_sign h
      rw [K rt_car (rt_let hd h), kk _ _ _ _ _ _ _ _ (by decide)]
      simp only [s1, s2, nl, List.head?_cons, none_beq, some_beq, nil_beq, cons_beq, b1, b2, b3, b4, BEq.rfl, beq_self_eq_true, Bool.not_true, Bool.not_false, bq1, bq2, bq3, bq4, cond_true, cond_false, Option.bind_some, Bool.false_eq_true, if_true, if_false, compare_int, cmin_nil, cmin_cons, w_one, w_neg, idxS_zero, version_digit_is, cutS_one]; rfl
    case dig.til c s h t =>
      obtain ⟨s1, s2⟩ := dg_not_sign h
      rw [K (rt_dig h) rt_til, kk _ _ _ _ _ _ _ _ (by decide)]
      simp only [s1, s2, nl, List.head?_cons, none_beq, some_beq, nil_beq, cons_beq, b1, b2, b3, b4, BEq.rfl, beq_self_eq_true, Bool.not_true, Bool.not_false, bq1, bq2, bq3, bq4, cond_true, cond_false, Option.bind_some, Bool.false_eq_true, if_true, if_false, compare_int, cmin_nil, cmin_cons, w_one, w_neg, idxS_zero, version_digit_is, cutS_one]; rfl
    case dig.car c s h t =>
      obtain ⟨s1, s2⟩ := dg_not_sign h
      rw [K (rt_dig h) rt_car, kk _ _ _ _ _ _ _ _ (by decide)]
      simp only [s1, s2, nl, List.head?_cons, none_beq, some_beq, nil_beq, cons_beq, b1, b2, b3, b4, BEq.rfl, beq_self_eq_true, Bool.not_true, Bool.not_false, bq1, bq2, bq3, bq4, cond_true, cond_false, Option.bind_some, Bool.false_eq_true, if_true, if_false, compare_int, cmin_nil, cmin_cons, w_one, w_neg, idxS_zero, version_digit_is, cutS_one]; rfl
    case let.til c s hd h t =>
      obtain ⟨s1, s2⟩ := lt_not_sign h
      rw [K (rt_let hd h) rt_til, kk _ _ _ _ _ _ _ _ (by decide)]
      simp only [s1, s2, nl, List.head?_cons, none_beq, some_beq, nil_beq, cons_beq, b1, b2, b3, b4, BEq.rfl, beq_self_eq_true, Bool.not_true, Bool.not_false, bq1, bq2, bq3, bq4, cond_true, cond_false, Option.bind_some, Bool.false_eq_true, if_true, if_false, compare_int, cmin_nil, cmin_cons, w_one, w_neg, idxS_zero, version_digit_is, cutS_one]; rfl
    case let.car c s hd h t =>
      obtain ⟨s1, s2⟩ := lt_not_sign h
      rw [K (rt_let hd h) rt_car, kk _ _ _ _ _ _ _ _ (by decide)]
      simp only [s1, s2, nl, List.head?_cons, none_beq, some_beq, nil_beq, cons_beq, b1, b2, b3, b4, BEq.rfl, beq_self_eq_true, Bool.not_true, Bool.not_false, bq1, bq2, bq3, bq4, cond_true, cond_false, Option.bind_some, Bool.false_eq_true, if_true, if_false, compare_int, cmin_nil, cmin_cons, w_one, w_neg, idxS_zero, version_digit_is, cutS_one]; rfl
    case dig.dig c s h d t h' =>
      obtain ⟨s1, s2⟩ := dg_not_sign h
      obtain ⟨s3, s4⟩ := dg_not_sign h'
      have hdc : dig (UInt8.toNat c : Int) = true := h
      rw [K (rt_dig h) (rt_dig h')]
      simp only [s1, s2, s3, s4, hdc, version_number_is _ hx, version_number_is _ hy, takeWhile_yes h', numbers_is, nl, List.head?_cons, none_beq, some_beq, nil_beq, cons_beq, b1, b2, b3, b4, BEq.rfl, beq_self_eq_true, Bool.not_true, Bool.not_false, bq1, bq2, bq3, bq4, cond_true, cond_false, Option.bind_some, Bool.false_eq_true, if_true, if_false, compare_int, cmin_nil, cmin_cons, w_one, w_neg, idxS_zero, version_digit_is, cutS_one]
      have hn := next _ _ (Nat.add_lt_add (drop_less h) (drop_less h'))
      unfold rK at hn
      have e : rC (3, (c :: s).takeWhile dg, []) (3, (d :: t).takeWhile dg, []) = numC ((c :: s).takeWhile dg) ((d :: t).takeWhile dg) := by
        unfold rC
        have e1 : icmp 3 3 = 0 := icmp_ord.refl _
        have e2 : bcmp [] [] = 0 := bcmp_ord.refl _
        rw [e1, e2, thn_zero, thn_zero_r]
      rw [e]
      by_cases hz : numC ((c :: s).takeWhile dg) ((d :: t).takeWhile dg) = 0
      · rw [hz, thn_zero]; exact hn
      · have : (numC ((c :: s).takeWhile dg) ((d :: t).takeWhile dg) != 0) = true := by simpa using hz
        rw [this, thn_ne hz]; rfl
    case let.let c s hd h d t hd' h' =>
      obtain ⟨s1, s2⟩ := lt_not_sign h
      obtain ⟨s3, s4⟩ := lt_not_sign h'
      have hdc : dig (UInt8.toNat c : Int) = false := hd
      rw [K (rt_let hd h) (rt_let hd' h')]
      simp only [s1, s2, s3, s4, hdc, version_word_is _ hx, version_word_is _ hy, takeWhile_yes h', compare_string, nl, List.head?_cons, none_beq, some_beq, nil_beq, cons_beq, b1, b2, b3, b4, BEq.rfl, beq_self_eq_true, Bool.not_true, Bool.not_false, bq1, bq2, bq3, bq4, cond_true, cond_false, Option.bind_some, Bool.false_eq_true, if_true, if_false, compare_int, cmin_nil, cmin_cons, w_one, w_neg, idxS_zero, version_digit_is, cutS_one]
      have hn := next _ _ (Nat.add_lt_add (drop_less h) (drop_less h'))
      unfold rK at hn
      have e : rC (2, [], (c :: s).takeWhile lt) (2, [], (d :: t).takeWhile lt) = bcmp ((c :: s).takeWhile lt) ((d :: t).takeWhile lt) := by
        unfold rC
        have e1 : icmp 2 2 = 0 := icmp_ord.refl _
        have e2 : numC [] [] = 0 := numC_ord.refl _
        rw [e1, e2, thn_zero, thn_zero]
      rw [e]
      by_cases hz : bcmp ((c :: s).takeWhile lt) ((d :: t).takeWhile lt) = 0
      · rw [hz, thn_zero]; exact hn
      · have : (bcmp ((c :: s).takeWhile lt) ((d :: t).takeWhile lt) != 0) = true := by simpa using hz
        rw [this, thn_ne hz]; rfl
    case dig.let c s h d t hd' h' =>
      obtain ⟨s1, s2⟩ := dg_not_sign h
      obtain ⟨s3, s4⟩ := lt_not_sign h'
      have hdc : dig (UInt8.toNat c : Int) = true := h
      rw [K (rt_dig h) (rt_let hd' h'), kk _ _ _ _ _ _ _ _ (by decide)]
      simp only [s1, s2, s3, s4, hdc, version_number_is _ hx, version_number_is _ hy, takeWhile_no hd', numbers_is, nl, List.head?_cons, none_beq, some_beq, nil_beq, cons_beq, b1, b2, b3, b4, BEq.rfl, beq_self_eq_true, Bool.not_true, Bool.not_false, bq1, bq2, bq3, bq4, cond_true, cond_false, Option.bind_some, Bool.false_eq_true, if_true, if_false, compare_int, cmin_nil, cmin_cons, w_one, w_neg, idxS_zero, version_digit_is, cutS_one]
      rfl
    case let.dig c s hd h d t h' =>
      obtain ⟨s1, s2⟩ := lt_not_sign h
      obtain ⟨s3, s4⟩ := dg_not_sign h'
      have hdc : dig (UInt8.toNat c : Int) = false := hd
      rw [K (rt_let hd h) (rt_dig h'), kk _ _ _ _ _ _ _ _ (by decide)]
      simp only [s1, s2, s3, s4, hdc, version_word_is _ hx, version_word_is _ hy, takeWhile_no (dg_lt h'), compare_string, nl, List.head?_cons, none_beq, some_beq, nil_beq, cons_beq, b1, b2, b3, b4, BEq.rfl, beq_self_eq_true, Bool.not_true, Bool.not_false, bq1, bq2, bq3, bq4, cond_true, cond_false, Option.bind_some, Bool.false_eq_true, if_true, if_false, compare_int, cmin_nil, cmin_cons, w_one, w_neg, idxS_zero, version_digit_is, cutS_one]
      rfl
theorem rpm_is (a b : List UInt8) (h : a.length + b.length ≤ 1000000) : version_rpm a b = some (rK a b) :=
  version_rpm_of (by unfold version_rpm_E; rw [rpm_loop _ a b (Nat.le_refl _) h]; rfl)
end Go.Proofs.YtlgpcmklpknmcaaDoor
 end

 section
set_option linter.unusedVariables false
set_option linter.unusedSimpArgs false
namespace Go.Proofs.YtlgpcmklpknmcaaDoor
open Go Go.Eng Go.Proofs

structure Pc where
  k : Int
  t : List UInt8
  r : Int
  f : Bool
def pcA (p : Pc) : AV := AV.agg [AV.int .i64 p.k, AV.str p.t, AV.int .i64 p.r, AV.bool p.f]
def GoodAt (i : Nat) (p : Pc) : Prop := p.k = 6 → p.f = decide (i = 0) ∧ p.t ≠ [] ∧ p.t.all dg = true
def Good (ps : List Pc) : Prop := ∀ (i : Nat) p, ps[i]? = some p → GoodAt i p
theorem good_nil : Good [] := fun i p h => by simp at h
theorem good_add {ps : List Pc} {p : Pc} (h : Good ps) (hp : GoodAt ps.length p) : Good (ps ++ [p]) := by
  intro i q hq
  rcases Nat.lt_or_ge i ps.length with hi | hi
  · rw [List.getElem?_append_left hi] at hq; exact h i q hq
  · rw [List.getElem?_append_right hi] at hq
    have : i - ps.length = 0 := by
      rcases Nat.eq_zero_or_pos (i - ps.length) with e | e
      · exact e
      · rw [List.getElem?_eq_none (by simp; omega)] at hq; cases hq
    rw [this] at hq
    have e : i = ps.length := by omega
    simp at hq
    rw [e, ← hq]; exact hp
theorem map_add (ps : List Pc) (p : Pc) : (ps ++ [p]).map pcA = ps.map pcA ++ [pcA p] := by simp
/-- Noughts ahead. -/
def nought (s : List UInt8) : Bool := decide ((1 : Int) < (s.length : Int)) && (s.head? == some 48)
theorem nought_is (s : List UInt8) : version_piece_compare_1 s = some (nought s) := by
  apply version_piece_compare_1_of
  unfold version_piece_compare_1_E nought
  cases s with
  | nil => rfl
  | cons c t =>
    have e : ((UInt8.toNat c : Int) == 48) = (c == 48) := byte_eq c 48 (by decide)
    simp only [idxS_zero, e, cond_some, cond_and, Option.bind_some, List.head?_cons, some_beq]
def pcC (p q : Pc) : Int := thn (icmp p.k q.k)
  (if (p.k == 6 && !p.f && (nought p.t || nought q.t)) = true then bcmp p.t q.t
   else if (p.k == 6 || p.k == 3 || p.k == 2) = true then numC p.t q.t else thn (icmp p.r q.r) (bcmp p.t q.t))
theorem piece_compare_is (p q : Pc) : version_piece_compare p.k p.t p.r p.f q.k q.t q.r q.f = some (pcC p q) := by
  apply version_piece_compare_of
  unfold version_piece_compare_E
  simp only [compare_int, compare_string, numbers_is, nought_is, or_two, Option.bind_some, cond_some, cond_and, cond_or]
  unfold pcC
  by_cases hk : icmp p.k q.k = 0
  · rw [hk, thn_zero]
    have : ((0 : Int) != 0) = false := rfl
    rw [this, cond_false]
    cases p.k == 6 <;> cases p.f <;> cases nought p.t <;> cases nought q.t <;> cases p.k == 3 <;> cases p.k == 2 <;> rfl
  · rw [thn_ne hk]
    have : (icmp p.k q.k != 0) = true := by simpa using hk
    rw [this, cond_true]
/-- What a piece is held by. -/
def key (p : Pc) : Int × Int × Int × List UInt8 :=
  if (p.k == 6 && !p.f) = true then (if p.t.head? = some 48 then (6, 0, 0, p.t) else (6, 1, (p.t.length : Int), p.t))
  else if (p.k == 6 || p.k == 3 || p.k == 2) = true then (p.k, 0, ((strip p.t).length : Int), strip p.t) else (p.k, p.r, 0, p.t)
def kC (p q : Int × Int × Int × List UInt8) : Int := thn (icmp p.1 q.1) (thn (icmp p.2.1 q.2.1) (thn (icmp p.2.2.1 q.2.2.1) (bcmp p.2.2.2 q.2.2.2)))
theorem kC_ord : Ordd kC := (icmp_ord.comap fun p : Int × Int × Int × List UInt8 => p.1).thn ((icmp_ord.comap fun p : Int × Int × Int × List UInt8 => p.2.1).thn ((icmp_ord.comap fun p : Int × Int × Int × List UInt8 => p.2.2.1).thn (bcmp_ord.comap fun p : Int × Int × Int × List UInt8 => p.2.2.2)))
theorem key_k (p : Pc) : (key p).1 = p.k := by
  unfold key
  split
  · rename_i h
    have : p.k = 6 := by simp only [Bool.and_eq_true, beq_iff_eq] at h; exact h.1
    split <;> exact this.symm
  · split <;> rfl
theorem strip_id {t : List UInt8} (h : t.head? ≠ some 48) : strip t = t := by
  cases t with
  | nil => rfl
  | cons c s =>
    unfold strip
    rw [List.dropWhile_cons, if_neg]
    intro e
    apply h
    rw [beq_iff_eq] at e
    rw [e]; rfl
theorem nought_zero {t : List UInt8} (h : t.head? = some 48) : nought t = true ∨ t = [48] := by
  unfold nought
  rw [h]
  cases t with
  | nil => cases h
  | cons c s =>
    cases s with
    | nil => right; simp at h; rw [h]
    | cons d s => left; simp; omega
theorem nought_not {t : List UInt8} (h : t.head? ≠ some 48) : nought t = false := by
  unfold nought
  have : (t.head? == some 48) = false := by simpa using h
  rw [this, Bool.and_false]
theorem zero_less {t u : List UInt8} (ht : t.head? = some 48) (hu : u.head? ≠ some 48) (hd : u.all dg = true) (hn : u ≠ []) : bcmp t u = -1 := by
  cases t with
  | nil => cases ht
  | cons c s =>
    cases u with
    | nil => exact absurd rfl hn
    | cons d v =>
      have hc : c = 48 := by simpa using ht
      subst hc
      have h1 : d ≠ 48 := by simpa using hu
      have h2 : dg d = true := by rw [List.all_cons] at hd; simp only [Bool.and_eq_true] at hd; exact hd.1
      have h3 : dig (d.toNat : Int) = true := h2
      unfold dig at h3
      simp only [Bool.and_eq_true, decide_eq_true_eq] at h3
      have h4 : d.toNat ≠ 48 := fun e => h1 (UInt8.toNat_inj.1 e)
      have e48 : (48 : UInt8).toNat = 48 := rfl
      have : ucmp 48 d = -1 := by
        unfold ucmp icmp
        rw [if_pos (by omega)]
      show thn (ucmp 48 d) _ = -1
      rw [this]; rfl
theorem strip_zero : strip [48] = [] := rfl
theorem icmp_self (x : Int) : icmp x x = 0 := icmp_ord.refl x
theorem numC_id {t u : List UInt8} (ht : strip t = t) (hu : strip u = u) : numC t u = thn (icmp (t.length : Int) (u.length : Int)) (bcmp t u) := by
  unfold numC; rw [ht, hu]
theorem pos_len {u : List UInt8} (h : u ≠ []) : 0 < u.length := List.length_pos_iff.2 h
theorem pc_key {i : Nat} {p q : Pc} (hp : GoodAt i p) (hq : GoodAt i q) : pcC p q = kC (key p) (key q) := by
  unfold pcC kC
  rw [key_k, key_k]
  by_cases hk : icmp p.k q.k = 0
  · rw [hk, thn_zero, thn_zero]
    have he : p.k = q.k := by have := icmp_cases p.k q.k; omega
    by_cases h6 : p.k = 6
    · obtain ⟨f1, n1, d1⟩ := hp h6
      obtain ⟨f2, n2, d2⟩ := hq (by omega)
      have q6 : q.k = 6 := by omega
      unfold key
      rw [f1, f2, h6, q6]
      by_cases hi : i = 0
      · rw [decide_eq_true hi]
        simp only [Bool.not_true, Bool.and_false, Bool.false_and, Bool.false_eq_true, if_false, beq_self_eq_true, Bool.true_or, if_true, icmp_self, thn_zero]
        rfl
      · rw [decide_eq_false hi]
        simp only [Bool.not_false, Bool.and_true, beq_self_eq_true, Bool.true_and, Bool.true_or, if_true]
        by_cases z1 : p.t.head? = some 48
        · rw [if_pos z1]
          by_cases z2 : q.t.head? = some 48
          · rw [if_pos z2]
            simp only [icmp_self, thn_zero]
            rcases nought_zero z1 with e1 | e1
            · rw [e1]; rfl
            · rcases nought_zero z2 with e2 | e2
              · rw [e2, Bool.or_true]; rfl
              · rw [e1, e2]; rfl
          · rw [if_neg z2]
            have hr : thn (icmp 0 1) (thn (icmp 0 (q.t.length : Int)) (bcmp p.t q.t)) = -1 := rfl
            simp only [hr]
            rcases nought_zero z1 with e1 | e1
            · rw [e1]; exact zero_less z1 z2 d2 n2
            · have e2 : nought p.t = false := by rw [e1]; rfl
              rw [e2, nought_not z2]
              simp only [Bool.or_self, Bool.false_eq_true, if_false]
              unfold numC
              rw [e1, strip_zero, strip_id z2]
              have := pos_len n2
              have e3 : icmp ((([] : List UInt8).length : Nat) : Int) (q.t.length : Int) = -1 := by
                unfold icmp; rw [if_pos (by simp; omega)]
              rw [e3]; rfl
        · rw [if_neg z1]
          by_cases z2 : q.t.head? = some 48
          · rw [if_pos z2]
            have hr : thn (icmp 1 0) (thn (icmp (p.t.length : Int) 0) (bcmp p.t q.t)) = 1 := rfl
            simp only [hr]
            rcases nought_zero z2 with e1 | e1
            · rw [e1, Bool.or_true]
              simp only [if_true]
              have := zero_less z2 z1 d1 n1
              have := bcmp_ord.anti q.t p.t
              omega
            · have e2 : nought q.t = false := by rw [e1]; rfl
              rw [e2, nought_not z1]
              simp only [Bool.or_self, Bool.false_eq_true, if_false]
              unfold numC
              rw [e1, strip_zero, strip_id z1]
              have := pos_len n1
              have e3 : icmp (p.t.length : Int) ((([] : List UInt8).length : Nat) : Int) = 1 := by
                unfold icmp; rw [if_neg (by simp), if_pos (by simp; omega)]
              rw [e3]; rfl
          · rw [if_neg z2]
            simp only [icmp_self, thn_zero, nought_not z1, nought_not z2, Bool.or_self, Bool.false_eq_true, if_false]
            exact numC_id (strip_id z1) (strip_id z2)
    · have h6' : (p.k == 6) = false := by simpa using h6
      have q6' : (q.k == 6) = false := by rw [← he]; exact h6'
      unfold key
      rw [← he, h6']
      simp only [Bool.false_and, Bool.false_eq_true, if_false, Bool.false_or]
      by_cases h3 : (p.k == 3 || p.k == 2) = true
      · rw [if_pos h3, if_pos h3, if_pos h3]
        simp only [icmp_self, thn_zero]
        rfl
      · rw [if_neg h3, if_neg h3, if_neg h3]
        simp only [icmp_self, thn_zero]
  · rw [thn_ne hk, thn_ne hk]
theorem pcs_key : ∀ (ps qs : List Pc) (i : Nat), (∀ (j : Nat) p, ps[j]? = some p → GoodAt (i + j) p) → (∀ (j : Nat) p, qs[j]? = some p → GoodAt (i + j) p) →
    lcmp pcC ps qs = lcmp kC (ps.map key) (qs.map key)
  | [], [], i, _, _ => rfl
  | [], _ :: _, i, _, _ => rfl
  | _ :: _, [], i, _, _ => rfl
  | p :: ps, q :: qs, i, hp, hq => by
    have ih := pcs_key ps qs (i + 1) (fun j x h => by have := hp (j + 1) x (by simpa using h); rw [show i + 1 + j = i + (j + 1) by omega]; exact this) (fun j x h => by have := hq (j + 1) x (by simpa using h); rw [show i + 1 + j = i + (j + 1) by omega]; exact this)
    simp only [lcmp, List.map_cons]
    rw [ih, pc_key (hp 0 p rfl) (hq 0 q rfl)]
theorem lists_key {ps qs : List Pc} (hp : Good ps) (hq : Good qs) : lcmp pcC ps qs = lcmp kC (ps.map key) (qs.map key) :=
  pcs_key ps qs 0 (fun j p h => by rw [Nat.zero_add]; exact hp j p h) (fun j p h => by rw [Nat.zero_add]; exact hq j p h)
/-- What slices.CompareFunc does. -/
def cfR : List Pc → List Pc → Option Int
  | [], _ => none
  | _ :: _, [] => some 1
  | p :: l, q :: m => if pcC p q = 0 then cfR l m else some (pcC p q)
theorem cf_loop (ps qs : List Pc) (hs : ps.length ≤ 100000) : ∀ (l : List Pc) (i : Nat), ps.drop i = l →
    slices_CompareFunc_version_piece_version_piece_version_piece_version_piece_f42_l2 (ps.map pcA) (qs.map pcA) (ps.map pcA) (ps.length : Int) (i : Int) =
      some (match cfR l (qs.drop i) with | none => Sum.inl (ps.map pcA, qs.map pcA) | some r => Sum.inr r)
  | [], i, h => by
    apply slices_CompareFunc_version_piece_version_piece_version_piece_version_piece_f42_l2_of
    unfold slices_CompareFunc_version_piece_version_piece_version_piece_version_piece_f42_l2_E
    rw [out_dec h]
    rfl
  | p :: t, i, h => by
    obtain ⟨h1, h2, h3, h4⟩ := drop_cons h
    have ih := cf_loop ps qs hs t (i + 1) h3
    have hd : (ps.map pcA).drop i = pcA p :: t.map pcA := by rw [← List.map_drop, h]; rfl
    apply slices_CompareFunc_version_piece_version_piece_version_piece_version_piece_f42_l2_of
    unfold slices_CompareFunc_version_piece_version_piece_version_piece_version_piece_f42_l2_E
    rw [in_dec h, getL_of hd, wr_succ (by omega), ih]
    simp only [pcA, dAgg, dCons, dInt, dStr, dBool, dNil, cond_true, if_true, List.length_map]
    cases hq : qs.drop i with
    | nil =>
      have := drop_nil hq
      rw [decide_eq_true (by omega)]
      rfl
    | cons q m =>
      obtain ⟨g1, g2, g3, g4⟩ := drop_cons hq
      have hd2 : (qs.map pcA).drop i = pcA q :: m.map pcA := by rw [← List.map_drop, hq]; rfl
      rw [decide_eq_false (by omega)]
      have hg : ∀ K : AV → Option ((List AV × List AV) ⊕ Int), getL (List.map pcA qs) (i : Int) K = K (pcA q) := fun K => getL_of hd2 K
      rw [hg, g3]
      simp only [pcA, dAgg, dCons, dInt, dStr, dBool, dNil, cond_false, if_true, piece_compare_is, Option.bind_some]
      rw [cfR]
      by_cases hz : pcC p q = 0
      · rw [hz, if_pos rfl]; rfl
      · have : (pcC p q != 0) = true := by simpa using hz
        rw [this, if_neg hz]; rfl
theorem cf_eq : ∀ ps qs : List Pc, (match cfR ps qs with | none => if ps.length < qs.length then -1 else 0 | some r => r) = lcmp pcC ps qs
  | [], [] => rfl
  | [], _ :: _ => rfl
  | _ :: _, [] => rfl
  | p :: ps, q :: qs => by
    have ih := cf_eq ps qs
    rw [cfR, lcmp]
    by_cases hz : pcC p q = 0
    · rw [if_pos hz, hz, thn_zero, ← ih]
      simp only [List.length_cons, Nat.add_lt_add_iff_right]
    · rw [if_neg hz, thn_ne hz]
theorem cf_is (ps qs : List Pc) (hs : ps.length ≤ 100000) : slices_CompareFunc_version_piece_version_piece_version_piece_version_piece_f42 (ps.map pcA) (qs.map pcA) = some (lcmp pcC ps qs) := by
  apply slices_CompareFunc_version_piece_version_piece_version_piece_version_piece_f42_of
  unfold slices_CompareFunc_version_piece_version_piece_version_piece_version_piece_f42_E
  have h : slices_CompareFunc_version_piece_version_piece_version_piece_version_piece_f42_l2 (ps.map pcA) (qs.map pcA) (ps.map pcA) (ps.length : Int) 0 = _ := cf_loop ps qs hs ps 0 rfl
  rw [List.length_map, h, ← cf_eq, List.drop_zero]
  cases cfR ps qs with
  | none =>
    simp only [Option.bind_some, Sum.elim_inl, List.length_map]
    by_cases hl : ps.length < qs.length
    · rw [if_pos hl, decide_eq_true (by omega)]; rfl
    · rw [if_neg hl, decide_eq_false (by omega)]; rfl
  | some r => rfl
end Go.Proofs.YtlgpcmklpknmcaaDoor
 end
