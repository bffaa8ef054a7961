/- The parts of a text: those of the program are those that the document's reader sees.
   Dependencies as trees: how large they are, what is wrong with them.
   What is wrong with a dependency, and its text.
   The text of a right dependency. -/
import Derived.Test.YtomaefbhcpmbiaaPa
 section
set_option linter.unusedVariables false
set_option linter.unusedSimpArgs false
namespace Go.Proofs.Ytomaefbhcpmbiaa
open Go Go.Eng Go.Proofs

/-- How long a word is. -/
def wLen : Nat → List UInt8 → Nat
  | _, [] => 0
  | o, c :: t => if c = 32 then 0 else if c = 40 then wLen (o + 1) t + 1 else if c = 41 then (match o with | 0 => 0 | o + 1 => wLen o t + 1) else wLen o t + 1
theorem wLen_cons (o : Nat) (c : UInt8) (t : List UInt8) : wLen o (c :: t) = if c = 32 then 0 else if c = 40 then wLen (o + 1) t + 1 else if c = 41 then (match o with | 0 => 0 | o + 1 => wLen o t + 1) else wLen o t + 1 := by cases o <;> rfl
/-- How long a part is. -/
def tLen : List UInt8 → Nat
  | [] => 0
  | c :: t => if c = 40 ∨ c = 41 then 1 else wLen 0 (c :: t)
theorem tLen_cons (c : UInt8) (t : List UInt8) : tLen (c :: t) = if c = 40 ∨ c = 41 then 1 else wLen 0 (c :: t) := rfl
theorem wLen_le : ∀ (l : List UInt8) (o : Nat), wLen o l ≤ l.length
  | [], o => by cases o <;> exact Nat.le_refl _
  | c :: t, o => by
    have h1 := wLen_le t (o + 1)
    have h2 := wLen_le t o
    have h3 := wLen_le t (o - 1)
    rw [wLen_cons, List.length_cons]
    split
    · omega
    · split
      · omega
      · split
        · cases o with
          | zero => simp
          | succ o => simp only [Nat.add_sub_cancel] at h3; simp only; omega
        · omega
theorem tLen_le (l : List UInt8) : tLen l ≤ l.length := by
  cases l with
  | nil => exact Nat.le_refl _
  | cons c t =>
    rw [tLen_cons]
    split
    · rw [List.length_cons]; omega
    · exact wLen_le _ _
theorem tLen_pos {c : UInt8} {t : List UInt8} (h : c ≠ 32) : 0 < tLen (c :: t) := by
  rw [tLen_cons]
  split
  · omega
  · rename_i h2
    rw [wLen_cons, if_neg h, if_neg (fun e => h2 (.inl e)), if_neg (fun e => h2 (.inr e))]
    omega
def toks (p : Nat) (l : List UInt8) : List (List UInt8 × Nat) :=
  match l with
  | [] => []
  | c :: t => if h : c = 32 then toks (p + 1) t else ((c :: t).take (tLen (c :: t)), p) :: toks (p + tLen (c :: t)) ((c :: t).drop (tLen (c :: t)))
termination_by l.length
decreasing_by
  · rw [List.length_cons]; omega
  · have := tLen_pos (t := t) h
    rw [List.length_drop, List.length_cons]; omega
theorem toks_nil (p : Nat) : toks p [] = [] := by rw [toks]
theorem toks_blank (p : Nat) (t : List UInt8) : toks p (32 :: t) = toks (p + 1) t := by rw [toks]; simp
theorem toks_tok (p : Nat) {c : UInt8} (t : List UInt8) (h : c ≠ 32) : toks p (c :: t) = ((c :: t).take (tLen (c :: t)), p) :: toks (p + tLen (c :: t)) ((c :: t).drop (tLen (c :: t))) := by
  rw [toks]; simp [h]
theorem toks_le : ∀ (n : Nat) (l : List UInt8) (p : Nat), l.length ≤ n → (toks p l).length ≤ l.length
  | _, [], p, _ => by rw [toks_nil]; exact Nat.le_refl _
  | 0, c :: t, p, h => by rw [List.length_cons] at h; omega
  | n + 1, c :: t, p, h => by
    rw [List.length_cons] at h
    by_cases hc : c = 32
    · subst hc
      rw [toks_blank, List.length_cons]
      have := toks_le n t (p + 1) (by omega)
      omega
    · rw [toks_tok p t hc, List.length_cons]
      have h2 := tLen_pos (t := t) hc
      have := toks_le n ((c :: t).drop (tLen (c :: t))) (p + tLen (c :: t)) (by rw [List.length_drop, List.length_cons]; omega)
      rw [List.length_drop] at this
      have h3 := tLen_le (c :: t)
      rw [List.length_cons] at h3 this ⊢
      omega
/-- How many blanks. -/
def sk (l : List UInt8) : Nat := (l.takeWhile (fun c => c == 32)).length
theorem sk_blank (t : List UInt8) : sk (32 :: t) = sk t + 1 := by
  unfold sk
  rw [List.takeWhile_cons]
  rfl
theorem sk_tok {c : UInt8} (t : List UInt8) (h : c ≠ 32) : sk (c :: t) = 0 := by
  unfold sk
  rw [List.takeWhile_cons]
  have : (c == 32) = false := by simpa using h
  simp only [this]
  rfl
theorem toks_sk : ∀ (l : List UInt8) (p : Nat), toks (p + sk l) (l.drop (sk l)) = toks p l
  | [], p => rfl
  | c :: t, p => by
    by_cases h : c = 32
    · subst h
      rw [sk_blank, List.drop_succ_cons, toks_blank, ← toks_sk t (p + 1)]
      congr 1
      omega
    · rw [sk_tok t h]; rfl
theorem sk_le (l : List UInt8) : sk l ≤ l.length := takeWhile_le _ l
theorem sk_head (l : List UInt8) : ∀ c t, l.drop (sk l) = c :: t → c ≠ 32 := by
  induction l with
  | nil => intro c t h; cases h
  | cons d u ih =>
    intro c t h
    by_cases hd : d = 32
    · subst hd
      rw [sk_blank, List.drop_succ_cons] at h
      exact ih c t h
    · rw [sk_tok u hd] at h
      cases h
      exact hd

/-- A part in the memory. -/
def tE (x : List UInt8 × Nat) : AV := AV.agg [AV.str x.1, AV.int .i64 (x.2 : Int)]
theorem k17_is (s : List UInt8) (out : List (List UInt8 × Nat)) (i j : Nat) (hij : i ≤ j) (hj : j ≤ s.length) (ho : out.length ≤ 50000) :
    rdep_parts_k17 s (out.map tE) (j : Int) (i : Int) = some (s, ((out ++ [((s.take j).drop i, i)]).map tE, (j : Int))) := by
  apply rdep_parts_k17_of
  unfold rdep_parts_k17_E
  rw [cutS_of hij hj, room_of (by simp; omega) (by omega), List.map_append]
  rfl
/-- The inner loop of the program. -/
theorem l6_is (s : List UInt8) (out : List AV) (fr : Int) (hs : s.length ≤ 4611686018427387904) : ∀ (l : List UInt8) (i o : Nat), s.drop i = l → i ≤ s.length → o ≤ i →
    rdep_parts_l6 s out (i : Int) fr (o : Int) = some (s, out, ((i + wLen o l : Nat) : Int), fr)
  | [], i, o, h, hi, ho => by
    have : wLen o [] = 0 := by cases o <;> rfl
    rw [this]
    apply rdep_parts_l6_of
    unfold rdep_parts_l6_E
    rw [out_dec h]
    rfl
  | c :: t, i, o, h, hi, ho => by
    obtain ⟨h1, h2, h3, h4⟩ := drop_cons h
    have ih0 := l6_is s out fr hs t (i + 1) o h3 (by omega) (by omega)
    have ih1 := l6_is s out fr hs t (i + 1) (o + 1) h3 (by omega) (by omega)
    apply rdep_parts_l6_of
    unfold rdep_parts_l6_E
    have e40 : ((UInt8.toNat c : Int) == 40) = (c == 40) := byte_lit c 40 rfl
    have e41 : ((UInt8.toNat c : Int) == 41) = (c == 41) := byte_lit c 41 rfl
    have e32 : ((UInt8.toNat c : Int) == 32) = (c == 32) := byte_lit c 32 rfl
    simp only [in_dec h, idxS_of h, cond_true, bne, e40, e41, e32, cond_some, Option.bind_some, cond_and, cond_or]
    rw [wr_succ (by omega), wr_succ (by omega), ih0, ih1, wLen_cons]
    by_cases c32 : c = 32
    · subst c32
      rfl
    · have q32 : (c == 32) = false := by simpa using c32
      rw [q32, if_neg c32]
      by_cases c40 : c = 40
      · subst c40
        simp only [Bool.not_false, Bool.true_and, cond_true, beq_self_eq_true, if_true, Bool.false_or, Bool.or_false]
        have : ((40 : UInt8) == 41) = false := rfl
        rw [this]
        simp only [Bool.not_false, Bool.true_or, cond_true]
        rw [Nat.add_right_comm, Nat.add_assoc]
      · have q40 : (c == 40) = false := by simpa using c40
        rw [q40, if_neg c40]
        by_cases c41 : c = 41
        · subst c41
          simp only [Bool.not_false, Bool.true_and, cond_true, cond_false, beq_self_eq_true, if_true, Bool.not_true, Bool.false_or]
          cases o with
          | zero => rfl
          | succ o =>
            have q : decide ((0 : Int) < ((o + 1 : Nat) : Int)) = true := decide_eq_true (by omega)
            rw [q, wr_pred (by omega), l6_is s out fr hs t (i + 1) o h3 (by omega) (by omega)]
            simp only [cond_true]
            rw [Nat.add_right_comm, Nat.add_assoc]
        · have q41 : (c == 41) = false := by simpa using c41
          rw [q41, if_neg c41]
          simp only [Bool.not_false, Bool.true_and, Bool.true_or, cond_true, cond_false]
          rw [Nat.add_right_comm, Nat.add_assoc]
theorem parts_loop (s : List UInt8) (hs : s.length ≤ 10000) : ∀ (n : Nat) (l : List UInt8) (i : Nat) (out : List (List UInt8 × Nat)), l.length ≤ n → s.drop i = l → i ≤ s.length → out.length ≤ i →
    rdep_parts_l3 s (out.map tE) (i : Int) = some (s, (out ++ toks i l).map tE)
  | _, [], i, out, hn, h, hi, ho => by
    apply rdep_parts_l3_of
    unfold rdep_parts_l3_E
    rw [out_dec h, toks_nil, List.append_nil]
    rfl
  | 0, c :: t, i, out, hn, h, hi, ho => by rw [List.length_cons] at hn; omega
  | n + 1, c :: t, i, out, hn, h, hi, ho => by
    obtain ⟨h1, h2, h3, h4⟩ := drop_cons h
    rw [List.length_cons] at hn
    apply rdep_parts_l3_of
    unfold rdep_parts_l3_E
    have e40 : ((UInt8.toNat c : Int) == 40) = (c == 40) := byte_lit c 40 rfl
    have e41 : ((UInt8.toNat c : Int) == 41) = (c == 41) := byte_lit c 41 rfl
    have e32 : ((UInt8.toNat c : Int) == 32) = (c == 32) := byte_lit c 32 rfl
    simp only [in_dec h, idxS_of h, cond_true, e40, e41, e32]
    rw [wr_succ (by omega)]
    by_cases c32 : c = 32
    · subst c32
      rw [toks_blank]
      exact parts_loop s hs n t (i + 1) out (by omega) h3 (by omega) (by omega)
    · have q32 : (c == 32) = false := by simpa using c32
      rw [q32, cond_false, toks_tok i t c32]
      have hpos := tLen_pos (t := t) c32
      have hle := tLen_le (c :: t)
      rw [List.length_cons] at hle
      have hd : s.drop (i + tLen (c :: t)) = (c :: t).drop (tLen (c :: t)) := by rw [← List.drop_drop, h]
      have hrec := parts_loop s hs n ((c :: t).drop (tLen (c :: t))) (i + tLen (c :: t)) (out ++ [((c :: t).take (tLen (c :: t)), i)]) (by rw [List.length_drop, List.length_cons]; omega) hd (by omega) (by rw [List.length_append, List.length_singleton]; omega)
      rw [List.append_assoc] at hrec
      have htk : (s.take (i + tLen (c :: t))).drop i = (c :: t).take (tLen (c :: t)) := by
        rw [List.drop_take, h]
        congr 1
        omega
      have hk := k17_is s out i (i + tLen (c :: t)) (by omega) (by omega) (by omega)
      rw [htk] at hk
      by_cases c40 : c = 40
      · subst c40
        have hl : tLen (40 :: t) = 1 := rfl
        rw [hl] at hrec hk ⊢
        simp only [beq_self_eq_true, cond_true]
        rw [hk]
        exact hrec
      · have q40 : (c == 40) = false := by simpa using c40
        rw [q40, cond_false]
        by_cases c41 : c = 41
        · subst c41
          have hl : tLen (41 :: t) = 1 := rfl
          rw [hl] at hrec hk ⊢
          simp only [beq_self_eq_true, cond_true]
          rw [hk]
          exact hrec
        · have q41 : (c == 41) = false := by simpa using c41
          have hl : tLen (c :: t) = wLen 0 (c :: t) := by
            rw [tLen_cons, if_neg (fun e => Or.elim e c40 c41)]
          have h6 := l6_is s (out.map tE) (i : Int) (by omega) (c :: t) i 0 h (by omega) (by omega)
          have h6' : rdep_parts_l6 s (out.map tE) (i : Int) (i : Int) 0 = _ := h6
          rw [← hl] at h6'
          rw [q41, cond_false, h6']
          simp only [Option.bind_some]
          rw [hk]
          exact hrec
/-- All that is left from a place on, the end too. -/
def T (s : List UInt8) (a : Nat) : List (List UInt8 × Nat) := toks a (s.drop a) ++ [([], s.length)]
theorem parts_is (s : List UInt8) (hs : s.length ≤ 10000) : rdep_parts s = some ((T s 0).map tE) := by
  apply rdep_parts_of
  unfold rdep_parts_E
  have h := parts_loop s hs s.length s 0 [] (Nat.le_refl _) rfl (by omega) (by simp)
  have h' : rdep_parts_l3 s [] 0 = some (s, ([] ++ toks 0 s).map tE) := h
  rw [h', List.nil_append]
  have hl := toks_le s.length s 0 (Nat.le_refl _)
  simp only [Option.bind_some]
  rw [room_of (by simp; omega) (by omega)]
  unfold T
  rw [List.drop_zero, List.map_append]
  rfl
theorem T_length (s : List UInt8) (hs : s.length ≤ 10000) : ((T s 0).map tE).length ≤ 10001 := by
  have hl := toks_le s.length s 0 (Nat.le_refl _)
  unfold T
  rw [List.drop_zero, List.length_map, List.length_append, List.length_singleton]
  omega

/-- The program's place and the document's are the same. -/
def At (s : List UInt8) (ps : List AV) (n a : Nat) : Prop := ps.drop n = (T s a).map tE ∧ ps.length ≤ 10001 ∧ a ≤ s.length
theorem At_zero (s : List UInt8) (hs : s.length ≤ 10000) : At s ((T s 0).map tE) 0 0 := ⟨rfl, T_length s hs, by omega⟩
/-- One part. -/
theorem step {s : List UInt8} {ps : List AV} {n a : Nat} (hs : s.length ≤ 10000) (h : At s ps n a) : ∃ (tok : List UInt8) (m n' : Nat),
    (∀ f1 f2 f3, rdep_reader_look ps (n : Int) f1 f2 f3 = some (tok, (m : Int))) ∧
    (∀ f1 f2 f3, rdep_reader_take ps (n : Int) f1 f2 f3 = some ((tok, (m : Int)), (ps, (n' : Int), f1, f2, f3))) ∧
    a ≤ m ∧ m + tok.length ≤ s.length ∧ At s ps n m ∧ At s ps n' (m + tok.length) ∧ (tok, m) = (T s a).headD ([], 0) ∧ (tok ≠ [] → T s (m + tok.length) = (T s a).tail) := by
  obtain ⟨h1, h2, h3⟩ := h
  have hm := sk_le (s.drop a)
  rw [List.length_drop] at hm
  have hT : T s (a + sk (s.drop a)) = T s a := by
    unfold T
    rw [← List.drop_drop, toks_sk]
  have hlen := congrArg List.length h1
  rw [List.length_drop, List.length_map] at hlen
  cases hd : s.drop (a + sk (s.drop a)) with
  | nil =>
    have hml := drop_nil hd
    have hTe : T s (a + sk (s.drop a)) = [([], s.length)] := by
      unfold T
      rw [hd, toks_nil]
      rfl
    have e0 : a + sk (s.drop a) = s.length := by omega
    have hps : ps.drop n = [tE ([], s.length)] := by rw [h1, ← hT, hTe]; rfl
    have hn : ps.length = n + 1 := by
      have := congrArg List.length hps
      rw [List.length_drop, List.length_singleton] at this
      omega
    refine ⟨[], s.length, n, ?_, ?_, by omega, by simp, ⟨by rw [h1, ← hT, e0], h2, Nat.le_refl _⟩, ⟨by rw [h1, ← hT, e0]; rfl, h2, Nat.le_refl _⟩, by rw [← hT, hTe]; rfl, fun h => absurd rfl h⟩
    · intro f1 f2 f3
      apply rdep_reader_look_of
      unfold rdep_reader_look_E
      exact (getL_of hps _).trans rfl
    · intro f1 f2 f3
      apply rdep_reader_take_of
      unfold rdep_reader_take_E
      refine (getL_of hps _).trans ?_
      simp only [tE, dAgg, dCons, dStr, dInt, dNil, BEq.rfl, if_true, cond_true]
      rw [hn, wr_pred (by omega), wr_succ (by omega), if_pos (by omega)]
  | cons d t =>
    have hd32 := sk_head (s.drop a) d t (by rw [List.drop_drop]; exact hd)
    obtain ⟨g1, g2, g3, g4⟩ := drop_cons hd
    have hle := tLen_le (d :: t)
    rw [List.length_cons] at hle
    have hpos := tLen_pos (t := t) hd32
    have htl : ((d :: t).take (tLen (d :: t))).length = tLen (d :: t) := by rw [List.length_take, List.length_cons]; omega
    have hTe : T s (a + sk (s.drop a)) = ((d :: t).take (tLen (d :: t)), a + sk (s.drop a)) :: T s (a + sk (s.drop a) + tLen (d :: t)) := by
      unfold T
      rw [hd, toks_tok _ t hd32, List.cons_append]
      congr 3
      rw [← List.drop_drop, hd]
    have hps : ps.drop n = tE ((d :: t).take (tLen (d :: t)), a + sk (s.drop a)) :: (T s (a + sk (s.drop a) + tLen (d :: t))).map tE := by rw [h1, ← hT, hTe]; rfl
    obtain ⟨k1, k2, k3, k4⟩ := drop_cons hps
    have hne : 0 < ((T s (a + sk (s.drop a) + tLen (d :: t))).map tE).length := by
      unfold T
      rw [List.length_map, List.length_append, List.length_singleton]
      omega
    refine ⟨(d :: t).take (tLen (d :: t)), a + sk (s.drop a), n + 1, ?_, ?_, by omega, by rw [htl]; omega, ⟨by rw [h1, ← hT], h2, by omega⟩, ⟨by rw [k3, htl], h2, by rw [htl]; omega⟩, by rw [← hT, hTe]; rfl, fun _ => by rw [← hT, hTe, htl]; rfl⟩
    · intro f1 f2 f3
      apply rdep_reader_look_of
      unfold rdep_reader_look_E
      exact (getL_of hps _).trans rfl
    · intro f1 f2 f3
      apply rdep_reader_take_of
      unfold rdep_reader_take_E
      refine (getL_of hps _).trans ?_
      simp only [tE, dAgg, dCons, dStr, dInt, dNil, BEq.rfl, if_true, cond_true]
      rw [wr_succ (by omega), wr (by omega), if_neg (by omega)]
end Go.Proofs.Ytomaefbhcpmbiaa
 end

 section
set_option linter.unusedVariables false
set_option linter.unusedSimpArgs false
namespace Go.Proofs.Ytomaefbhcpmbiaa
open Go Go.Eng Go.Proofs

inductive Tree where
  | mk (op name : List UInt8) (aop : Int) (ver : List UInt8) (kids : List Tree)
 mutual
def Tree.av : Tree → AV
  | .mk o n a v ks => .agg [.str o, .str n, .int .i64 a, .str v, .sl false 5 (avL ks)]
def avL : List Tree → List AV
  | [] => []
  | k :: ks => k.av :: avL ks
 end
theorem avL_map : ∀ ks : List Tree, avL ks = ks.map Tree.av
  | [] => rfl
  | k :: ks => by rw [avL, avL_map ks]; rfl
theorem avL_drop {ks : List Tree} {i : Nat} {k : Tree} {t : List Tree} (h : ks.drop i = k :: t) : (avL ks).drop i = k.av :: avL t := by
  rw [avL_map, avL_map, ← List.map_drop, h]; rfl
theorem avL_length (ks : List Tree) : (avL ks).length = ks.length := by rw [avL_map, List.length_map]

/-! ### How large -/
 mutual
def sz : Tree → Int → Int
  | .mk o n a v ks, most => if most < 1 ∨ 300 < o.length ∨ 300 < n.length ∨ 300 < v.length then most + 1 else szL ks most 1
def szL : List Tree → Int → Int → Int
  | [], most, n => n
  | k :: ks, most, n => if n ≤ most then szL ks most (n + sz k (most - n)) else n
 end
 mutual
theorem sz_range : ∀ (T : Tree) (most : Int), 0 ≤ most → 1 ≤ sz T most ∧ sz T most ≤ most + 1
  | .mk o n a v ks, most, h => by
    rw [sz]
    split
    · omega
    · have := szL_range ks most 1 (by omega) (by omega)
      omega
theorem szL_range : ∀ (ks : List Tree) (most n : Int), 1 ≤ n → n ≤ most + 1 → n ≤ szL ks most n ∧ szL ks most n ≤ most + 1
  | [], most, n, h1, h2 => by rw [szL]; omega
  | k :: ks, most, n, h1, h2 => by
    rw [szL]
    split
    · have := sz_range k (most - n) (by omega)
      have h3 := szL_range ks most (n + sz k (most - n)) (by omega) (by omega)
      omega
    · omega
 end
theorem size_loop (o n : List UInt8) (a : Int) (v : List UInt8) (ks : List Tree) (most : Int) (hm : 0 ≤ most ∧ most ≤ 300)
    (hk : ∀ k ∈ ks, ∀ m : Int, 0 ≤ m → m ≤ 300 → ∀ o n a v q, k = .mk o n a v q → drayageref15_Size o n a v (avL q) m = some (sz k m)) : ∀ (l : List Tree) (i : Nat) (c : Int), ks.drop i = l → i ≤ ks.length → 1 ≤ c → c ≤ most + 1 → (i : Int) + 1 ≤ c →
    drayageref15_Size_l5 most c (i : Int) o n a v (avL ks) = some (szL l most c, (o, n, a, v, avL ks))
  | [], i, c, h, hi, h1, h2, h3 => by
    apply drayageref15_Size_l5_of
    unfold drayageref15_Size_l5_E
    have := drop_nil h
    rw [avL_length, out_dec h, szL]
    rfl
  | k :: t, i, c, h, hi, h1, h2, h3 => by
    obtain ⟨g1, g2, g3, g4⟩ := drop_cons h
    apply drayageref15_Size_l5_of
    unfold drayageref15_Size_l5_E
    rw [avL_length, in_dec h, szL]
    by_cases hc : c ≤ most
    · rw [if_pos hc, decide_eq_true hc]
      have hr := sz_range k (most - c) (by omega)
      have ih := size_loop o n a v ks most hm hk t (i + 1) (c + sz k (most - c)) g3 (by omega) (by omega) (by omega) (by omega)
      simp only [cond_true, Option.bind_some, cond_some]
      rw [getL_of (avL_drop h)]
      obtain ⟨o', n', a', v', q⟩ := k
      have hs := hk _ (List.mem_of_getElem? g2) (most - c) (by omega) (by omega) o' n' a' v' q rfl
      simp only [Tree.av, dAgg, dCons, dStr, dInt, dSl, dNil, BEq.rfl, Bool.and_self, and_self, if_true]
      rw [wr (by omega), hs]
      simp only [Option.bind_some]
      rw [wr (by omega), wr_succ (by omega)]
      exact ih
    · rw [if_neg hc, decide_eq_false hc]
      rfl
 mutual
theorem size_is : ∀ (T : Tree) (most : Int), 0 ≤ most → most ≤ 300 → ∀ o n a v q, T = .mk o n a v q → drayageref15_Size o n a v (avL q) most = some (sz T most)
  | .mk o n a v ks, most, h0, h1, o', n', a', v', q, e => by
    cases e
    apply drayageref15_Size_of
    unfold drayageref15_Size_E
    rw [sz]
    simp only [cond_some, cond_or, Option.bind_some]
    by_cases hb : most < 1 ∨ 300 < o.length ∨ 300 < n.length ∨ 300 < v.length
    · rw [if_pos hb]
      have : (((decide (most < 1) || decide ((300 : Int) < (o.length : Int))) || decide ((300 : Int) < (n.length : Int))) || decide ((300 : Int) < (v.length : Int))) = true := by
        simp only [Bool.or_eq_true, decide_eq_true_eq]
        omega
      rw [this, cond_true, wr (by omega)]
    · rw [if_neg hb]
      have : (((decide (most < 1) || decide ((300 : Int) < (o.length : Int))) || decide ((300 : Int) < (n.length : Int))) || decide ((300 : Int) < (v.length : Int))) = false := by
        simp only [Bool.or_eq_false_iff, decide_eq_false_iff_not]
        omega
      have hL := size_loop o n a v ks most ⟨h0, h1⟩ (sizeL_is ks) ks 0 1 rfl (by omega) (by omega) (by omega) (by omega)
      have hL' : drayageref15_Size_l5 most 1 0 o n a v (avL ks) = _ := hL
      rw [this, cond_false, hL']
      rfl
theorem sizeL_is : ∀ (ks : List Tree), ∀ k ∈ ks, ∀ m : Int, 0 ≤ m → m ≤ 300 → ∀ o n a v q, k = .mk o n a v q → drayageref15_Size o n a v (avL q) m = some (sz k m)
  | [], k, hk => absurd hk List.not_mem_nil
  | k0 :: ks, k, hk => by
    rcases List.mem_cons.1 hk with e | e
    · rw [e]; exact size_is k0
    · exact sizeL_is ks k e
 end
/-! ### How many, and all texts short -/
 mutual
def nodes : Tree → Nat
  | .mk _ _ _ _ ks => 1 + nodesL ks
def nodesL : List Tree → Nat
  | [] => 0
  | k :: ks => nodes k + nodesL ks
 end
 mutual
def Sm : Tree → Prop
  | .mk o n a v ks => o.length ≤ 300 ∧ n.length ≤ 300 ∧ v.length ≤ 300 ∧ SmL ks
def SmL : List Tree → Prop
  | [] => True
  | k :: ks => Sm k ∧ SmL ks
 end
 mutual
theorem sz_small : ∀ (T : Tree) (most : Int), 0 ≤ most → sz T most ≤ most → sz T most = nodes T ∧ Sm T
  | .mk o n a v ks, most, h0, h => by
    rw [sz] at h ⊢
    rw [nodes, Sm]
    split at h
    · omega
    · rename_i hb
      rw [if_neg hb]
      have := szL_small ks most 1 (by omega) (by omega) h
      refine ⟨by omega, by omega, by omega, by omega, this.2⟩
theorem szL_small : ∀ (ks : List Tree) (most n : Int), 1 ≤ n → n ≤ most + 1 → szL ks most n ≤ most → szL ks most n = n + nodesL ks ∧ SmL ks
  | [], most, n, h1, h2, h => by rw [szL, nodesL, SmL]; simp
  | k :: ks, most, n, h1, h2, h => by
    rw [szL] at h ⊢
    rw [nodesL, SmL]
    split at h
    · rename_i hc
      rw [if_pos hc]
      have hr := sz_range k (most - n) (by omega)
      have hrL := szL_range ks most (n + sz k (most - n)) (by omega) (by omega)
      have h3 := sz_small k (most - n) (by omega) (by omega)
      have h4 := szL_small ks most (n + sz k (most - n)) (by omega) (by omega) h
      refine ⟨by omega, h3.2, h4.2⟩
    · omega
 end
theorem nodes_pos : ∀ T : Tree, 1 ≤ nodes T
  | .mk _ _ _ _ ks => by rw [nodes]; omega
theorem nodesL_length : ∀ ks : List Tree, ks.length ≤ nodesL ks
  | [] => Nat.le_refl _
  | k :: ks => by
    have := nodesL_length ks
    have := nodes_pos k
    rw [List.length_cons, nodesL]; omega
theorem nodesL_mem : ∀ {ks : List Tree} {k : Tree}, k ∈ ks → nodes k ≤ nodesL ks
  | [], k, h => absurd h List.not_mem_nil
  | k0 :: ks, k, h => by
    rw [nodesL]
    rcases List.mem_cons.1 h with e | e
    · rw [e]; omega
    · have := nodesL_mem e; omega

/-! ### How deep -/
 mutual
def dp : Tree → Int
  | .mk o _ _ _ ks => if o = [] then dpL ks 0 else if dpL ks 0 < 1 then 1 else dpL ks 0
def dpL : List Tree → Int → Int
  | [], n => n
  | k :: ks, n => dpL ks (if n < 1 + dp k then 1 + dp k else n)
 end
 mutual
theorem dp_range : ∀ T : Tree, 0 ≤ dp T ∧ dp T ≤ nodes T
  | .mk o n a v ks => by
    rw [dp, nodes]
    have := dpL_range ks 0 (by omega)
    split
    · omega
    · split <;> omega
theorem dpL_range : ∀ (ks : List Tree) (n : Int), 0 ≤ n → n ≤ dpL ks n ∧ (dpL ks n ≤ n ∨ dpL ks n ≤ 1 + nodesL ks)
  | [], n, h => by rw [dpL, nodesL]; omega
  | k :: ks, n, h => by
    rw [dpL, nodesL]
    have h1 := dp_range k
    have h2 := nodes_pos k
    split
    · have := dpL_range ks (1 + dp k) (by omega); omega
    · have := dpL_range ks n h; omega
 end
end Go.Proofs.Ytomaefbhcpmbiaa
 end

 section
set_option linter.unusedVariables false
set_option linter.unusedSimpArgs false
namespace Go.Proofs.Ytomaefbhcpmbiaa
open Go Go.Eng Go.Proofs

def Tree.o : Tree → List UInt8 | .mk o _ _ _ _ => o
def Tree.n : Tree → List UInt8 | .mk _ n _ _ _ => n
def Tree.a : Tree → Int | .mk _ _ a _ _ => a
def Tree.v : Tree → List UInt8 | .mk _ _ _ v _ => v
def Tree.k : Tree → List Tree | .mk _ _ _ _ k => k
theorem depth_loop (o n : List UInt8) (a : Int) (v : List UInt8) (K : List AV) (ks : List Tree) (hl : nodesL ks ≤ 20000)
    (hk : ∀ k ∈ ks, rdep_Depth k.o k.n k.a k.v (avL k.k) = some (dp k)) : ∀ (l : List Tree) (i : Nat) (c : Int), ks.drop i = l → i ≤ ks.length → 0 ≤ c → c ≤ 30000 →
    rdep_Depth_l3 c (avL ks) (ks.length : Int) (i : Int) o n a v K = some (dpL l c, (o, n, a, v, K))
  | [], i, c, h, hi, h1, h2 => by
    apply rdep_Depth_l3_of
    unfold rdep_Depth_l3_E
    rw [out_dec h, dpL]
    rfl
  | k :: t, i, c, h, hi, h1, h2 => by
    obtain ⟨g1, g2, g3, g4⟩ := drop_cons h
    have hm := List.mem_of_getElem? g2
    have hkk := hk k hm
    have hr := dp_range k
    have hn := nodesL_mem hm
    have hlen := nodesL_length ks
    apply rdep_Depth_l3_of
    unfold rdep_Depth_l3_E
    rw [in_dec h, dpL, cond_true, getL_of (avL_drop h)]
    obtain ⟨o', n', a', v', q⟩ := k
    have hkk' : rdep_Depth o' n' a' v' (avL q) = some (dp (.mk o' n' a' v' q)) := hkk
    simp only [Tree.av, dAgg, dCons, dStr, dInt, dSl, dNil, BEq.rfl, Bool.and_self, and_self, if_true, hkk', Option.bind_some]
    rw [wr (by omega), wr_succ (by omega)]
    exact depth_loop o n a v K ks hl hk t (i + 1) _ g3 (by omega) (by split <;> omega) (by split <;> omega)
 mutual
theorem depth_is : ∀ (T : Tree), nodes T ≤ 20000 → rdep_Depth T.o T.n T.a T.v (avL T.k) = some (dp T)
  | .mk o n a v ks, h => by
    rw [nodes] at h
    apply rdep_Depth_of
    unfold rdep_Depth_E
    rw [dp]
    have hL := depth_loop o n a v (avL ks) ks (by omega) (depthL_is ks (by omega)) ks 0 0 rfl (by omega) (by omega) (by omega)
    have hL' : rdep_Depth_l3 0 (avL ks) ((avL ks).length : Int) 0 o n a v (avL ks) = some (dpL ks 0, (o, n, a, v, avL ks)) := by rw [avL_length]; exact hL
    show (rdep_Depth_l3 0 (avL ks) ((avL ks).length : Int) 0 o n a v (avL ks)).bind _ = _
    rw [hL']
    simp only [Option.bind_some]
    by_cases ho : o = []
    · subst ho; rfl
    · have : (o == []) = false := by rw [beq_eq_false_iff_ne]; exact ho
      rw [this, if_neg ho]
      rfl
theorem depthL_is : ∀ (ks : List Tree), nodesL ks ≤ 20000 → ∀ k ∈ ks, rdep_Depth k.o k.n k.a k.v (avL k.k) = some (dp k)
  | [], h, k, hk => absurd hk List.not_mem_nil
  | k0 :: ks, h, k, hk => by
    rw [nodesL] at h
    rcases List.mem_cons.1 hk with e | e
    · rw [e]; exact depth_is k0 (by omega)
    · exact depthL_is ks (by omega) k e
 end

/-! ### How many atoms -/
 mutual
def ats : Tree → Int → Int
  | .mk o _ _ _ ks, deep => if o = [] then 1 else atsL ks deep 0
def atsL : List Tree → Int → Int → Int
  | [], deep, n => n
  | k :: ks, deep, n => if n ≤ 64 ∧ 0 < deep then atsL ks deep (n + ats k (deep - 1)) else atsL ks deep n
 end
 mutual
theorem ats_range : ∀ (T : Tree) (deep : Int), 0 ≤ ats T deep ∧ ats T deep ≤ nodes T
  | .mk o n a v ks, deep => by
    rw [ats, nodes]
    have := atsL_range ks deep 0 (by omega)
    split <;> omega
theorem atsL_range : ∀ (ks : List Tree) (deep n : Int), 0 ≤ n → n ≤ atsL ks deep n ∧ atsL ks deep n ≤ n + nodesL ks
  | [], deep, n, h => by rw [atsL, nodesL]; omega
  | k :: ks, deep, n, h => by
    rw [atsL, nodesL]
    have h1 := ats_range k (deep - 1)
    split
    · have := atsL_range ks deep (n + ats k (deep - 1)) (by omega); omega
    · have := atsL_range ks deep n h; omega
 end
theorem atoms_loop (o n : List UInt8) (a : Int) (v : List UInt8) (K : List AV) (ks : List Tree) (deep : Int) (hdeep : 0 ≤ deep ∧ deep ≤ 32) (hl : nodesL ks ≤ 20000)
    (hk : ∀ k ∈ ks, ∀ d : Int, 0 ≤ d → d ≤ 32 → rdep_atoms k.o k.n k.a k.v (avL k.k) d = some (ats k d)) : ∀ (l : List Tree) (i : Nat) (c : Int), ks.drop i = l → i ≤ ks.length → 0 ≤ c → c + nodesL l ≤ 30000 →
    rdep_atoms_l5 deep c (avL ks) (ks.length : Int) (i : Int) o n a v K = some (atsL l deep c, (o, n, a, v, K))
  | [], i, c, h, hi, h1, h2 => by
    apply rdep_atoms_l5_of
    unfold rdep_atoms_l5_E
    rw [out_dec h, atsL]
    rfl
  | k :: t, i, c, h, hi, h1, h2 => by
    obtain ⟨g1, g2, g3, g4⟩ := drop_cons h
    have hm := List.mem_of_getElem? g2
    have hkk := hk k hm
    have hr := ats_range k (deep - 1)
    have hlen := nodesL_length ks
    rw [nodesL] at h2
    apply rdep_atoms_l5_of
    unfold rdep_atoms_l5_E
    rw [in_dec h, atsL, cond_true, getL_of (avL_drop h)]
    obtain ⟨o', n', a', v', q⟩ := k
    simp only [Tree.av, dAgg, dCons, dStr, dInt, dSl, dNil, BEq.rfl, Bool.and_self, and_self, if_true, cond_some, cond_and, Option.bind_some]
    by_cases hc : c ≤ 64 ∧ 0 < deep
    · have hkk' : rdep_atoms o' n' a' v' (avL q) (deep - 1) = some (ats (.mk o' n' a' v' q) (deep - 1)) := hkk (deep - 1) (by omega) (by omega)
      have : (decide (c ≤ 64) && decide ((0 : Int) < deep)) = true := by rw [decide_eq_true hc.1, decide_eq_true hc.2]; rfl
      rw [this, if_pos hc, cond_true, wr (by omega), hkk']
      simp only [Option.bind_some]
      rw [wr (by omega), wr_succ (by omega)]
      exact atoms_loop o n a v K ks deep hdeep hl hk t (i + 1) _ g3 (by omega) (by omega) (by omega)
    · have : (decide (c ≤ 64) && decide ((0 : Int) < deep)) = false := by
        simp only [Bool.and_eq_false_iff, decide_eq_false_iff_not]; omega
      rw [this, if_neg hc, cond_false, wr_succ (by omega)]
      exact atoms_loop o n a v K ks deep hdeep hl hk t (i + 1) _ g3 (by omega) (by omega) (by omega)
 mutual
theorem atoms_is : ∀ (T : Tree), nodes T ≤ 20000 → ∀ d : Int, 0 ≤ d → d ≤ 32 → rdep_atoms T.o T.n T.a T.v (avL T.k) d = some (ats T d)
  | .mk o n a v ks, h, d, h0, h1 => by
    rw [nodes] at h
    apply rdep_atoms_of
    unfold rdep_atoms_E
    rw [ats]
    have hL := atoms_loop o n a v (avL ks) ks d ⟨h0, h1⟩ (by omega) (atomsL_is ks (by omega)) ks 0 0 rfl (by omega) (by omega) (by omega)
    have hL' : rdep_atoms_l5 d 0 (avL ks) ((avL ks).length : Int) 0 o n a v (avL ks) = some (atsL ks d 0, (o, n, a, v, avL ks)) := by rw [avL_length]; exact hL
    show (cond (o == []) (some 1) ((rdep_atoms_l5 d 0 (avL ks) ((avL ks).length : Int) 0 o n a v (avL ks)).bind _)) = _
    rw [hL']
    by_cases ho : o = []
    · subst ho; rfl
    · have : (o == []) = false := by rw [beq_eq_false_iff_ne]; exact ho
      rw [this, if_neg ho]
      rfl
theorem atomsL_is : ∀ (ks : List Tree), nodesL ks ≤ 20000 → ∀ k ∈ ks, ∀ d : Int, 0 ≤ d → d ≤ 32 → rdep_atoms k.o k.n k.a k.v (avL k.k) d = some (ats k d)
  | [], h, k, hk => absurd hk List.not_mem_nil
  | k0 :: ks, h, k, hk => by
    rw [nodesL] at h
    rcases List.mem_cons.1 hk with e | e
    · rw [e]; exact atoms_is k0 (by omega)
    · exact atomsL_is ks (by omega) k e
 end

/-! ### What is wrong -/
def vatom (n : List UInt8) (a : Int) (v : List UInt8) : Int := if nmOk n = false then 10 else if a < 0 ∨ 5 < a then 1 else if a = 0 then (if v = [] then 0 else 1) else vchk v
theorem vatom_is (n : List UInt8) (a : Int) (v : List UInt8) (hn : n.length ≤ 4611686018427387904) (hv : v.length ≤ 4611686018427387904) : rdep_atom n a v = some (vatom n a v) := by
  apply rdep_atom_of
  unfold rdep_atom_E vatom
  rw [vname_is n hn]
  cases nmOk n with
  | false => rfl
  | true =>
    simp only [Option.bind_some, Bool.not_true, cond_false, cond_some, cond_or, cond_and, vchk_is v hv]
    rw [if_neg (by simp)]
    by_cases h1 : a < 0 ∨ 5 < a
    · have : (decide (a < 0) || decide ((5 : Int) < a)) = true := by
        simp only [Bool.or_eq_true, decide_eq_true_eq]; exact h1
      rw [this, if_pos h1]; rfl
    · have : (decide (a < 0) || decide ((5 : Int) < a)) = false := by
        simp only [Bool.or_eq_false_iff, decide_eq_false_iff_not]; omega
      rw [this, if_neg h1]
      by_cases h2 : a = 0
      · subst h2
        cases hv0 : v == [] with
        | true => rw [beq_iff_eq] at hv0; subst hv0; rfl
        | false =>
          rw [beq_eq_false_iff_ne] at hv0
          rw [if_pos rfl, if_neg hv0]; rfl
      · have h3 : (a == 0) = false := by rw [beq_eq_false_iff_ne]; exact h2
        rw [h3, if_neg h2]; rfl
def cnt (o : List UInt8) (n : Int) : Bool := if o = [97, 110, 100] ∨ o = [111, 114] then decide (2 ≤ n) else if o = [105, 102] ∨ o = [117, 110, 108, 101, 115, 115] then (n == 2 || n == 3) else n == 2
theorem cnt_is (o : List UInt8) (n : Int) : rdep_count o n = some (cnt o n) := by
  apply rdep_count_of
  unfold rdep_count_E cnt
  simp only [cond_some, cond_or, Option.bind_some]
  by_cases h1 : o = [97, 110, 100]
  · subst h1; rfl
  · have e1 : (o == [97, 110, 100]) = false := by rw [beq_eq_false_iff_ne]; exact h1
    by_cases h2 : o = [111, 114]
    · subst h2; rfl
    · have e2 : (o == [111, 114]) = false := by rw [beq_eq_false_iff_ne]; exact h2
      rw [if_neg (by simp [h1, h2])]
      by_cases h3 : o = [105, 102]
      · subst h3; rfl
      · have e3 : (o == [105, 102]) = false := by rw [beq_eq_false_iff_ne]; exact h3
        by_cases h4 : o = [117, 110, 108, 101, 115, 115]
        · subst h4; rfl
        · have e4 : (o == [117, 110, 108, 101, 115, 115]) = false := by rw [beq_eq_false_iff_ne]; exact h4
          rw [if_neg (by simp [h3, h4]), e1, e2, e3, e4]
          rfl
 mutual
def chk : Tree → Int
  | .mk o n a v ks => if o = [] then (if ks = [] then vatom n a v else 3) else if isWord o = false then 9 else if ¬ (n = [] ∧ a = 0 ∧ v = []) then 1 else if cnt o (ks.length : Int) = false then 3 else chkL ks
def chkL : List Tree → Int
  | [] => 0
  | k :: ks => if chk k = 0 then chkL ks else chk k
 end
theorem check_loop (o n : List UInt8) (a : Int) (v : List UInt8) (K : List AV) (ks : List Tree) (hl : nodesL ks ≤ 20000)
    (hk : ∀ k ∈ ks, rdep_check k.o k.n k.a k.v (avL k.k) = some (chk k)) : ∀ (l : List Tree) (i : Nat), ks.drop i = l → i ≤ ks.length →
    rdep_check_l12 (avL ks) (ks.length : Int) (i : Int) o n a v K = some (if chkL l = 0 then Sum.inl (o, n, a, v, K) else Sum.inr (chkL l, (o, n, a, v, K)))
  | [], i, h, hi => by
    apply rdep_check_l12_of
    unfold rdep_check_l12_E
    rw [out_dec h, chkL]
    rfl
  | k :: t, i, h, hi => by
    obtain ⟨g1, g2, g3, g4⟩ := drop_cons h
    have hm := List.mem_of_getElem? g2
    have hkk := hk k hm
    have hlen := nodesL_length ks
    apply rdep_check_l12_of
    unfold rdep_check_l12_E
    rw [in_dec h, chkL, cond_true, getL_of (avL_drop h)]
    obtain ⟨o', n', a', v', q⟩ := k
    have hkk' : rdep_check o' n' a' v' (avL q) = some (chk (.mk o' n' a' v' q)) := hkk
    simp only [Tree.av, dAgg, dCons, dStr, dInt, dSl, dNil, BEq.rfl, Bool.and_self, and_self, if_true, hkk', Option.bind_some]
    rw [wr_succ (by omega), check_loop o n a v K ks hl hk t (i + 1) g3 (by omega)]
    by_cases hc : chk (.mk o' n' a' v' q) = 0
    · have : (chk (.mk o' n' a' v' q) != 0) = false := by rw [bne_eq_false_iff_eq]; exact hc
      rw [this, if_pos hc]; rfl
    · have : (chk (.mk o' n' a' v' q) != 0) = true := by rw [bne_iff_ne]; exact hc
      rw [this, if_neg hc, if_neg hc]; rfl
 mutual
theorem check_is : ∀ (T : Tree), nodes T ≤ 20000 → Sm T → rdep_check T.o T.n T.a T.v (avL T.k) = some (chk T)
  | .mk o n a v ks, h, hs => by
    rw [nodes] at h
    rw [Sm] at hs
    obtain ⟨s1, s2, s3, s4⟩ := hs
    apply rdep_check_of
    unfold rdep_check_E
    rw [chk]
    have hL := check_loop o n a v (avL ks) ks (by omega) (checkL_is ks (by omega) s4) ks 0 rfl (by omega)
    have hL' : rdep_check_l12 (avL ks) (ks.length : Int) 0 o n a v (avL ks) = _ := hL
    simp only [Tree.o, Tree.n, Tree.a, Tree.v, Tree.k, avL_length, vatom_is n a v (by omega) (by omega), words_is, contains_is, cnt_is, hL', cond_some, cond_and, Option.bind_some]
    by_cases ho : o = []
    · subst ho
      rw [if_pos rfl]
      cases ks with
      | nil => rfl
      | cons k ks => 
        have : decide ((0 : Int) < ((k :: ks).length : Int)) = true := decide_eq_true (by rw [List.length_cons]; omega)
        rw [this]; rfl
    · have e1 : (o == []) = false := by rw [beq_eq_false_iff_ne]; exact ho
      rw [e1, if_neg ho, Bool.false_and, cond_false, cond_false]
      cases isWord o with
      | false => rfl
      | true =>
        rw [if_neg (show ¬ (true = false) by simp)]
        by_cases ha : n = [] ∧ a = 0 ∧ v = []
        · obtain ⟨rfl, rfl, rfl⟩ := ha
          have hp : ¬ ¬ (([] : List UInt8) = [] ∧ (0 : Int) = 0 ∧ ([] : List UInt8) = []) := fun e => e ⟨rfl, rfl, rfl⟩
          rw [if_neg hp]
          cases cnt o (ks.length : Int) with
          | false => rfl
          | true =>
            rw [if_neg (show ¬ (true = false) by simp)]
            by_cases hc : chkL ks = 0
            · simp only [if_pos hc, hc]; rfl
            · simp only [if_neg hc]; rfl
        · rw [if_pos ha]
          have : (!((n == []) && ((a == 0) && ((v == []) && true)))) = true := by
            cases h1 : n == [] <;> cases h2 : a == 0 <;> cases h3 : v == [] <;> first | rfl | skip
            rw [beq_iff_eq] at h1 h2 h3
            exact absurd ⟨h1, h2, h3⟩ ha
          rw [this]; rfl
theorem checkL_is : ∀ (ks : List Tree), nodesL ks ≤ 20000 → SmL ks → ∀ k ∈ ks, rdep_check k.o k.n k.a k.v (avL k.k) = some (chk k)
  | [], h, hs, k, hk => absurd hk List.not_mem_nil
  | k0 :: ks, h, hs, k, hk => by
    rw [nodesL] at h
    rw [SmL] at hs
    rcases List.mem_cons.1 hk with e | e
    · rw [e]; exact check_is k0 (by omega) hs.1
    · exact checkL_is ks (by omega) hs.2 k e
 end
def chkAll (T : Tree) : Int := if 32 < dp T ∨ 64 < ats T 32 then 4 else chk T
theorem checkAll_is (T : Tree) (h : nodes T ≤ 20000) (hs : Sm T) : rdep_Check T.o T.n T.a T.v (avL T.k) = some (chkAll T) := by
  apply rdep_Check_of
  unfold rdep_Check_E chkAll
  rw [depth_is T h, atoms_is T h 32 (by omega) (by omega), check_is T h hs]
  simp only [Option.bind_some, cond_some, cond_or]
  by_cases hb : 32 < dp T ∨ 64 < ats T 32
  · have : (decide ((32 : Int) < dp T) || decide ((64 : Int) < ats T 32)) = true := by
      simp only [Bool.or_eq_true, decide_eq_true_eq]; exact hb
    rw [this, if_pos hb]; rfl
  · have : (decide ((32 : Int) < dp T) || decide ((64 : Int) < ats T 32)) = false := by
      simp only [Bool.or_eq_false_iff, decide_eq_false_iff_not]; omega
    rw [this, if_neg hb]; rfl
end Go.Proofs.Ytomaefbhcpmbiaa
 end

 section
set_option linter.unusedVariables false
set_option linter.unusedSimpArgs false
namespace Go.Proofs.Ytomaefbhcpmbiaa
open Go Go.Eng Go.Proofs

theorem byteOf_byte (b : UInt8) : Go.Eng.byteOf (byte b) = some b := by
  unfold byte Go.Eng.byteOf
  have := b.toNat_lt
  simp
  omega
theorem bytesL_map : ∀ l : List UInt8, bytesL (l.map byte) = some l
  | [] => rfl
  | b :: l => by
    rw [List.map_cons]
    unfold bytesL
    rw [byteOf_byte, bytesL_map l]
theorem bytesK_of {R : Type} (l : List UInt8) (h : l.length ≤ 9223372036854775807) (K : List UInt8 → Option R) : bytesK (l.map byte) K = K l := by
  unfold bytesK
  rw [List.length_map, if_pos h, bytesL_map]
  rfl
theorem catS_of {R : Type} {a b : List UInt8} (h : a.length + b.length ≤ 4611686018427387904) (K : List UInt8 → Option R) : catS a b K = K (a ++ b) := by
  unfold catS
  rw [if_pos h]
theorem room1 {R : Type} {n : Nat} (h : n ≤ 1000000000000) (K : Option R) : roomL n 1 K = K := by
  unfold roomL
  rw [if_pos ⟨by omega, by omega⟩]

def sgn (a : Int) : List UInt8 := (([] :: signL) : List (List UInt8)).getD a.toNat []
def sep (o : List UInt8) (i : Nat) : List UInt8 := if i = 2 ∧ (o = [105, 102] ∨ o = [117, 110, 108, 101, 115, 115]) then [32, 101, 108, 115, 101, 32] else if 0 < i then [32] ++ o ++ [32] else []
 mutual
def tx : Tree → List UInt8
  | .mk o n a v ks => if o = [] then (if a = 0 then n else n ++ [32] ++ sgn a ++ [32] ++ v) else [40] ++ txL o ks 0 ++ [41]
def txL : List UInt8 → List Tree → Nat → List UInt8
  | _, [], _ => []
  | o, k :: ks, i => sep o i ++ tx k ++ txL o ks (i + 1)
 end
theorem sgn_len (a : Int) : (sgn a).length ≤ 2 := by
  unfold sgn
  match a.toNat with
  | 0 => decide
  | 1 => decide
  | 2 => decide
  | 3 => decide
  | 4 => decide
  | 5 => decide
  | _ + 6 => exact Nat.zero_le _
theorem sep_len (o : List UInt8) (i : Nat) (h : o.length ≤ 300) : (sep o i).length ≤ 302 := by
  unfold sep
  split
  · decide
  · split
    · simp; omega
    · simp
 mutual
theorem tx_len : ∀ T : Tree, Sm T → (tx T).length + 400 ≤ 2000 * nodes T
  | .mk o n a v ks, h => by
    rw [Sm] at h
    obtain ⟨h1, h2, h3, h4⟩ := h
    rw [tx, nodes]
    split
    · split
      · omega
      · have := sgn_len a
        simp only [List.length_append, List.length_singleton]
        omega
    · have := txL_len o ks h4 h1 0
      simp only [List.length_append, List.length_singleton]
      omega
theorem txL_len (o : List UInt8) : ∀ ks : List Tree, SmL ks → o.length ≤ 300 → ∀ i, (txL o ks i).length ≤ 2000 * nodesL ks
  | [], h, ho, i => by rw [txL, nodesL]; simp
  | k :: ks, h, ho, i => by
    rw [SmL] at h
    rw [txL, nodesL]
    have h1 := tx_len k h.1
    have h2 := txL_len o ks h.2 ho (i + 1)
    have h3 := sep_len o i ho
    simp only [List.length_append]
    omega
 end
theorem SmL_mem : ∀ {ks : List Tree} {k : Tree}, SmL ks → k ∈ ks → Sm k
  | [], k, h, hk => absurd hk List.not_mem_nil
  | k0 :: ks, k, h, hk => by
    rw [SmL] at h
    rcases List.mem_cons.1 hk with e | e
    · rw [e]; exact h.1
    · exact SmL_mem h.2 e
theorem chkL_mem : ∀ {ks : List Tree}, chkL ks = 0 → ∀ k ∈ ks, chk k = 0
  | [], h, k, hk => absurd hk List.not_mem_nil
  | k0 :: ks, h, k, hk => by
    rw [chkL] at h
    by_cases hc : chk k0 = 0
    · rw [if_pos hc] at h
      rcases List.mem_cons.1 hk with e | e
      · rw [e]; exact hc
      · exact chkL_mem h k e
    · rw [if_neg hc] at h
      exact absurd h hc
theorem map_byte_append (a b : List UInt8) : a.map byte ++ b.map byte = (a ++ b).map byte := by rw [List.map_append]
theorem text_loop (o n : List UInt8) (a : Int) (v : List UInt8) (K : List AV) (ks : List Tree) (hl : nodesL ks ≤ 20000) (ho : o.length ≤ 300) (hs : SmL ks)
    (hk : ∀ k ∈ ks, rdep_text k.o k.n k.a k.v (avL k.k) = some (tx k)) : ∀ (l : List Tree) (i : Nat) (acc : List UInt8), ks.drop i = l → i ≤ ks.length → acc.length + 2000 * nodesL l ≤ 100000000 →
    rdep_text_l7 (avL ks) (ks.length : Int) (i : Int) o n a v K (acc.map byte) = some ((o, n, a, v, K), (acc ++ txL o l i).map byte)
  | [], i, acc, h, hi, hb => by
    apply rdep_text_l7_of
    unfold rdep_text_l7_E
    rw [out_dec h, txL, List.append_nil]
    rfl
  | k :: t, i, acc, h, hi, hb => by
    obtain ⟨g1, g2, g3, g4⟩ := drop_cons h
    have hm := List.mem_of_getElem? g2
    have hkk := hk k hm
    have hlen := nodesL_length ks
    have htl := tx_len k (SmL_mem hs hm)
    rw [nodesL] at hb
    have hsl := sep_len o i ho
    apply rdep_text_l7_of
    unfold rdep_text_l7_E
    rw [in_dec h, txL, cond_true, getL_of (avL_drop h)]
    obtain ⟨o', n', a', v', q⟩ := k
    have hkk' : rdep_text o' n' a' v' (avL q) = some (tx (.mk o' n' a' v' q)) := hkk
    have ih := text_loop o n a v K ks hl ho hs hk t (i + 1) (acc ++ (sep o i ++ tx (.mk o' n' a' v' q))) g3 (by omega) (by simp only [List.length_append]; omega)
    have e6 : ([32, 101, 108, 115, 101, 32] : List UInt8).length = 6 := rfl
    simp only [Tree.av, dAgg, dCons, dStr, dInt, dSl, dNil, BEq.rfl, Bool.and_self, and_self, if_true, hkk', Option.bind_some, cond_some, cond_and, cond_or]
    rw [wr_succ (by omega)]
    by_cases h2 : i = 2 ∧ (o = [105, 102] ∨ o = [117, 110, 108, 101, 115, 115])
    · have e : ((((i : Int) == 2)) && ((o == [105, 102]) || (o == [117, 110, 108, 101, 115, 115]))) = true := by
        simp only [Bool.and_eq_true, Bool.or_eq_true, beq_iff_eq]; exact ⟨by omega, h2.2⟩
      have hsep : sep o i = [32, 101, 108, 115, 101, 32] := by unfold sep; rw [if_pos h2]
      rw [hsep] at ih ⊢
      rw [e, cond_true, room1 (by rw [List.length_map]; show acc.length + 6 ≤ _; omega), room1 (by rw [map_byte_append, List.length_map, List.length_append, e6]; omega), map_byte_append, map_byte_append, List.append_assoc, ih]
      simp only [List.append_assoc]
    · have e : ((((i : Int) == 2)) && ((o == [105, 102]) || (o == [117, 110, 108, 101, 115, 115]))) = false := by
        rw [Bool.eq_false_iff]
        intro e
        simp only [Bool.and_eq_true, Bool.or_eq_true, beq_iff_eq] at e
        exact h2 ⟨by omega, e.2⟩
      rw [e, cond_false]
      by_cases h0 : 0 < i
      · have hsep : sep o i = [32] ++ o ++ [32] := by unfold sep; rw [if_neg h2, if_pos h0]
        rw [hsep] at ih hsl ⊢
        have hl1 : ([32] ++ o : List UInt8).length = o.length + 1 := by simp
        have hl2 : ([32] ++ o ++ [32] : List UInt8).length = o.length + 2 := by simp
        rw [decide_eq_true (show (0 : Int) < (i : Int) by omega), cond_true, catS_of (by simp; omega), catS_of (by rw [hl1]; simp; omega),
          room1 (by rw [List.length_map, hl2]; omega), room1 (by rw [map_byte_append, List.length_map, List.length_append, hl2]; omega), map_byte_append, map_byte_append, List.append_assoc, ih]
        simp only [List.append_assoc]
      · have hsep : sep o i = [] := by unfold sep; rw [if_neg h2, if_neg h0]
        rw [hsep] at ih ⊢
        rw [decide_eq_false (show ¬ (0 : Int) < (i : Int) by omega), cond_false, room1 (by rw [List.length_map]; omega), map_byte_append]
        rw [List.nil_append] at ih ⊢
        rw [ih]
        simp only [List.append_assoc]
theorem atom_ok {n : List UInt8} {a : Int} {v : List UInt8} (h : vatom n a v = 0) : nmOk n = true ∧ 0 ≤ a ∧ a ≤ 5 ∧ (a = 0 → v = []) ∧ (a ≠ 0 → vchk v = 0) := by
  unfold vatom at h
  split at h
  · omega
  · rename_i h1
    split at h
    · omega
    · split at h
      · rename_i h2
        split at h
        · rename_i h3
          exact ⟨by simpa using h1, by omega, by omega, fun _ => h3, fun e => absurd h2 e⟩
        · omega
      · rename_i h2
        exact ⟨by simpa using h1, by omega, by omega, fun e => absurd e h2, fun _ => h⟩
theorem sgn_get {a : Int} (h : 0 ≤ a ∧ a ≤ 5) {R : Type} (K : AV → Option R) : getL ((([] :: signL) : List (List UInt8)).map AV.str) a K = K (AV.str (sgn a)) := by
  obtain ⟨m, rfl⟩ : ∃ m : Nat, a = (m : Int) := ⟨a.toNat, by omega⟩
  have : ((([] :: signL) : List (List UInt8)).map AV.str)[m]? = some (AV.str (sgn (m : Int))) := by
    match m, h with
    | 0, _ => rfl
    | 1, _ => rfl
    | 2, _ => rfl
    | 3, _ => rfl
    | 4, _ => rfl
    | 5, _ => rfl
    | m + 6, h => omega
  exact getL_get this K
 mutual
theorem text_is : ∀ (T : Tree), nodes T ≤ 20000 → Sm T → chk T = 0 → rdep_text T.o T.n T.a T.v (avL T.k) = some (tx T)
  | .mk o n a v ks, h, hs, hc => by
    rw [nodes] at h
    rw [Sm] at hs
    obtain ⟨s1, s2, s3, s4⟩ := hs
    rw [chk] at hc
    apply rdep_text_of
    unfold rdep_text_E
    rw [tx]
    simp only [Tree.o, Tree.n, Tree.a, Tree.v, Tree.k, cond_some, cond_and, Option.bind_some]
    by_cases ho : o = []
    · subst ho
      rw [if_pos rfl] at hc ⊢
      by_cases hk : ks = []
      · rw [if_pos hk] at hc
        obtain ⟨a1, a2, a3, a4, a5⟩ := atom_ok hc
        have e0 : (([] : List UInt8) == []) = true := rfl
        rw [e0, Bool.true_and, cond_true]
        by_cases ha : a = 0
        · have : (a == 0) = true := by rw [beq_iff_eq]; exact ha
          rw [this, if_pos ha]; rfl
        · have : (a == 0) = false := by rw [beq_eq_false_iff_ne]; exact ha
          have hsl := sgn_len a
          rw [this, if_neg ha, cond_false, catS_of (by simp; omega), signs_is]
          simp only [Option.bind_some]
          rw [sgn_get ⟨a2, a3⟩]
          simp only [dStr]
          rw [catS_of (by simp only [List.length_append, List.length_singleton]; omega), catS_of (by simp only [List.length_append, List.length_singleton]; omega), catS_of (by simp only [List.length_append, List.length_singleton]; omega)]
      · rw [if_neg hk] at hc
        omega
    · rw [if_neg ho] at hc ⊢
      split at hc
      · omega
      · split at hc
        · omega
        · split at hc
          · omega
          · have e0 : (o == []) = false := by rw [beq_eq_false_iff_ne]; exact ho
            have hL := text_loop o n a v (avL ks) ks (by omega) s1 s4 (textL_is ks (by omega) s4 hc) ks 0 [] rfl (by omega) (by simp; omega)
            have hL' : rdep_text_l7 (avL ks) ((avL ks).length : Int) 0 o n a v (avL ks) [] = some ((o, n, a, v, avL ks), (txL o ks 0).map byte) := by rw [avL_length]; exact hL
            have hlen := txL_len o ks s4 s1 0
            rw [e0, Bool.false_and, cond_false, cond_false, hL']
            simp only [Option.bind_some]
            rw [bytesK_of _ (by omega), catS_of (by simp; omega), catS_of (by simp; omega)]
theorem textL_is : ∀ (ks : List Tree), nodesL ks ≤ 20000 → SmL ks → chkL ks = 0 → ∀ k ∈ ks, rdep_text k.o k.n k.a k.v (avL k.k) = some (tx k)
  | [], h, hs, hc, k, hk => absurd hk List.not_mem_nil
  | k0 :: ks, h, hs, hc, k, hk => by
    have hcm := chkL_mem hc
    rw [nodesL] at h
    rw [SmL] at hs
    rcases List.mem_cons.1 hk with e | e
    · rw [e]; exact text_is k0 (by omega) hs.1 (hcm k0 List.mem_cons_self)
    · refine textL_is ks (by omega) hs.2 ?_ k e
      rw [chkL, if_pos (hcm k0 List.mem_cons_self)] at hc
      exact hc
 end
theorem print_is (T : Tree) (h : nodes T ≤ 20000) (hs : Sm T) : rdep_Print T.o T.n T.a T.v (avL T.k) = some (if chkAll T = 0 then (tx T, 0) else ([], chkAll T)) := by
  apply rdep_Print_of
  unfold rdep_Print_E
  rw [checkAll_is T h hs]
  simp only [Option.bind_some]
  by_cases hc : chkAll T = 0
  · have h1 : (chkAll T != 0) = false := by rw [bne_eq_false_iff_eq]; exact hc
    have h2 : chk T = 0 := by
      unfold chkAll at hc
      split at hc
      · omega
      · exact hc
    rw [h1, if_pos hc, text_is T h hs h2]
    rfl
  · have h1 : (chkAll T != 0) = true := by rw [bne_iff_ne]; exact hc
    rw [h1, if_neg hc]
    rfl
end Go.Proofs.Ytomaefbhcpmbiaa
 end
