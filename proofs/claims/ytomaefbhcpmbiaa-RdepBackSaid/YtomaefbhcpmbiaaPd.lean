/- The parts of a dependency's text.
   Versions, signs and words are parts.
   The reader on a text that was written.
   An atom that was written is read.
   What stands between brackets is read.
   Every right dependency's text is read as it was. -/
import Derived.Test.YtomaefbhcpmbiaaPc
 section
set_option linter.unusedVariables false
set_option linter.unusedSimpArgs false
namespace Go.Proofs.Ytomaefbhcpmbiaa
open Go Go.Eng Go.Proofs

def notBr (c : UInt8) : Prop := c ≠ 32 ∧ c ≠ 40 ∧ c ≠ 41
theorem al_notBr {c : UInt8} (h : al c = true) : notBr c := by
  refine ⟨?_, ?_, ?_⟩ <;> (intro e; subst e; exact absurd h (by decide))
theorem sp_notBr {c : UInt8} (h : sp c = true) : notBr c := by
  refine ⟨?_, ?_, ?_⟩ <;> (intro e; subst e; exact absurd h (by decide))
theorem wLen_plain {c : UInt8} (h : notBr c) (o : Nat) (t : List UInt8) : wLen o (c :: t) = wLen o t + 1 := by
  rw [wLen_cons, if_neg h.1, if_neg h.2.1, if_neg h.2.2]
theorem wLen_word (rest : List UInt8) (o : Nat) : ∀ w : List UInt8, (∀ c ∈ w, notBr c) → wLen o (w ++ rest) = w.length + wLen o rest
  | [], h => by rw [List.nil_append]; simp
  | c :: w, h => by
    rw [List.cons_append, wLen_plain (h c List.mem_cons_self), wLen_word rest o w fun d hd => h d (List.mem_cons_of_mem _ hd), List.length_cons]
    omega
theorem wLen_name (rest : List UInt8) : ∀ (l : List UInt8) (f : Bool) (o k : Nat), nm f o l = some k → wLen o (l ++ rest) = l.length + wLen k rest
  | [], f, o, k, h => by
    have : nm f o [] = some o := by cases f <;> cases o <;> rfl
    rw [this] at h
    cases h
    rw [List.nil_append]; simp
  | c :: t, f, o, k, h => by
    rw [nm_cons] at h
    rw [List.cons_append, List.length_cons]
    split at h
    · rename_i ha
      rw [wLen_plain (al_notBr ha), wLen_name rest t false o k h]; omega
    · split at h
      · cases h
      · split at h
        · rename_i hc
          subst hc
          rw [wLen_cons, if_neg (by decide), if_pos rfl, wLen_name rest t false (o + 1) k h]; omega
        · split at h
          · rename_i hc
            subst hc
            cases o with
            | zero => cases h
            | succ o =>
              rw [wLen_cons, if_neg (by decide), if_neg (by decide), if_pos rfl]
              simp only at h ⊢
              rw [wLen_name rest t false o k h]; omega
          · split at h
            · rename_i hs
              rw [wLen_plain (sp_notBr hs), wLen_name rest t false o k h]; omega
            · cases h
/-- What may stand behind a part. -/
def Sep (rest : List UInt8) : Prop := rest = [] ∨ (∃ r, rest = 32 :: r) ∨ ∃ r, rest = 41 :: r
theorem Sep.len {rest : List UInt8} (h : Sep rest) : wLen 0 rest = 0 := by
  rcases h with rfl | ⟨r, rfl⟩ | ⟨r, rfl⟩
  · rfl
  · rw [wLen_cons, if_pos rfl]
  · rw [wLen_cons, if_neg (by decide), if_neg (by decide), if_pos rfl]
/-- Is that a part, whatever stands behind it? -/
def IsTok (w : List UInt8) : Prop := ∃ c t, w = c :: t ∧ notBr c ∧ ∀ rest, Sep rest → wLen 0 (w ++ rest) = w.length
theorem toks_w {w : List UInt8} (h : IsTok w) (p : Nat) {rest : List UInt8} (hr : Sep rest) : toks p (w ++ rest) = (w, p) :: toks (p + w.length) rest := by
  obtain ⟨c, t, rfl, hc, hw⟩ := h
  have hl : tLen ((c :: t) ++ rest) = (c :: t).length := by
    rw [List.cons_append, tLen_cons, if_neg (fun e => Or.elim e hc.2.1 hc.2.2)]
    exact hw rest hr
  rw [List.cons_append] at hl ⊢
  rw [toks_tok p _ hc.1, hl]
  congr 1
  · rw [← List.cons_append, List.take_left' rfl]
  · rw [← List.cons_append, List.drop_left' rfl]
theorem name_tok {n : List UInt8} (h : nmOk n = true) : IsTok n := by
  unfold nmOk at h
  simp only [Bool.and_eq_true, decide_eq_true_eq, beq_iff_eq] at h
  obtain ⟨h1, h2, h3⟩ := h
  cases n with
  | nil => exact absurd h1 (by decide)
  | cons c t =>
    refine ⟨c, t, rfl, ?_, fun rest hr => by rw [wLen_name rest _ true 0 0 h3, hr.len]; rfl⟩
    rw [nm_cons] at h3
    split at h3
    · rename_i ha; exact al_notBr ha
    · rw [if_pos rfl] at h3; cases h3
theorem word_tok {w : List UInt8} (h : ∀ c ∈ w, notBr c) (hn : w ≠ []) : IsTok w := by
  cases w with
  | nil => exact absurd rfl hn
  | cons c t => exact ⟨c, t, rfl, h c List.mem_cons_self, fun rest hr => by rw [wLen_word rest 0 _ h, hr.len]; rfl⟩
theorem mk_notBr {c : UInt8} (h : mk [46, 95, 43, 126, 94] c = true) : notBr c := by
  refine ⟨?_, ?_, ?_⟩ <;> (intro e; subst e; exact absurd h (by decide))
theorem dg_notBr {c : UInt8} (h : dg c = true) : notBr c := by
  refine ⟨?_, ?_, ?_⟩ <;> (intro e; subst e; exact absurd h (by decide))
end Go.Proofs.Ytomaefbhcpmbiaa
 end

 section
set_option linter.unusedVariables false
set_option linter.unusedSimpArgs false
namespace Go.Proofs.Ytomaefbhcpmbiaa
open Go Go.Eng Go.Proofs

instance (c : UInt8) : Decidable (notBr c) := by unfold notBr; infer_instance
theorem all_notBr {p : UInt8 → Bool} (hp : ∀ c, p c = true → notBr c) {l : List UInt8} (h : l.all p = true) : ∀ c ∈ l, notBr c := fun c hc => hp c (List.all_eq_true.1 h c hc)
theorem mem_takeWhile {p : UInt8 → Bool} : ∀ {l : List UInt8} {c : UInt8}, c ∈ l.takeWhile p → p c = true
  | [], c, h => absurd h List.not_mem_nil
  | d :: l, c, h => by
    rw [List.takeWhile_cons] at h
    split at h
    · rename_i hd
      rcases List.mem_cons.1 h with e | e
      · rw [e]; exact hd
      · exact mem_takeWhile e
    · exact absurd h List.not_mem_nil
theorem lastAt_at (s : List UInt8) (b : UInt8) : ∀ (k : Nat) (j : Nat), lastAt s b k = (j : Int) → s[j]? = some b
  | 0, j, h => by unfold lastAt at h; omega
  | k + 1, j, h => by
    rw [lastAt_succ] at h
    split at h
    · rename_i hs
      have : k = j := by omega
      subst this
      exact hs
    · exact lastAt_at s b k j h
theorem okP_notBr {a p : List UInt8} (h : okP a p = true) : p ≠ [] ∧ ∀ c ∈ p, notBr c := by
  unfold okP at h
  simp only [Bool.and_eq_true, decide_eq_true_eq] at h
  obtain ⟨⟨_, h0⟩, ⟨h1, h2⟩, h3, h4⟩ := h
  obtain ⟨j, hj⟩ : ∃ j : Nat, lastAt p 45 p.length = (j : Int) := ⟨(lastAt p 45 p.length).toNat, by omega⟩
  rw [hj, Int.toNat_natCast] at h1 h2 h3 h4
  have hg := lastAt_at p 45 _ j hj
  have hlt := (List.getElem?_eq_some_iff.1 hg).1
  refine ⟨fun e => by subst e; simp at hlt, ?_⟩
  have hsplit : p = p.take j ++ 45 :: p.drop (j + 1) := by
    have h5 : p.drop j = 45 :: p.drop (j + 1) := by
      rw [List.drop_eq_getElem_cons hlt]
      congr 1
      rw [List.getElem?_eq_getElem hlt] at hg
      exact Option.some.inj hg
    rw [← h5, List.take_append_drop]
  intro c hc
  rw [hsplit] at hc
  rcases List.mem_append.1 hc with hc | hc
  · exact all_notBr (fun _ => mk_notBr) h1 c hc
  · rcases List.mem_cons.1 hc with e | hc
    · subst e; decide
    · exact all_notBr (fun _ => mk_notBr) h3 c hc
theorem ver_notBr {v : List UInt8} (h : vchk v = 0) : v ≠ [] ∧ ∀ c ∈ v, notBr c := by
  have hv : okV v = true := by
    unfold vchk at h
    split at h
    · omega
    · split at h
      · assumption
      · omega
  unfold okV at hv
  split at hv
  · exact okP_notBr hv
  · rename_i hi
    simp only [Bool.and_eq_true] at hv
    obtain ⟨he, hp⟩ := hv
    rcases indexByte_cases 58 v with ⟨h1, _⟩ | ⟨a, b, h1, h2, h3⟩
    · omega
    · rw [h3, Int.toNat_natCast] at he hp
      rw [h1, (split_at a b).1] at he
      rw [h1, (split_at a b).1, (split_at a b).2] at hp
      have hb := okP_notBr hp
      refine ⟨by rw [h1]; simp, ?_⟩
      intro c hc
      rw [h1] at hc
      rcases List.mem_append.1 hc with hc | hc
      · unfold okE at he
        simp only [Bool.and_eq_true, beq_iff_eq] at he
        have ht : a.takeWhile dg = a := by
          have := List.takeWhile_append_dropWhile (p := dg) (l := a)
          rw [he.1.2, List.append_nil] at this
          exact this
        rw [← ht] at hc
        exact dg_notBr (mem_takeWhile hc)
      · rcases List.mem_cons.1 hc with e | hc
        · subst e; decide
        · exact hb.2 c hc
theorem ver_tok {v : List UInt8} (h : vchk v = 0) : IsTok v := word_tok (ver_notBr h).2 (ver_notBr h).1
theorem sgn_tok {a : Int} (h : 1 ≤ a ∧ a ≤ 5) : IsTok (sgn a) ∧ opOf (sgn a) = a := by
  obtain ⟨m, rfl⟩ : ∃ m : Nat, a = (m : Int) := ⟨a.toNat, by omega⟩
  match m, h with
  | 0, h => omega
  | 1, _ => exact ⟨word_tok (by decide) (by decide), by decide⟩
  | 2, _ => exact ⟨word_tok (by decide) (by decide), by decide⟩
  | 3, _ => exact ⟨word_tok (by decide) (by decide), by decide⟩
  | 4, _ => exact ⟨word_tok (by decide) (by decide), by decide⟩
  | 5, _ => exact ⟨word_tok (by decide) (by decide), by decide⟩
  | m + 6, h => omega
theorem isWord_cases {o : List UInt8} (h : isWord o = true) : o = [97, 110, 100] ∨ o = [111, 114] ∨ o = [105, 102] ∨ o = [117, 110, 108, 101, 115, 115] ∨ o = [119, 105, 116, 104] ∨ o = [119, 105, 116, 104, 111, 117, 116] := by
  unfold isWord wordL idxL idxL idxL idxL idxL idxL idxL at h
  by_cases h1 : o = [97, 110, 100]
  · exact .inl h1
  by_cases h2 : o = [111, 114]
  · exact .inr (.inl h2)
  by_cases h3 : o = [105, 102]
  · exact .inr (.inr (.inl h3))
  by_cases h4 : o = [117, 110, 108, 101, 115, 115]
  · exact .inr (.inr (.inr (.inl h4)))
  by_cases h5 : o = [119, 105, 116, 104]
  · exact .inr (.inr (.inr (.inr (.inl h5))))
  by_cases h6 : o = [119, 105, 116, 104, 111, 117, 116]
  · exact .inr (.inr (.inr (.inr (.inr h6))))
  rw [beq_ne h1, beq_ne h2, beq_ne h3, beq_ne h4, beq_ne h5, beq_ne h6] at h
  exact absurd h (by decide)
theorem opword_tok {o : List UInt8} (h : isWord o = true) : IsTok o ∧ opOf o = 0 := by
  rcases isWord_cases h with rfl | rfl | rfl | rfl | rfl | rfl <;> exact ⟨word_tok (by unfold notBr; decide) (by decide), by decide⟩
theorem else_tok : IsTok [101, 108, 115, 101] ∧ opOf [101, 108, 115, 101] = 0 := ⟨word_tok (by unfold notBr; decide) (by decide), by decide⟩
theorem tok_plain {w : List UInt8} (h : IsTok w) : isPlain w = true := by
  obtain ⟨c, t, rfl, hc, _⟩ := h
  unfold isPlain
  have e1 : ((c :: t) == ([] : List UInt8)) = false := rfl
  have e2 : ((c :: t) == ([40] : List UInt8)) = false := by rw [beq_eq_false_iff_ne]; intro e; cases e; exact hc.2.1 rfl
  have e3 : ((c :: t) == ([41] : List UInt8)) = false := by rw [beq_eq_false_iff_ne]; intro e; cases e; exact hc.2.2 rfl
  rw [e1, e2, e3]; rfl
end Go.Proofs.Ytomaefbhcpmbiaa
 end

 section
set_option linter.unusedVariables false
set_option linter.unusedSimpArgs false
namespace Go.Proofs.Ytomaefbhcpmbiaa
open Go Go.Eng Go.Proofs
 section
variable {s : List UInt8} {ps : List AV}
theorem nextT {n a : Nat} {w : List UInt8} {m : Nat} {r : List (List UInt8 × Nat)} (hs : s.length ≤ 10000) (h : At s ps n a) (hT : toks a (s.drop a) = (w, m) :: r) : ∃ n' : Nat,
    (∀ f1 f2 f3, rdep_reader_look ps (n : Int) f1 f2 f3 = some (w, (m : Int))) ∧ (∀ f1 f2 f3, rdep_reader_take ps (n : Int) f1 f2 f3 = some ((w, (m : Int)), (ps, (n' : Int), f1, f2, f3))) ∧ At s ps n' (m + w.length) := by
  obtain ⟨tok, m', n', hl, ht, _, _, _, h4, h5, _⟩ := step hs h
  have : (tok, m') = (w, m) := by
    rw [h5]
    unfold T
    rw [hT]
    rfl
  cases this
  exact ⟨n', hl, ht, h4⟩
theorem At.blank {n a : Nat} {r : List UInt8} (h : At s ps n a) (hd : s.drop a = 32 :: r) : At s ps n (a + 1) ∧ s.drop (a + 1) = r := by
  obtain ⟨g1, g2, g3, g4⟩ := drop_cons hd
  refine ⟨⟨?_, h.2.1, by omega⟩, g3⟩
  rw [h.1]
  unfold T
  rw [hd, toks_blank, g3]
theorem next {n a : Nat} {w rest : List UInt8} (hs : s.length ≤ 10000) (h : At s ps n a) (hd : s.drop a = w ++ rest) (hw : IsTok w) (hr : Sep rest) : ∃ n' : Nat,
    (∀ f1 f2 f3, rdep_reader_look ps (n : Int) f1 f2 f3 = some (w, (a : Int))) ∧ (∀ f1 f2 f3, rdep_reader_take ps (n : Int) f1 f2 f3 = some ((w, (a : Int)), (ps, (n' : Int), f1, f2, f3))) ∧ At s ps n' (a + w.length) ∧ s.drop (a + w.length) = rest := by
  obtain ⟨n', h1, h2, h3⟩ := nextT hs h (by rw [hd, toks_w hw a hr])
  refine ⟨n', h1, h2, h3, ?_⟩
  rw [← List.drop_drop, hd, List.drop_left' rfl]
theorem next1 {n a : Nat} {c : UInt8} {rest : List UInt8} (hs : s.length ≤ 10000) (h : At s ps n a) (hd : s.drop a = c :: rest) (hc : c = 40 ∨ c = 41) : ∃ n' : Nat,
    (∀ f1 f2 f3, rdep_reader_look ps (n : Int) f1 f2 f3 = some ([c], (a : Int))) ∧ (∀ f1 f2 f3, rdep_reader_take ps (n : Int) f1 f2 f3 = some (([c], (a : Int)), (ps, (n' : Int), f1, f2, f3))) ∧ At s ps n' (a + 1) ∧ s.drop (a + 1) = rest := by
  have hl : tLen (c :: rest) = 1 := by rw [tLen_cons, if_pos hc]
  have h32 : c ≠ 32 := by rcases hc with rfl | rfl <;> decide
  obtain ⟨n', h1, h2, h3⟩ := nextT hs h (w := [c]) (m := a) (by rw [hd, toks_tok a rest h32, hl]; rfl)
  exact ⟨n', h1, h2, h3, (drop_cons hd).2.2.1⟩
/-- The next part is no sign. -/
def NoSign (s : List UInt8) (ps : List AV) (n : Nat) : Prop := ∃ (w : List UInt8) (m : Nat), (∀ f1 f2 f3, rdep_reader_look ps (n : Int) f1 f2 f3 = some (w, (m : Int))) ∧ opOf w = 0
/-- Behind a name. -/
theorem name_read {n : Nat} {t : List UInt8} {c m : Nat} (hn : nmOk t = true) (ht : t.length ≤ 10000) (hc : c < 64) {r : (List AV × Int × List UInt8 × Int × Int) × Int × (List UInt8 × Int) × (List UInt8 × Int × List UInt8) × (List UInt8 × Int × List UInt8)}
    (hr : rdep_reader_atom_k7 ps (n : Int) [] 0 0 ((c + 1 : Nat) : Int) t (m : Int) [] 0 [] t 0 [] = some r) : rdep_reader_atom ps (n : Int) [] 0 0 (c : Int) t (m : Int) = some ((r.2.2.2.1.1, r.2.2.2.1.2.1, r.2.2.2.1.2.2), ((r.1.1, r.1.2.1, r.1.2.2.1, r.1.2.2.2.1, r.1.2.2.2.2), r.2.1)) := by
  have hw1 : IntKind.wrap .i64 ((c : Int) + 1) = ((c + 1 : Nat) : Int) := wr_succ (by omega)
  have hd : decide ((64 : Int) < ((c + 1 : Nat) : Int)) = false := decide_eq_false (by omega)
  apply rdep_reader_atom_of
  unfold rdep_reader_atom_E
  rw [hw1, hd, cond_false]
  have h5 : rdep_reader_atom_k5 ps (n : Int) [] 0 0 ((c + 1 : Nat) : Int) t (m : Int) [] 0 [] t 0 [] = some r := by
    apply rdep_reader_atom_k5_of
    unfold rdep_reader_atom_k5_E
    rw [vname_is t (by omega), hn]
    simp only [Option.bind_some, Bool.not_true, cond_false, hr]
  rw [h5]
  rfl
 end
end Go.Proofs.Ytomaefbhcpmbiaa
 end

 section
set_option linter.unusedVariables false
set_option linter.unusedSimpArgs false
namespace Go.Proofs.Ytomaefbhcpmbiaa
open Go Go.Eng Go.Proofs
 section
variable {s : List UInt8} {ps : List AV}
/-- What is read of a tree's text: the tree, and the place behind it. -/
def ReadT (s : List UInt8) (ps : List AV) (T : Tree) : Prop := ∀ (n a c deep : Nat) (rest : List UInt8), At s ps n a → s.drop a = tx T ++ rest → Sep rest →
  (∀ n', At s ps n' (a + (tx T).length) → NoSign s ps n') → chk T = 0 → dp T + deep ≤ 32 → c + nats T ≤ 64 →
  ∃ n2 : Nat, rdep_reader_dep ps (n : Int) [] 0 0 (c : Int) (deep : Int) = some (T.r, ((ps, (n2 : Int), [], 0, 0), ((c + nats T : Nat) : Int))) ∧ At s ps n2 (a + (tx T).length) ∧ s.drop (a + (tx T).length) = rest
theorem dep_plain {n n1 : Nat} {t : List UInt8} {m c deep : Nat} (ht : ∀ f1 f2 f3, rdep_reader_take ps (n : Int) f1 f2 f3 = some ((t, (m : Int)), (ps, (n1 : Int), f1, f2, f3))) (hp : isPlain t = true)
    {r} (hr : rdep_reader_atom ps (n1 : Int) [] 0 0 (c : Int) t (m : Int) = some r) : rdep_reader_dep ps (n : Int) [] 0 0 (c : Int) (deep : Int) = some (atomR r) := by
  apply rdep_reader_dep_of
  unfold rdep_reader_dep_E
  simp only [ht, Option.bind_some, plain_is, hp, cond_true, hr]
  rfl
theorem read_atom (hs : s.length ≤ 10000) (n : List UInt8) (a : Int) (v : List UInt8) : ReadT s ps (.mk [] n a v []) := by
  intro n0 p c deep rest hA hd hr hno hc hdp hcnt
  rw [chk, if_pos rfl, if_pos rfl] at hc
  obtain ⟨a1, a2, a3, a4, a5⟩ := atom_ok hc
  have hnats : nats (.mk [] n a v []) = 1 := by rw [nats, if_pos rfl]
  rw [hnats] at hcnt ⊢
  have hnl : n.length ≤ 64 := by
    unfold nmOk at a1
    simp only [Bool.and_eq_true, decide_eq_true_eq] at a1
    omega
  have htk := name_tok a1
  by_cases ha : a = 0
  · have hv := a4 ha
    subst ha; subst hv
    have htx : tx (.mk [] n 0 [] []) = n := by rw [tx, if_pos rfl, if_pos rfl]
    rw [htx] at hd hno ⊢
    obtain ⟨n1, hl, ht, hA1, hd1⟩ := next hs hA hd htk hr
    obtain ⟨w, m, hw, hop⟩ := hno n1 hA1
    have hk := k7_zero (s := s) hop hw [] 0 0 ((c + 1 : Nat) : Int) n (p : Int) [] 0 [] n 0 []
    exact ⟨n1, dep_plain ht (tok_plain htk) (name_read a1 (by omega) (by omega) hk), hA1, hd1⟩
  · have hv := a5 ha
    obtain ⟨st, sop⟩ := sgn_tok (a := a) (by omega)
    have htx : tx (.mk [] n a v []) = n ++ (32 :: (sgn a ++ (32 :: v))) := by rw [tx, if_pos rfl, if_neg ha]; simp
    have hlen : (tx (.mk [] n a v [])).length = n.length + 1 + (sgn a).length + 1 + v.length := by rw [htx]; simp; omega
    rw [hlen]
    rw [htx] at hd
    have hd0 : s.drop p = n ++ (32 :: (sgn a ++ (32 :: (v ++ rest)))) := by rw [hd]; simp
    obtain ⟨n1, _, ht, hA1, hd1⟩ := next hs hA hd0 htk (.inr (.inl ⟨_, rfl⟩))
    obtain ⟨hA2, hd2⟩ := hA1.blank hd1
    obtain ⟨n2, hl2, ht2, hA3, hd3⟩ := next hs hA2 hd2 st (.inr (.inl ⟨_, rfl⟩))
    obtain ⟨hA4, hd4⟩ := hA3.blank hd3
    obtain ⟨n3, hl3, ht3, hA5, hd5⟩ := next hs hA4 hd4 (ver_tok hv) hr
    have hvl := vchk_len hv
    have hpv := tok_plain (ver_tok hv)
    have hk := k7_some (s := s) (m1 := 0) (by rw [sop]; exact ha) hl2 ht2 ht3 (vchk_is v (by omega)) [] 0 0 ((c + 1 : Nat) : Int) n (p : Int) [] 0 [] n 0 [] (g1 := []) (g2 := 0) (g3 := 0) (by rw [hpv, hv]; exact fail_none _ _ _ _ _ _)
    rw [hpv, sop] at hk
    refine ⟨n3, dep_plain ht (tok_plain htk) (name_read a1 (by omega) (by omega) hk), ?_, ?_⟩
    · have : p + (n.length + 1 + (sgn a).length + 1 + v.length) = p + n.length + 1 + (sgn a).length + 1 + v.length := by omega
      rw [this]; exact hA5
    · have : p + (n.length + 1 + (sgn a).length + 1 + v.length) = p + n.length + 1 + (sgn a).length + 1 + v.length := by omega
      rw [this]; exact hd5
 end
end Go.Proofs.Ytomaefbhcpmbiaa
 end

 section
set_option linter.unusedVariables false
set_option linter.unusedSimpArgs false
namespace Go.Proofs.Ytomaefbhcpmbiaa
open Go Go.Eng Go.Proofs
 section
variable {s : List UInt8} {ps : List AV}
theorem noSign_of {n a : Nat} {w rest : List UInt8} (hs : s.length ≤ 10000) (h : At s ps n a) (hd : s.drop a = w ++ rest) (hw : IsTok w) (hr : Sep rest) (ho : opOf w = 0) : NoSign s ps n := by
  obtain ⟨n', hl, _⟩ := next hs h hd hw hr
  exact ⟨w, a, hl, ho⟩
theorem noSign_blank {n a : Nat} {w rest : List UInt8} (hs : s.length ≤ 10000) (h : At s ps n a) (hd : s.drop a = 32 :: (w ++ rest)) (hw : IsTok w) (hr : Sep rest) (ho : opOf w = 0) : NoSign s ps n := by
  obtain ⟨h1, h2⟩ := h.blank hd
  exact noSign_of hs h1 h2 hw hr ho
theorem noSign_close {n a : Nat} {rest : List UInt8} (hs : s.length ≤ 10000) (h : At s ps n a) (hd : s.drop a = 41 :: rest) : NoSign s ps n := by
  obtain ⟨n', hl, _⟩ := next1 hs h hd (.inr rfl)
  exact ⟨[41], a, hl, by decide⟩
/-- The word between two kids. -/
def between (o : List UInt8) (i : Nat) : List UInt8 := if i = 2 ∧ (o = [105, 102] ∨ o = [117, 110, 108, 101, 115, 115]) then [101, 108, 115, 101] else o
theorem sep_between (o : List UInt8) (i : Nat) (h : 0 < i) : sep o i = 32 :: (between o i ++ [32]) := by
  unfold sep between
  split
  · rfl
  · simp [h]
theorem between_tok {o : List UInt8} (h : isWord o = true) (i : Nat) : IsTok (between o i) ∧ opOf (between o i) = 0 := by
  unfold between
  split
  · exact else_tok
  · exact opword_tok h
theorem read_loop (hs : s.length ≤ 10000) (o : List UInt8) (ho : isWord o = true) (deep : Nat) (hdeep : deep < 32) : ∀ (l : List Tree) (k : Tree) (K : List Tree) (n a c : Nat) (rest : List UInt8),
    At s ps n a → s.drop a = tx k ++ (txL o l (K.length + 1) ++ (41 :: rest)) → (∀ x ∈ k :: l, ReadT s ps x ∧ chk x = 0 ∧ dp x + ((deep : Int) + 1) ≤ 32) → cnt o ((K.length + (l.length + 1) : Nat) : Int) = true → c + natsL (k :: l) ≤ 64 → K.length ≤ a →
    ∃ n2 : Nat, rdep_reader_rich_l0 ((deep + 1 : Nat) : Int) ps (n : Int) [] 0 0 (c : Int) (if K = [] then [] else o) [] 0 [] (avL K) = some (Sum.inr ((ps, (n2 : Int), [], 0, 0), ((c + natsL (k :: l) : Nat) : Int), (o, [], 0, [], avL (K ++ (k :: l))))) ∧
      At s ps n2 (a + (tx k).length + (txL o l (K.length + 1)).length + 1) ∧ s.drop (a + (tx k).length + (txL o l (K.length + 1)).length + 1) = rest
  | [], k, K, n, a, c, rest, hA, hd, hx, hcnt, hc, hK => by
    obtain ⟨hR, hck, hdk⟩ := hx k List.mem_cons_self
    have hn1 : natsL [k] = nats k := by rw [natsL, natsL]; omega
    rw [hn1] at hc ⊢
    rw [txL] at hd ⊢
    rw [List.nil_append] at hd
    obtain ⟨n1, h1, hA1, hd1⟩ := hR n a c (deep + 1) (41 :: rest) hA hd (.inr (.inr ⟨_, rfl⟩)) (fun n' hn' => noSign_close hs hn' (by rw [← List.drop_drop, hd, List.drop_left' rfl])) hck (by push_cast; omega) (by omega)
    obtain ⟨n2, _, ht, hA2, hd2⟩ := next1 hs hA1 hd1 (.inr rfl)
    have hal := hA.2.2
    have hKl : (avL K).length ≤ 10000 := by rw [avL_length]; omega
    have hRd := rich_round (d1 := if K = [] then [] else o) (d2 := []) (d3 := 0) (d4 := []) (K := avL K) hKl h1 ht
    rw [avL_snoc, avL_length, List.length_append] at hRd
    have hK1 : 1 ≤ K.length := by
      have h0 : cnt o ((K.length + 1 : Nat) : Int) = true := hcnt
      rcases Nat.lt_or_ge 0 K.length with h | h
      · omega
      · have : K.length = 0 := by omega
        rw [this] at h0
        unfold cnt at h0
        split at h0
        · exact absurd h0 (by decide)
        · split at h0 <;> exact absurd h0 (by decide)
    have hKne : K ≠ [] := by intro e; subst e; simp at hK1
    have e1 : isWord [41] = false := rfl
    have e2 : (([41] : List UInt8) == [41]) = true := rfl
    have e3 : decide ((1 : Int) < ((K.length + [k].length : Nat) : Int)) = true := decide_eq_true (by simp; omega)
    rw [e1, e2, e3, Bool.and_false, cond_false, Bool.and_self, cond_true] at hRd
    rw [if_neg hKne] at hRd ⊢
    refine ⟨n2, rdep_reader_rich_l0_of hRd, ?_, ?_⟩
    · simpa using hA2
    · simpa using hd2
  | k2 :: l, k, K, n, a, c, rest, hA, hd, hx, hcnt, hc, hK => by
    obtain ⟨hR, hck, hdk⟩ := hx k List.mem_cons_self
    have hn1 : natsL (k :: k2 :: l) = nats k + natsL (k2 :: l) := by rw [natsL]
    rw [hn1] at hc ⊢
    obtain ⟨bt, bop⟩ := between_tok ho (K.length + 1)
    have htxL : txL o (k2 :: l) (K.length + 1) = 32 :: (between o (K.length + 1) ++ (32 :: (tx k2 ++ txL o l (K.length + 2)))) := by
      rw [txL, sep_between o _ (by omega)]; simp
    rw [htxL] at hd ⊢
    have hd0 : s.drop a = tx k ++ (32 :: (between o (K.length + 1) ++ (32 :: (tx k2 ++ (txL o l (K.length + 2) ++ (41 :: rest)))))) := by rw [hd]; simp
    obtain ⟨n1, h1, hA1, hd1⟩ := hR n a c (deep + 1) _ hA hd0 (.inr (.inl ⟨_, rfl⟩)) (fun n' hn' => noSign_blank hs hn' (by rw [← List.drop_drop, hd0, List.drop_left' rfl]) bt (.inr (.inl ⟨_, rfl⟩)) bop) hck (by push_cast; omega) (by omega)
    obtain ⟨hA2, hd2⟩ := hA1.blank hd1
    obtain ⟨n2, _, ht, hA3, hd3⟩ := next hs hA2 hd2 bt (.inr (.inl ⟨_, rfl⟩))
    obtain ⟨hA4, hd4⟩ := hA3.blank hd3
    have hal := hA.2.2
    have hal4 := hA4.2.2
    have hKl : (avL K).length ≤ 10000 := by rw [avL_length]; omega
    have hRd := rich_round (d1 := if K = [] then [] else o) (d2 := []) (d3 := 0) (d4 := []) (K := avL K) hKl h1 ht
    rw [avL_snoc, avL_length, List.length_append] at hRd
    have hne : K ++ [k] ≠ [] := by simp
    have hKlen : (K ++ [k]).length = K.length + 1 := by simp
    have ih := read_loop hs o ho deep hdeep l k2 (K ++ [k]) n2 (a + (tx k).length + 1 + (between o (K.length + 1)).length + 1) (c + nats k) rest hA4 (by rw [hKlen]; exact hd4) (fun x hxm => hx x (List.mem_cons_of_mem _ hxm)) (by rw [hKlen]; rw [show K.length + 1 + (l.length + 1) = K.length + ((k2 :: l).length + 1) by simp; omega]; exact hcnt) (by omega) (by rw [hKlen]; omega)
    rw [if_neg hne, hKlen] at ih
    obtain ⟨n3, i1, i2, i3⟩ := ih
    have step : rdep_reader_rich_l0_E ((deep + 1 : Nat) : Int) ps (n : Int) [] 0 0 (c : Int) (if K = [] then [] else o) [] 0 [] (avL K) = rdep_reader_rich_l0 ((deep + 1 : Nat) : Int) ps (n2 : Int) [] 0 0 ((c + nats k : Nat) : Int) o [] 0 [] (avL (K ++ [k])) := by
      rw [hRd]
      have hbp : between o (K.length + 1) ≠ [41] := by
        intro e
        rw [e] at bt
        obtain ⟨c0, t0, hc0, hb0, _⟩ := bt
        cases hc0
        exact hb0.2.2 rfl
      cases K with
      | nil =>
        have hb : between o (([] : List Tree).length + 1) = o := by unfold between; rw [if_neg (by simp)]
        have e1 : (((([] : List Tree).length + [k].length : Nat) : Int) == 1) = true := rfl
        rw [hb, e1, ho]
        rfl
      | cons x K =>
        rw [if_neg (by simp)]
        have e1 : ((((x :: K).length + [k].length : Nat) : Int) == 1) = false := by rw [beq_eq_false_iff_ne]; simp; omega
        have e2 : decide ((1 : Int) < (((x :: K).length + [k].length : Nat) : Int)) = true := decide_eq_true (by simp; omega)
        rw [e1, e2, Bool.false_and, cond_false, beq_ne hbp]
        simp only [Bool.and_false, cond_false, Bool.true_and]
        by_cases hao : o = [97, 110, 100] ∨ o = [111, 114]
        · have hb : between o ((x :: K).length + 1) = o := by
            unfold between
            rw [if_neg]
            rintro ⟨_, h | h⟩ <;> subst h <;> exact absurd hao (by decide)
          have e3 : ((o == [97, 110, 100]) || (o == [111, 114])) = true := by simpa using hao
          rw [hb, e3, beq_self_eq_true]
          rfl
        · have e3 : ((o == [97, 110, 100]) || (o == [111, 114])) = false := by
            rw [Bool.eq_false_iff]; intro e; exact hao (by simpa using e)
          rw [e3, Bool.false_and, cond_false]
          unfold cnt at hcnt
          rw [if_neg hao] at hcnt
          by_cases hiu : o = [105, 102] ∨ o = [117, 110, 108, 101, 115, 115]
          · rw [if_pos hiu] at hcnt
            simp only [Bool.or_eq_true, beq_iff_eq, List.length_cons] at hcnt
            have hK0 : K.length = 0 := by omega
            have hb : between o ((x :: K).length + 1) = [101, 108, 115, 101] := by
              unfold between
              rw [if_pos ⟨by rw [List.length_cons]; omega, hiu⟩]
            have e4 : ((o == [105, 102]) || (o == [117, 110, 108, 101, 115, 115])) = true := by simpa using hiu
            have e5 : ((((x :: K).length + [k].length : Nat) : Int) == 2) = true := by rw [beq_iff_eq]; simp; omega
            rw [hb, e4, e5]
            rfl
          · rw [if_neg hiu] at hcnt
            simp only [beq_iff_eq, List.length_cons] at hcnt
            omega
    refine ⟨n3, ?_, ?_, ?_⟩
    · apply rdep_reader_rich_l0_of
      rw [step, i1]
      simp [Nat.add_assoc]
    · have : a + (tx k).length + (32 :: (between o (K.length + 1) ++ (32 :: (tx k2 ++ txL o l (K.length + 2))))).length + 1 = a + (tx k).length + 1 + (between o (K.length + 1)).length + 1 + (tx k2).length + (txL o l (K.length + 2)).length + 1 := by simp; omega
      rw [this]; exact i2
    · have : a + (tx k).length + (32 :: (between o (K.length + 1) ++ (32 :: (tx k2 ++ txL o l (K.length + 2))))).length + 1 = a + (tx k).length + 1 + (between o (K.length + 1)).length + 1 + (tx k2).length + (txL o l (K.length + 2)).length + 1 := by simp; omega
      rw [this]; exact i3
 end
end Go.Proofs.Ytomaefbhcpmbiaa
 end

 section
set_option linter.unusedVariables false
set_option linter.unusedSimpArgs false
namespace Go.Proofs.Ytomaefbhcpmbiaa
open Go Go.Eng Go.Proofs
 section
variable {s : List UInt8} {ps : List AV}
theorem dpL_mem : ∀ {ks : List Tree} {n : Int} {k : Tree}, k ∈ ks → 1 + dp k ≤ dpL ks n
  | [], n, k, h => absurd h List.not_mem_nil
  | x :: ks, n, k, h => by
    rw [dpL]
    rcases List.mem_cons.1 h with e | e
    · subst e
      have hr := (dp_range k).1
      split
      · exact dpL_ge ks (1 + dp k)
      · have := dpL_ge ks n; omega
    · exact dpL_mem e
where dpL_ge : ∀ (ks : List Tree) (n : Int), n ≤ dpL ks n
  | [], n => by rw [dpL]; omega
  | x :: ks, n => by
    rw [dpL]
    split
    · have := dpL_ge ks (1 + dp x); omega
    · exact dpL_ge ks n
theorem read_rich (hs : s.length ≤ 10000) (o n : List UInt8) (a : Int) (v : List UInt8) (ks : List Tree) (ho : o ≠ []) (ih : ∀ k ∈ ks, ReadT s ps k) : ReadT s ps (.mk o n a v ks) := by
  intro n0 p c deep rest hA hd hr hno hc hdp hcnt
  rw [chk, if_neg ho] at hc
  split at hc
  · omega
  · rename_i hw
    have hw : isWord o = true := by simpa using hw
    split at hc
    · omega
    · rename_i hz
      have hz := Classical.not_not.1 hz
      obtain ⟨rfl, rfl, rfl⟩ := hz
      split at hc
      · omega
      · rename_i hk
        have hk : cnt o (ks.length : Int) = true := by simpa using hk
        rw [nats, if_neg ho] at hcnt
        have hdd : dpL ks 0 + deep ≤ 32 := by
          rw [dp, if_neg ho] at hdp
          split at hdp <;> omega
        cases ks with
        | nil =>
          exfalso
          unfold cnt at hk
          split at hk
          · exact absurd hk (by decide)
          · split at hk <;> exact absurd hk (by decide)
        | cons k l =>
          have hdeep : deep < 32 := by
            have := dpL_pos (k := k) (K := l); omega
          have htx : tx (.mk o [] 0 [] (k :: l)) = 40 :: (tx k ++ (txL o l 1 ++ [41])) := by
            rw [tx, if_neg ho, txL]
            have : sep o 0 = [] := rfl
            rw [this]; simp
          have hd0 : s.drop p = 40 :: (tx k ++ (txL o l (([] : List Tree).length + 1) ++ (41 :: rest))) := by
            rw [hd, htx]; simp
          obtain ⟨n1, _, ht, hA1, hd1⟩ := next1 hs hA hd0 (.inl rfl)
          obtain ⟨n2, h1, h2, h3⟩ := read_loop hs o hw deep hdeep l k [] n1 (p + 1) c rest hA1 hd1 (fun x hx => ⟨ih x hx, chkL_mem hc x hx, by have := dpL_mem (n := 0) hx; omega⟩) (by simpa using hk) hcnt (by simp)
          have hwd : IntKind.wrap .i64 ((deep : Int) + 1) = ((deep + 1 : Nat) : Int) := wr_succ (by omega)
          have hd32 : ((deep : Int) == 32) = false := by rw [beq_eq_false_iff_ne]; omega
          have hlen : p + (tx (.mk o [] 0 [] (k :: l))).length = p + 1 + (tx k).length + (txL o l (([] : List Tree).length + 1)).length + 1 := by
            rw [htx]; simp; omega
          rw [hlen]
          refine ⟨n2, ?_, h2, h3⟩
          have hp40 : isPlain [40] = false := rfl
          have hrich : rdep_reader_rich ps (n1 : Int) [] 0 0 (c : Int) [] [] 0 [] [] ((deep + 1 : Nat) : Int) = some ((), ((ps, (n2 : Int), [], 0, 0), ((c + natsL (k :: l) : Nat) : Int), (o, [], 0, [], avL ([] ++ (k :: l))))) := by
            apply rdep_reader_rich_of
            unfold rdep_reader_rich_E
            have h1' : rdep_reader_rich_l0 ((deep + 1 : Nat) : Int) ps (n1 : Int) [] 0 0 (c : Int) [] [] 0 [] [] = _ := h1
            rw [h1']
            rfl
          apply rdep_reader_dep_of
          unfold rdep_reader_dep_E
          simp only [ht, Option.bind_some, plain_is, hp40, cond_false]
          have e1 : (!(([40] : List UInt8) == [40])) = false := rfl
          rw [e1, hd32, cond_false, cond_false, hwd, hrich, nats, if_neg ho]
          rfl
 mutual
theorem read_is (hs : s.length ≤ 10000) : ∀ T : Tree, ReadT s ps T
  | .mk o n a v ks => by
    by_cases ho : o = []
    · subst ho
      by_cases hk : ks = []
      · subst hk; exact read_atom hs n a v
      · intro n0 p c deep rest hA hd hr hno hc
        rw [chk, if_pos rfl, if_neg hk] at hc
        omega
    · exact read_rich hs o n a v ks ho (readL_is hs ks)
theorem readL_is (hs : s.length ≤ 10000) : ∀ ks : List Tree, ∀ k ∈ ks, ReadT s ps k
  | [], k, h => absurd h List.not_mem_nil
  | x :: ks, k, h => by
    rcases List.mem_cons.1 h with e | e
    · rw [e]; exact read_is hs x
    · exact readL_is hs ks k e
 end
 end
end Go.Proofs.Ytomaefbhcpmbiaa
 end
