/- The text of a right dependency, read, is the dependency.
   RdepBack: the pure law, but for awake.
   awake: by running it.
   RdepBack: the pure law. -/
import Derived.Test.YtomaefbhcpmbiaaPd
import Derived.Test.YtomaefbhcpmbiaaYb
 section
set_option linter.unusedVariables false
set_option linter.unusedSimpArgs false
namespace Go.Proofs.Ytomaefbhcpmbiaa
open Go Go.Eng Go.Proofs

theorem sep_short {o : List UInt8} (h : isWord o = true) (i : Nat) : (sep o i).length ≤ 9 := by
  have := (word_ne h).2
  unfold sep
  split
  · decide
  · split
    · simp; omega
    · simp
theorem nm_len {n : List UInt8} (h : nmOk n = true) : n.length ≤ 64 := by
  unfold nmOk at h
  simp only [Bool.and_eq_true, decide_eq_true_eq] at h
  omega
theorem cnt_two {o : List UInt8} {n : Nat} (h : cnt o (n : Int) = true) : 2 ≤ n := by
  unfold cnt at h
  split at h
  · have := of_decide_eq_true h; omega
  · split at h
    · simp only [Bool.or_eq_true, beq_iff_eq] at h; omega
    · simp only [beq_iff_eq] at h; omega
 mutual
theorem tx_short : ∀ T : Tree, chk T = 0 → (tx T).length + 11 ≤ 143 * nats T
  | .mk o n a v ks, hc => by
    rw [chk] at hc
    rw [tx, nats]
    split at hc
    · rename_i ho
      rw [if_pos ho, if_pos ho]
      split at hc
      · obtain ⟨a1, a2, a3, a4, a5⟩ := atom_ok hc
        have h1 := nm_len a1
        split
        · omega
        · rename_i ha
          have h2 := vchk_len (a5 ha)
          have h3 := sgn_len a
          simp only [List.length_append, List.length_singleton]
          omega
      · omega
    · rename_i ho
      rw [if_neg ho, if_neg ho]
      split at hc
      · omega
      · rename_i hw
        have hw : isWord o = true := by simpa using hw
        split at hc
        · omega
        · split at hc
          · omega
          · rename_i hk
            have hk2 := cnt_two (by simpa using hk : cnt o (ks.length : Int) = true)
            have hb := txL_short o hw ks hc
            have h0 : (txL o ks 0).length + 2 * ks.length + 9 ≤ 143 * natsL ks := by
              cases ks with
              | nil => simp at hk2
              | cons k l =>
                have hck := chkL_mem hc k List.mem_cons_self
                have hcl : chkL l = 0 := by rw [chkL, if_pos hck] at hc; exact hc
                have b0 := tx_short k hck
                have b1 := txL_short o hw l hcl (0 + 1)
                rw [txL, natsL]
                have : sep o 0 = [] := rfl
                rw [this]
                simp only [List.length_append, List.length_nil, List.length_cons] at *
                omega
            simp only [List.length_append, List.length_singleton]
            omega
theorem txL_short (o : List UInt8) (ho : isWord o = true) : ∀ ks : List Tree, chkL ks = 0 → ∀ i, (txL o ks i).length + 2 * ks.length ≤ 143 * natsL ks
  | [], hc, i => by rw [txL, natsL]; simp
  | k :: ks, hc, i => by
    have hck := chkL_mem hc k List.mem_cons_self
    have hcl : chkL ks = 0 := by rw [chkL, if_pos hck] at hc; exact hc
    have b0 := tx_short k hck
    have b1 := txL_short o ho ks hcl (i + 1)
    have b2 := sep_short ho i
    rw [txL, natsL]
    simp only [List.length_append, List.length_cons]
    omega
 end
theorem parse_text (T : Tree) (hc : chk T = 0) (hd : dp T ≤ 32) (hn : nats T ≤ 64) : rdep_Parse (tx T) = some (T.r, ([], 0, 0)) := by
  have hs : (tx T).length ≤ 10000 := by
    have := tx_short T hc
    omega
  have hA := At_zero (tx T) hs
  have hend : ∀ n' : Nat, At (tx T) ((Go.Proofs.Ytomaefbhcpmbiaa.T (tx T) 0).map tE) n' (0 + (tx T).length) → ∃ m : Nat, ∀ f1 f2 f3, rdep_reader_look ((Go.Proofs.Ytomaefbhcpmbiaa.T (tx T) 0).map tE) (n' : Int) f1 f2 f3 = some ([], (m : Int)) := by
    intro n' hn'
    obtain ⟨tok, m, n3, hl, _, _, g2, _, _, h5, _⟩ := step hs hn'
    have : (tok, m) = ([], (tx T).length) := by
      rw [h5]
      unfold Go.Proofs.Ytomaefbhcpmbiaa.T
      rw [Nat.zero_add, List.drop_length, toks_nil]
      rfl
    cases this
    exact ⟨_, hl⟩
  obtain ⟨n2, h1, h2, h3⟩ := read_is hs T 0 0 0 0 [] hA (by simp) (.inl rfl) (fun n' hn' => by
    obtain ⟨m, hm⟩ := hend n' hn'
    exact ⟨[], m, hm, by decide⟩) hc (by omega) (by omega)
  obtain ⟨m, hm⟩ := hend n2 h2
  exact parse_ok hs h1 hm
end Go.Proofs.Ytomaefbhcpmbiaa
 end

 section
set_option linter.unusedVariables false
set_option linter.unusedSimpArgs false
namespace Go.Proofs.Ytomaefbhcpmbiaa
open Go Go.Eng Go.Proofs

 mutual
theorem ats_full : ∀ (T : Tree) (d : Int), dp T ≤ d → ats T d ≤ 64 → (nats T : Int) = ats T d
  | .mk o n a v ks, d, hd, h => by
    rw [ats] at h ⊢
    rw [nats]
    rw [dp] at hd
    split
    · rfl
    · rename_i ho
      rw [if_neg ho] at h hd
      cases ks with
      | nil => rw [natsL, atsL]; rfl
      | cons k l =>
        have hp := dpL_pos (k := k) (K := l)
        have hd' : dpL (k :: l) 0 ≤ d := by split at hd <;> omega
        have := atsL_full (k :: l) d 0 (by omega) (fun x hx => by have := dpL_mem (n := 0) hx; omega) (by omega) h
        omega
theorem atsL_full : ∀ (ks : List Tree) (d n : Int), 0 < d → (∀ k ∈ ks, 1 + dp k ≤ d) → 0 ≤ n → atsL ks d n ≤ 64 → n + (natsL ks : Int) = atsL ks d n
  | [], d, n, hd, hk, hn, h => by rw [natsL, atsL]; simp
  | k :: ks, d, n, hd, hk, hn, h => by
    rw [atsL] at h ⊢
    rw [natsL]
    have hkd := hk k List.mem_cons_self
    have hr := (ats_range k (d - 1)).1
    split
    · rename_i hc
      rw [if_pos hc] at h
      have hge := (atsL_range ks d (n + ats k (d - 1)) (by omega)).1
      have h1 := ats_full k (d - 1) (by omega) (by omega)
      have h2 := atsL_full ks d (n + ats k (d - 1)) hd (fun x hx => hk x (List.mem_cons_of_mem _ hx)) (by omega) h
      omega
    · rename_i hc
      rw [if_neg hc] at h
      have hge := (atsL_range ks d n hn).1
      omega
 end
theorem same_loop (o n : List UInt8) (a : Int) (v : List UInt8) (ks : List Tree) (hl : ks.length ≤ 1000000) (hk : ∀ k ∈ ks, drayageref15_Same k.o k.n k.a k.v (avL k.k) k.o k.n k.a k.v (avL k.k) = some true) :
    ∀ (l : List Tree) (i : Nat), ks.drop i = l → i ≤ ks.length →
    drayageref15_Same_l4 (i : Int) o n a v (avL ks) o n a v (avL ks) = some (Sum.inl ((o, n, a, v, avL ks), (o, n, a, v, avL ks)))
  | [], i, h, hi => by
    apply drayageref15_Same_l4_of
    unfold drayageref15_Same_l4_E
    rw [avL_length, out_dec h]
    rfl
  | k :: t, i, h, hi => by
    obtain ⟨g1, g2, g3, g4⟩ := drop_cons h
    have hkk := hk k (List.mem_of_getElem? g2)
    have ih := same_loop o n a v ks hl hk t (i + 1) g3 (by omega)
    apply drayageref15_Same_l4_of
    unfold drayageref15_Same_l4_E
    rw [avL_length, in_dec h]
    simp only [getL_of (avL_drop h), cond_true]
    obtain ⟨o', n', a', v', q⟩ := k
    have hkk' : drayageref15_Same o' n' a' v' (avL q) o' n' a' v' (avL q) = some true := hkk
    simp only [Tree.av, dAgg, dCons, dStr, dInt, dSl, dNil, BEq.rfl, Bool.and_self, and_self, if_true, hkk', Option.bind_some, Bool.not_true, cond_false]
    rw [wr_succ (by omega)]
    exact ih
 mutual
theorem same_is : ∀ T : Tree, nodes T ≤ 20000 → drayageref15_Same T.o T.n T.a T.v (avL T.k) T.o T.n T.a T.v (avL T.k) = some true
  | .mk o n a v ks, h => by
    rw [nodes] at h
    have hlen := nodesL_length ks
    have hL := same_loop o n a v ks (by omega) (sameL_is ks (by omega)) ks 0 rfl (by omega)
    have hL' : drayageref15_Same_l4 0 o n a v (avL ks) o n a v (avL ks) = _ := hL
    apply drayageref15_Same_of
    unfold drayageref15_Same_E
    have e1 : (((avL ks).length : Int) != ((avL ks).length : Int)) = false := by simp
    simp only [Tree.o, Tree.n, Tree.a, Tree.v, Tree.k, beq_self_eq_true, Bool.not_true, Bool.and_self, cond_false, Option.bind_some, e1]
    rw [hL']
    rfl
theorem sameL_is : ∀ ks : List Tree, nodesL ks ≤ 20000 → ∀ k ∈ ks, drayageref15_Same k.o k.n k.a k.v (avL k.k) k.o k.n k.a k.v (avL k.k) = some true
  | [], h, k, hk => absurd hk List.not_mem_nil
  | k0 :: ks, h, k, hk => by
    rw [nodesL] at h
    rcases List.mem_cons.1 hk with e | e
    · rw [e]; exact same_is k0 (by omega)
    · exact sameL_is ks (by omega) k e
 end
/-- What is right is written and read. -/
theorem back {T : Tree} (h : chkAll T = 0) : rdep_Parse (tx T) = some (T.r, ([], 0, 0)) := by
  unfold chkAll at h
  split at h
  · omega
  · rename_i hb
    have h1 : dp T ≤ 32 := by omega
    have h2 : ats T 32 ≤ 64 := by omega
    exact parse_text T h h1 (by have := ats_full T 32 h1 h2; omega)
end Go.Proofs.Ytomaefbhcpmbiaa
 end

 section
set_option maxRecDepth 1000000
namespace Go.Proofs.Ytomaefbhcpmbiaa
open Go Go.Eng Go.Proofs
theorem awake_run : (runF tp 200).call 6 [] [] = some (.bool true, []) := by kernel_rfl
theorem awake_true : drayagelaw15_awake = some true := by
  unfold drayagelaw15_awake FnU
  rw [lim_call.2 ⟨200, awake_run⟩]; rfl
end Go.Proofs.Ytomaefbhcpmbiaa
 end

 section
set_option linter.unusedVariables false
set_option linter.unusedSimpArgs false
namespace Go.Proofs.Ytomaefbhcpmbiaa
open Go Go.Eng Go.Proofs

theorem same_none : drayageref15_Same [] [] 0 [] [] [] [] 0 [] [] = some true := same_is (.mk [] [] 0 [] []) (by rw [nodes, nodesL]; omega)
theorem Tree.mk_eq (T : Tree) : T = .mk T.o T.n T.a T.v T.k := by cases T; rfl
/-- A text that is read, written, is read as the same. -/
theorem k10_is (s : List UInt8) (hs : s.length ≤ 4000) (d : R5) : ∃ w, drayagelaw15_RdepBack_k10 s d.1 d.2.1 d.2.2.1 d.2.2.2.1 d.2.2.2.2 = some (true, w) := by
  rcases parse_sound s (by omega) with ⟨T, c, h1, hG, hc⟩ | ⟨a, e, h1, h2, h3⟩
  · have hn : nodes T ≤ 20000 := by have := hG.nodes; omega
    have hck : chkAll T = 0 := by
      unfold chkAll
      have h4 := ats_le T 32
      have h5 := hG.cnt
      have h6 := hG.deep
      rw [if_neg (by omega)]
      exact hG.ok
    have hpr := print_is T hn hG.sm
    rw [if_pos hck] at hpr
    have hca := checkAll_is T hn hG.sm
    rw [hck] at hca
    have hsame := same_is T hn
    refine ⟨d, ?_⟩
    apply drayagelaw15_RdepBack_k10_of
    unfold drayagelaw15_RdepBack_k10_E
    simp only [h1, Option.bind_some, Tree.r, hpr, back hck, hsame, hca]
    rfl
  · refine ⟨d, ?_⟩
    apply drayagelaw15_RdepBack_k10_of
    unfold drayagelaw15_RdepBack_k10_E
    have e1 : (e == 0) = false := by rw [beq_eq_false_iff_ne]; exact h2
    have e2 : (e != 0) = true := by rw [bne_iff_ne]; exact h2
    have e3 : decide ((0 : Int) ≤ (a : Int)) = true := decide_eq_true (by omega)
    have e4 : decide ((a : Int) ≤ (s.length : Int)) = true := decide_eq_true (by omega)
    simp only [h1, Option.bind_some, e1, e2, e3, e4, same_none, Bool.false_and, Bool.and_false, Bool.not_false, cond_true, cond_some, cond_and, Bool.and_self]
theorem pure_law (T : Tree) (s : List UInt8) : drayagelaw15_RdepBack T.o T.n T.a T.v (avL T.k) s = some true := by
  apply drayagelaw15_RdepBack_of
  unfold drayagelaw15_RdepBack_E
  rw [awake_true, size_is T 300 (by omega) (by omega) _ _ _ _ _ T.mk_eq]
  simp only [Option.bind_some, Bool.not_true, cond_false, cond_some, cond_or]
  by_cases hb : (300 : Int) < sz T 300 ∨ (4000 : Int) < (s.length : Int)
  · have : (decide ((300 : Int) < sz T 300) || decide ((4000 : Int) < (s.length : Int))) = true := by
      simp only [Bool.or_eq_true, decide_eq_true_eq]; exact hb
    rw [this]; rfl
  · have : (decide ((300 : Int) < sz T 300) || decide ((4000 : Int) < (s.length : Int))) = false := by
      simp only [Bool.or_eq_false_iff, decide_eq_false_iff_not]; omega
    rw [this, cond_false]
    have hsm := sz_small T 300 (by omega) (by omega)
    have hn : nodes T ≤ 20000 := by omega
    have hpr := print_is T hn hsm.2
    obtain ⟨w, hk⟩ := k10_is s (by omega) T.r
    have hk' : drayagelaw15_RdepBack_k10 s T.o T.n T.a T.v (avL T.k) = some (true, w) := hk
    by_cases hc : chkAll T = 0
    · rw [if_pos hc] at hpr
      simp only [hpr, Option.bind_some, back hc, Tree.r, same_is T hn, hk']
      rfl
    · rw [if_neg hc] at hpr
      have : (chkAll T == 0) = false := by rw [beq_eq_false_iff_ne]; exact hc
      simp only [hpr, Option.bind_some, this, cond_false, hk']
end Go.Proofs.Ytomaefbhcpmbiaa
 end
