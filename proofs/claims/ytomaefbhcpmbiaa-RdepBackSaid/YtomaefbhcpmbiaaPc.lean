/- What the reader of dependencies makes is right, or it tells where it isn't.
   The reader of dependencies: what is between brackets.
   The reader of dependencies is right.
   What reading a text brings. -/
import Derived.Test.YtomaefbhcpmbiaaPb
 section
set_option linter.unusedVariables false
set_option linter.unusedSimpArgs false
namespace Go.Proofs.Ytomaefbhcpmbiaa
open Go Go.Eng Go.Proofs

abbrev R5 : Type := List UInt8 × List UInt8 × Int × List UInt8 × List AV
def Tree.r (T : Tree) : R5 := (T.o, T.n, T.a, T.v, avL T.k)
theorem fail_new (ps : List AV) (n a e : Int) (h : e ≠ 0) : rdep_reader_fail ps n [] 0 0 a e = some ((), (ps, n, [], a, e)) := by
  apply rdep_reader_fail_of
  unfold rdep_reader_fail_E
  have : (e != 0) = true := by rw [bne_iff_ne]; exact h
  rw [this]
  rfl
theorem fail_none (ps : List AV) (n : Int) (f1 : List UInt8) (f2 f3 a : Int) : rdep_reader_fail ps n f1 f2 f3 a 0 = some ((), (ps, n, f1, f2, f3)) := by
  apply rdep_reader_fail_of
  unfold rdep_reader_fail_E
  cases (f3 == 0) <;> rfl
theorem fail_kept (ps : List AV) (n : Int) (f1 : List UInt8) (f2 f3 a e : Int) (h : f3 ≠ 0) : rdep_reader_fail ps n f1 f2 f3 a e = some ((), (ps, n, f1, f2, f3)) := by
  apply rdep_reader_fail_of
  unfold rdep_reader_fail_E
  have : (f3 == 0) = false := by rw [beq_eq_false_iff_ne]; exact h
  rw [this]
  rfl
def isPlain (t : List UInt8) : Bool := (!(t == []) && !(t == [40])) && !(t == [41])
theorem plain_is (t : List UInt8) (a : Int) : rdep_part_plain t a = some (isPlain t) := by
  apply rdep_part_plain_of
  unfold rdep_part_plain_E
  simp only [cond_some, cond_and, Option.bind_some]
  rfl
theorem opOf_range (w : List UInt8) : 0 ≤ opOf w ∧ opOf w ≤ 5 := by
  have h1 := idxL_ge w signL 0
  have h2 := idxL_lt w signL 0
  have h3 : signL.length = 5 := rfl
  unfold opOf
  omega
theorem opOf_wrap (w : List UInt8) : (if (IntKind.wrap .i64 (idxL signL w 0 + 1)) < 0 then 0 else (IntKind.wrap .i64 (idxL signL w 0 + 1))) = opOf w := by
  have h := opOf_range w
  have e : idxL signL w 0 + 1 = opOf w := rfl
  rw [e, wr (by omega), if_neg (by omega)]
theorem isPlain_ne {t : List UInt8} (h : isPlain t = true) : t ≠ [] := by
  intro e; subst e; exact absurd h (by decide)
theorem signs_cut {R : Type} (K : List AV → Option R) : cutL (([] :: signL).map AV.str) 1 ((List.length (([] :: signL).map AV.str) : Nat) : Int) K = K (signL.map AV.str) := rfl

theorem k7_zero {s : List UInt8} {ps : List AV} {n : Nat} {w : List UInt8} {m : Int} (hw : opOf w = 0) (hlook : ∀ f1 f2 f3, rdep_reader_look ps (n : Int) f1 f2 f3 = some (w, m))
    (f1 : List UInt8) (f2 f3 c : Int) (t : List UInt8) (p : Int) (x1 : List UInt8) (x2 : Int) (x3 : List UInt8) (y1 : List UInt8) (y2 : Int) (y3 : List UInt8) :
    rdep_reader_atom_k7 ps (n : Int) f1 f2 f3 c t p x1 x2 x3 y1 y2 y3 = some ((ps, (n : Int), f1, f2, f3), c, (t, p), (y1, 0, y3), (y1, 0, y3)) := by
  apply rdep_reader_atom_k7_of
  unfold rdep_reader_atom_k7_E
  rw [signs_is]
  simp only [Option.bind_some]
  rw [signs_cut]
  simp only [hlook, Option.bind_some, index_is signL _ (by decide), opOf_wrap, hw]
  rfl
theorem k7_some {s : List UInt8} {ps : List AV} {n n1 n2 : Nat} {w v : List UInt8} {m m1 m2 : Int} (hw : opOf w ≠ 0) (hlook : ∀ f1 f2 f3, rdep_reader_look ps (n : Int) f1 f2 f3 = some (w, m))
    (ht1 : ∀ f1 f2 f3, rdep_reader_take ps (n : Int) f1 f2 f3 = some ((w, m), (ps, (n1 : Int), f1, f2, f3)))
    (ht2 : ∀ f1 f2 f3, rdep_reader_take ps (n1 : Int) f1 f2 f3 = some ((v, m2), (ps, (n2 : Int), f1, f2, f3))) {e : Int} (hc : version_Check 2 v = some e)
    (f1 : List UInt8) (f2 f3 c : Int) (t : List UInt8) (p : Int) (x1 : List UInt8) (x2 : Int) (x3 : List UInt8) (y1 : List UInt8) (y2 : Int) (y3 : List UInt8)
    {g1 : List UInt8} {g2 g3 : Int} (hf : rdep_reader_fail ps (n2 : Int) f1 f2 f3 m2 (if isPlain v then e else 3) = some ((), (ps, (n2 : Int), g1, g2, g3))) :
    rdep_reader_atom_k7 ps (n : Int) f1 f2 f3 c t p x1 x2 x3 y1 y2 y3 = some ((ps, (n2 : Int), g1, g2, g3), c, (t, p), (y1, opOf w, if isPlain v then v else y3), (y1, opOf w, if isPlain v then v else y3)) := by
  apply rdep_reader_atom_k7_of
  unfold rdep_reader_atom_k7_E
  rw [signs_is]
  simp only [Option.bind_some]
  rw [signs_cut]
  have h0 : (opOf w == 0) = false := by rw [beq_eq_false_iff_ne]; exact hw
  simp only [hlook, Option.bind_some, index_is signL _ (by decide), opOf_wrap, h0, cond_false, ht1, ht2, plain_is, hc]
  cases hp : isPlain v with
  | true =>
    rw [hp, if_pos rfl] at hf
    simp only [Bool.not_true, cond_false, hf, Option.bind_some, if_true]
  | false =>
    rw [hp] at hf
    simp only [Bool.false_eq_true, if_false] at hf
    simp only [Bool.not_false, cond_true, hf, Option.bind_some, Bool.false_eq_true, if_false]
theorem k7_kept {s : List UInt8} {ps : List AV} {n a : Nat} (hs : s.length ≤ 10000) (h : At s ps n a) (f1 : List UInt8) (f2 f3 c : Int) (t : List UInt8) (p : Int) (x1 : List UInt8) (x2 : Int) (x3 : List UInt8) (y1 : List UInt8) (y2 : Int) (y3 : List UInt8) (hf : f3 ≠ 0) :
    ∃ (n2 b : Nat) (x y : List UInt8 × Int × List UInt8), At s ps n2 b ∧ rdep_reader_atom_k7 ps (n : Int) f1 f2 f3 c t p x1 x2 x3 y1 y2 y3 = some ((ps, (n2 : Int), f1, f2, f3), c, (t, p), x, y) := by
  obtain ⟨w, m1, n1, hl, ht1, h1, h2, h3, h4, _⟩ := step hs h
  by_cases hw : opOf w = 0
  · exact ⟨n, a, _, _, h, k7_zero (s := s) hw hl ..⟩
  · obtain ⟨v, m2, n2, _, ht2, g1, g2, g3, g4, _⟩ := step hs h4
    exact ⟨n2, _, _, _, g4, k7_some (s := s) (m1 := 0) hw hl ht1 ht2 (vchk_is v (by omega)) _ _ _ _ _ _ _ _ _ _ _ _ (fail_kept _ _ _ _ _ _ _ hf)⟩
theorem k5_kept {s : List UInt8} {ps : List AV} {n a : Nat} (hs : s.length ≤ 10000) (h : At s ps n a) (f1 : List UInt8) (f2 f3 c : Int) (t : List UInt8) (ht : t.length ≤ 10000) (p : Int) (x1 : List UInt8) (x2 : Int) (x3 : List UInt8) (y1 : List UInt8) (y2 : Int) (y3 : List UInt8) (hf : f3 ≠ 0) :
    ∃ (n2 b : Nat) (x y : List UInt8 × Int × List UInt8), At s ps n2 b ∧ rdep_reader_atom_k5 ps (n : Int) f1 f2 f3 c t p x1 x2 x3 y1 y2 y3 = some ((ps, (n2 : Int), f1, f2, f3), c, (t, p), x, y) := by
  obtain ⟨n2, b, x, y, h1, h2⟩ := k7_kept hs h f1 f2 f3 c t p x1 x2 x3 y1 y2 y3 hf
  refine ⟨n2, b, x, y, h1, ?_⟩
  apply rdep_reader_atom_k5_of
  unfold rdep_reader_atom_k5_E
  rw [vname_is t (by omega)]
  cases nmOk t with
  | true => simp only [Option.bind_some, Bool.not_true, cond_false, h2]
  | false => simp only [Option.bind_some, Bool.not_false, cond_true, fail_kept _ _ _ _ _ _ _ hf, h2]


/-! ### How many atoms, in full -/
 mutual
def nats : Tree → Nat
  | .mk o _ _ _ ks => if o = [] then 1 else natsL ks
def natsL : List Tree → Nat
  | [] => 0
  | k :: ks => nats k + natsL ks
 end
 mutual
theorem ats_le : ∀ (T : Tree) (d : Int), ats T d ≤ nats T
  | .mk o n a v ks, d => by
    rw [ats, nats]
    have := atsL_le ks d 0
    split <;> omega
theorem atsL_le : ∀ (ks : List Tree) (d n : Int), atsL ks d n ≤ n + natsL ks
  | [], d, n => by rw [atsL, natsL]; omega
  | k :: ks, d, n => by
    rw [atsL, natsL]
    have h1 := ats_le k (d - 1)
    split
    · have := atsL_le ks d (n + ats k (d - 1)); omega
    · have := atsL_le ks d n; omega
 end
theorem natsL_append : ∀ (l l' : List Tree), natsL (l ++ l') = natsL l + natsL l'
  | [], l' => by rw [List.nil_append, natsL]; omega
  | k :: l, l' => by rw [List.cons_append, natsL, natsL, natsL_append l l']; omega
theorem nodesL_append : ∀ (l l' : List Tree), nodesL (l ++ l') = nodesL l + nodesL l'
  | [], l' => by rw [List.nil_append, nodesL]; omega
  | k :: l, l' => by rw [List.cons_append, nodesL, nodesL, nodesL_append l l']; omega
theorem SmL_append : ∀ (l l' : List Tree), SmL l → SmL l' → SmL (l ++ l')
  | [], l', _, h => h
  | k :: l, l', h, h' => by
    rw [SmL] at h
    rw [List.cons_append, SmL]
    exact ⟨h.1, SmL_append l l' h.2 h'⟩
theorem chkL_append : ∀ (l l' : List Tree), chkL l = 0 → chkL l' = 0 → chkL (l ++ l') = 0
  | [], l', _, h => h
  | k :: l, l', h, h' => by
    have hk := chkL_mem h k List.mem_cons_self
    rw [chkL, if_pos hk] at h
    rw [List.cons_append, chkL, if_pos hk]
    exact chkL_append l l' h h'
theorem dpL_append : ∀ (l l' : List Tree) (n : Int), dpL (l ++ l') n = dpL l' (dpL l n)
  | [], l', n => by rw [List.nil_append, dpL]
  | k :: l, l', n => by rw [List.cons_append, dpL, dpL, dpL_append l l']
theorem avL_append (l l' : List Tree) : avL (l ++ l') = avL l ++ avL l' := by rw [avL_map, avL_map, avL_map, List.map_append]

/-- A right dependency, so deep at most, of so many atoms, within so many bytes. -/
structure Good (T : Tree) (room : Int) (at' bytes : Nat) : Prop where
  ok : chk T = 0
  deep : dp T ≤ room
  cnt : nats T = at'
  sm : Sm T
  nodes : nodes T ≤ bytes
theorem good_atom {t : List UInt8} {a : Int} {v : List UInt8} (h : vatom t a v = 0) (hv : v.length ≤ 300) {room : Int} (hr : 0 ≤ room) {b : Nat} (hb : 1 ≤ b) : Good (.mk [] t a v []) room 1 b := by
  have hn := (atom_ok h).1
  have hl : t.length ≤ 64 := by
    unfold nmOk at hn
    simp only [Bool.and_eq_true, decide_eq_true_eq] at hn
    omega
  refine ⟨?_, ?_, ?_, ?_, ?_⟩
  · rw [chk, if_pos rfl, if_pos rfl]; exact h
  · rw [dp, if_pos rfl, dpL]; exact hr
  · rw [nats, if_pos rfl]
  · rw [Sm, SmL]; exact ⟨by simp, by omega, hv, trivial⟩
  · rw [Go.Proofs.Ytomaefbhcpmbiaa.nodes, nodesL]; omega
/-- What a step of the reader is. -/
def Fine (s : List UInt8) (ps : List AV) (a0 c0 : Nat) (room : Int) (prog : Option (R5 × ((List AV × Int × List UInt8 × Int × Int) × Int))) : Prop :=
  ∃ (T : Tree) (n2 a2 c2 : Nat), prog = some (T.r, ((ps, (n2 : Int), [], 0, 0), ((c0 + c2 : Nat) : Int))) ∧ At s ps n2 a2 ∧ a0 < a2 ∧ c0 + c2 ≤ 64 ∧ Good T room c2 (a2 - a0)
def Bad (s : List UInt8) (ps : List AV) {D : Type} (prog : Option (D × ((List AV × Int × List UInt8 × Int × Int) × Int))) : Prop :=
  ∃ (d : D) (n2 b : Nat) (c1 : Int) (a : Nat) (e : Int), prog = some (d, ((ps, (n2 : Int), [], (a : Int), e), c1)) ∧ e ≠ 0 ∧ a ≤ s.length ∧ At s ps n2 b
def atomR (r : (List UInt8 × Int × List UInt8) × ((List AV × Int × List UInt8 × Int × Int) × Int)) : R5 × ((List AV × Int × List UInt8 × Int × Int) × Int) := (([], r.1.1, r.1.2.1, r.1.2.2, []), ((r.2.1.1, r.2.1.2.1, r.2.1.2.2.1, r.2.1.2.2.2.1, r.2.1.2.2.2.2), r.2.2))
theorem vchk_len {v : List UInt8} (h : vchk v = 0) : v.length ≤ 64 := by
  unfold vchk at h
  split at h
  · omega
  · omega
theorem atom_sound {s : List UInt8} {ps : List AV} {n m : Nat} {t : List UInt8} (hs : s.length ≤ 10000) (hp : isPlain t = true) (ht : t.length ≤ 10000) (h : At s ps n (m + t.length)) (c : Nat) (hc : c ≤ 64) {room : Int} (hroom : 0 ≤ room) :
    Fine s ps m c room ((rdep_reader_atom ps (n : Int) [] 0 0 (c : Int) t (m : Int)).map atomR) ∨ Bad s ps ((rdep_reader_atom ps (n : Int) [] 0 0 (c : Int) t (m : Int)).map atomR) := by
  have hne := isPlain_ne hp
  have hpos : 0 < t.length := List.length_pos_iff.2 hne
  have hml := h.2.2
  have hw1 : IntKind.wrap .i64 ((c : Int) + 1) = ((c + 1 : Nat) : Int) := wr_succ (by omega)
  by_cases h64 : c = 64
  · right
    subst h64
    obtain ⟨n2, b, x, y, h1, h2⟩ := k5_kept hs h [] (m : Int) 4 65 t ht (m : Int) [] 0 [] t 0 [] (by decide)
    have hprog : rdep_reader_atom ps (n : Int) [] 0 0 ((64 : Nat) : Int) t (m : Int) = some (x, ((ps, (n2 : Int), [], (m : Int), 4), 65)) := by
      apply rdep_reader_atom_of
      unfold rdep_reader_atom_E
      rw [hw1]
      have : decide ((64 : Int) < ((64 + 1 : Nat) : Int)) = true := rfl
      rw [this, cond_true, fail_new _ _ _ _ (by decide)]
      simp only [Option.bind_some]
      have h2' : rdep_reader_atom_k5 ps (n : Int) [] (m : Int) 4 ((64 + 1 : Nat) : Int) t (m : Int) [] 0 [] t 0 [] = _ := h2
      rw [h2']
      rfl
    rw [hprog]
    exact ⟨_, n2, b, _, m, 4, rfl, by decide, by omega, h1⟩
  · have hd : decide ((64 : Int) < ((c + 1 : Nat) : Int)) = false := decide_eq_false (by omega)
    cases hn : nmOk t with
    | false =>
      right
      obtain ⟨n2, b, x, y, h1, h2⟩ := k7_kept hs h [] (m : Int) 10 ((c + 1 : Nat) : Int) t (m : Int) [] 0 [] t 0 [] (by decide)
      have hprog : rdep_reader_atom ps (n : Int) [] 0 0 (c : Int) t (m : Int) = some (x, ((ps, (n2 : Int), [], (m : Int), 10), ((c + 1 : Nat) : Int))) := by
        apply rdep_reader_atom_of
        unfold rdep_reader_atom_E
        rw [hw1, hd, cond_false]
        have h5 : rdep_reader_atom_k5 ps (n : Int) [] 0 0 ((c + 1 : Nat) : Int) t (m : Int) [] 0 [] t 0 [] = some ((ps, (n2 : Int), [], (m : Int), 10), ((c + 1 : Nat) : Int), (t, (m : Int)), x, y) := by
          apply rdep_reader_atom_k5_of
          unfold rdep_reader_atom_k5_E
          rw [vname_is t (by omega), hn]
          simp only [Option.bind_some, Bool.not_false, cond_true]
          rw [fail_new _ _ _ _ (by decide)]
          simp only [Option.bind_some, h2]
        rw [h5]
        rfl
      rw [hprog]
      exact ⟨_, n2, b, _, m, 10, rfl, by decide, by omega, h1⟩
    | true =>
      obtain ⟨w, m1, n1, hl, ht1, g1, g2, g3, g4, _⟩ := step hs h
      have k5of : ∀ r, rdep_reader_atom_k7 ps (n : Int) [] 0 0 ((c + 1 : Nat) : Int) t (m : Int) [] 0 [] t 0 [] = some r → rdep_reader_atom ps (n : Int) [] 0 0 (c : Int) t (m : Int) = some ((r.2.2.2.1.1, r.2.2.2.1.2.1, r.2.2.2.1.2.2), ((r.1.1, r.1.2.1, r.1.2.2.1, r.1.2.2.2.1, r.1.2.2.2.2), r.2.1)) := by
        intro r hr
        apply rdep_reader_atom_of
        unfold rdep_reader_atom_E
        rw [hw1, hd, cond_false]
        have h5 : rdep_reader_atom_k5 ps (n : Int) [] 0 0 ((c + 1 : Nat) : Int) t (m : Int) [] 0 [] t 0 [] = some r := by
          apply rdep_reader_atom_k5_of
          unfold rdep_reader_atom_k5_E
          rw [vname_is t (by omega), hn]
          simp only [Option.bind_some, Bool.not_true, cond_false, hr]
        rw [h5]
        rfl
      by_cases hop : opOf w = 0
      · left
        have hk := k7_zero (s := s) hop hl [] 0 0 ((c + 1 : Nat) : Int) t (m : Int) [] 0 [] t 0 []
        rw [k5of _ hk]
        have hv : vatom t 0 [] = 0 := by
          unfold vatom
          rw [hn, if_neg (by simp), if_neg (by omega), if_pos rfl, if_pos rfl]
        exact ⟨.mk [] t 0 [] [], n, m + t.length, 1, rfl, h, by omega, by omega, good_atom hv (by simp) hroom (by omega)⟩
      · obtain ⟨v, m2, n2, _, ht2, k1, k2, k3, k4, _⟩ := step hs g4
        have hcv := vchk_is v (by omega)
        have hrange := opOf_range w
        cases hpv : isPlain v with
        | false =>
          right
          have hk := k7_some (s := s) (m1 := 0) hop hl ht1 ht2 hcv [] 0 0 ((c + 1 : Nat) : Int) t (m : Int) [] 0 [] t 0 [] (g1 := []) (g2 := (m2 : Int)) (g3 := 3) (by rw [hpv, if_neg Bool.false_ne_true]; exact fail_new _ _ _ _ (by decide))
          rw [k5of _ hk]
          exact ⟨_, n2, _, _, m2, 3, rfl, by decide, by omega, k4⟩
        | true =>
          by_cases he : vchk v = 0
          · left
            have hk := k7_some (s := s) (m1 := 0) hop hl ht1 ht2 hcv [] 0 0 ((c + 1 : Nat) : Int) t (m : Int) [] 0 [] t 0 [] (g1 := []) (g2 := 0) (g3 := 0) (by rw [hpv, he]; exact fail_none _ _ _ _ _ _)
            have hk2 := k5of _ hk
            rw [hpv] at hk2
            rw [hk2]
            have hv : vatom t (opOf w) v = 0 := by
              unfold vatom
              rw [hn, if_neg (by simp), if_neg (by omega), if_neg hop]
              exact he
            exact ⟨.mk [] t (opOf w) v [], n2, _, 1, rfl, k4, by omega, by omega, good_atom hv (by have := vchk_len he; omega) hroom (by omega)⟩
          · right
            have hk := k7_some (s := s) (m1 := 0) hop hl ht1 ht2 hcv [] 0 0 ((c + 1 : Nat) : Int) t (m : Int) [] 0 [] t 0 [] (g1 := []) (g2 := (m2 : Int)) (g3 := vchk v) (by rw [hpv]; exact fail_new _ _ _ _ he)
            rw [k5of _ hk]
            exact ⟨_, n2, _, _, m2, vchk v, rfl, he, by omega, k4⟩
end Go.Proofs.Ytomaefbhcpmbiaa
 end

 section
set_option linter.unusedVariables false
set_option linter.unusedSimpArgs false
namespace Go.Proofs.Ytomaefbhcpmbiaa
open Go Go.Eng Go.Proofs

def rE (d : R5) : AV := AV.agg [AV.str d.1, AV.str d.2.1, AV.int .i64 d.2.2.1, AV.str d.2.2.2.1, AV.sl false 5 d.2.2.2.2]
theorem rE_r : ∀ T : Tree, rE T.r = T.av
  | .mk _ _ _ _ _ => rfl
theorem avL_snoc (K : List Tree) (T : Tree) : avL K ++ [rE T.r] = avL (K ++ [T]) := by
  rw [avL_append, rE_r]; rfl
theorem cond_same {α : Type} (b : Bool) (x : α) : cond b x x = x := by cases b <;> rfl
theorem getL_last {R : Type} (K : List AV) (x : AV) (C : AV → Option R) : getL (K ++ [x]) (K.length : Int) C = C x :=
  getL_of (t := []) (by rw [List.drop_left' rfl]) C
theorem rich_stop (deep : Int) (ps : List AV) (n : Int) (f1 : List UInt8) (f2 f3 c : Int) (d1 d2 : List UInt8) (d3 : Int) (d4 : List UInt8) (K : List AV) (h : f3 ≠ 0) :
    rdep_reader_rich_l0 deep ps n f1 f2 f3 c d1 d2 d3 d4 K = some (Sum.inl ((ps, n, f1, f2, f3), c, (d1, d2, d3, d4, K))) := by
  apply rdep_reader_rich_l0_of
  unfold rdep_reader_rich_l0_E
  have : (f3 == 0) = false := by rw [beq_eq_false_iff_ne]; exact h
  rw [this]
  rfl
/-- One round of the program. -/
theorem rich_round {deep : Int} {ps : List AV} {n n2 n3 : Int} {c c2 : Int} {d1 d2 : List UInt8} {d3 : Int} {d4 : List UInt8} {K : List AV} {d : R5} {g1 : List UInt8} {g2 g3 : Int} {t : List UInt8} {m : Int}
    (hK : K.length ≤ 10000)
    (hd : rdep_reader_dep ps n [] 0 0 c deep = some (d, ((ps, n2, g1, g2, g3), c2)))
    (ht : ∀ f1 f2 f3, rdep_reader_take ps n2 f1 f2 f3 = some ((t, m), (ps, n3, f1, f2, f3))) :
    rdep_reader_rich_l0_E deep ps n [] 0 0 c d1 d2 d3 d4 K =
      cond ((((K ++ [rE d]).length : Int) == 1) && isWord t) (rdep_reader_rich_l0 deep ps n3 g1 g2 g3 c2 t d2 d3 d4 (K ++ [rE d]))
      (cond (decide ((1 : Int) < ((K ++ [rE d]).length : Int)) && (t == [41])) (some (Sum.inr ((ps, n3, g1, g2, g3), c2, (d1, d2, d3, d4, K ++ [rE d]))))
      (cond ((decide ((1 : Int) < ((K ++ [rE d]).length : Int)) && ((d1 == [97, 110, 100]) || (d1 == [111, 114]))) && (t == d1)) (rdep_reader_rich_l0 deep ps n3 g1 g2 g3 c2 d1 d2 d3 d4 (K ++ [rE d]))
      (cond (((((K ++ [rE d]).length : Int) == 2) && ((d1 == [105, 102]) || (d1 == [117, 110, 108, 101, 115, 115]))) && (t == [101, 108, 115, 101])) (rdep_reader_rich_l0 deep ps n3 g1 g2 g3 c2 d1 d2 d3 d4 (K ++ [rE d]))
      ((rdep_reader_fail ps n3 g1 g2 g3 m 3).bind fun r86 => rdep_reader_rich_l0 deep r86.2.1 r86.2.2.1 r86.2.2.2.1 r86.2.2.2.2.1 r86.2.2.2.2.2 c2 d1 d2 d3 d4 (K ++ [rE d]))))) := by
  have e : AV.agg [AV.str d.1, AV.str d.2.1, AV.int .i64 d.2.2.1, AV.str d.2.2.2.1, AV.sl false 5 d.2.2.2.2] = rE d := rfl
  unfold rdep_reader_rich_l0_E
  have h0 : ((0 : Int) == 0) = true := rfl
  simp only [h0, cond_true, hd, Option.bind_some, e, if_true]
  rw [room_of (by omega) (by omega), getL_last]
  simp only [rE, dAgg, dCons, dStr, dInt, dSl, dNil, BEq.rfl, Bool.and_self, and_self, if_true, ht, words_is, contains_is, Option.bind_some, cond_some, cond_and, cond_or]

def isAO (o : List UInt8) : Prop := o = [97, 110, 100] ∨ o = [111, 114]
def isIU (o : List UInt8) : Prop := o = [105, 102] ∨ o = [117, 110, 108, 101, 115, 115]
/-- How far a dependency between brackets is. -/
def Way (op : List UInt8) (K : List Tree) : Prop := (K = [] ∧ op = []) ∨ (K.length = 1 ∧ isWord op = true) ∨ (2 ≤ K.length ∧ isAO op) ∨ (K.length = 2 ∧ isIU op)
theorem word_of_AO {o : List UInt8} (h : isAO o) : isWord o = true := by rcases h with rfl | rfl <;> rfl
theorem word_of_IU {o : List UInt8} (h : isIU o) : isWord o = true := by rcases h with rfl | rfl <;> rfl
/-- A right list of kids. -/
structure GoodL (K : List Tree) (room : Int) (at' bytes : Nat) : Prop where
  ok : chkL K = 0
  deep : dpL K 0 ≤ room
  cnt : natsL K = at'
  sm : SmL K
  nodes : nodesL K ≤ bytes
theorem GoodL.snoc {K : List Tree} {T : Tree} {room : Int} {c c2 b b2 : Nat} (h : GoodL K room c b) (hT : Good T (room - 1) c2 b2) : GoodL (K ++ [T]) room (c + c2) (b + b2) := by
  refine ⟨?_, ?_, ?_, ?_, ?_⟩
  · refine chkL_append _ _ h.ok ?_
    rw [chkL, if_pos hT.ok, chkL]
  · rw [dpL_append, dpL, dpL]
    have h1 := h.deep
    have h2 := hT.deep
    split <;> omega
  · rw [natsL_append, natsL, natsL, h.cnt, hT.cnt]; rfl
  · refine SmL_append _ _ h.sm ?_
    rw [SmL, SmL]
    exact ⟨hT.sm, trivial⟩
  · rw [nodesL_append, nodesL, nodesL]
    have h1 := h.nodes
    have h2 := hT.nodes
    omega
theorem goodL_nil {room : Int} (h : 0 ≤ room) : GoodL [] room 0 0 := ⟨rfl, by rw [dpL]; exact h, rfl, trivial, Nat.le_refl _⟩
theorem dpL_pos {k : Tree} {K : List Tree} : 1 ≤ dpL (k :: K) 0 := by
  rw [dpL]
  have := (dp_range k).1
  split
  · have := (dpL_range K (1 + dp k) (by omega)).1; omega
  · omega
 section
variable {s : List UInt8} {ps : List AV}
def LoopJ (s : List UInt8) (ps : List AV) (N : Nat) : Prop := ∀ (n a c deep : Nat) (op : List UInt8) (K : List Tree) (c0 b0 : Nat), s.length - a ≤ N → At s ps n a → deep < 32 → c ≤ 64 → K.length ≤ a → Way op K → GoodL K (32 - (deep : Int)) c0 b0 →
  (∃ (op2 : List UInt8) (K2 : List Tree) (n2 a2 c2 : Nat), rdep_reader_rich_l0 ((deep + 1 : Nat) : Int) ps (n : Int) [] 0 0 (c : Int) op [] 0 [] (avL K) = some (Sum.inr ((ps, (n2 : Int), [], 0, 0), ((c + c2 : Nat) : Int), (op2, [], 0, [], avL K2))) ∧
    At s ps n2 a2 ∧ a < a2 ∧ c + c2 ≤ 64 ∧ isWord op2 = true ∧ cnt op2 (K2.length : Int) = true ∧ K2 ≠ [] ∧ GoodL K2 (32 - (deep : Int)) (c0 + c2) (b0 + (a2 - a))) ∨
  (∃ (n2 b : Nat) (c1 : Int) (d1 : R5) (at' : Nat) (e : Int), (rdep_reader_rich_l0 ((deep + 1 : Nat) : Int) ps (n : Int) [] 0 0 (c : Int) op [] 0 [] (avL K) = some (Sum.inr ((ps, (n2 : Int), [], (at' : Int), e), c1, d1)) ∨ rdep_reader_rich_l0 ((deep + 1 : Nat) : Int) ps (n : Int) [] 0 0 (c : Int) op [] 0 [] (avL K) = some (Sum.inl ((ps, (n2 : Int), [], (at' : Int), e), c1, d1))) ∧
    e ≠ 0 ∧ at' ≤ s.length ∧ At s ps n2 b)
def DepJ (s : List UInt8) (ps : List AV) (N : Nat) : Prop := ∀ (n a c deep : Nat), s.length - a ≤ N → At s ps n a → deep ≤ 32 → c ≤ 64 →
  Fine s ps a c (32 - (deep : Int)) (rdep_reader_dep ps (n : Int) [] 0 0 (c : Int) (deep : Int)) ∨ Bad s ps (rdep_reader_dep ps (n : Int) [] 0 0 (c : Int) (deep : Int))
theorem word_ne {o : List UInt8} (h : isWord o = true) : o ≠ [] ∧ o.length ≤ 7 := by
  refine ⟨fun e => by subst e; exact absurd h (by decide), ?_⟩
  unfold isWord wordL idxL idxL idxL idxL idxL idxL idxL at h
  by_cases h1 : o = [97, 110, 100]
  · subst h1; decide
  by_cases h2 : o = [111, 114]
  · subst h2; decide
  by_cases h3 : o = [105, 102]
  · subst h3; decide
  by_cases h4 : o = [117, 110, 108, 101, 115, 115]
  · subst h4; decide
  by_cases h5 : o = [119, 105, 116, 104]
  · subst h5; decide
  by_cases h6 : o = [119, 105, 116, 104, 111, 117, 116]
  · subst h6; decide
  have f : ∀ x : List UInt8, o ≠ x → (o == x) = false := fun x h => by rw [beq_eq_false_iff_ne]; exact h
  rw [f _ h1, f _ h2, f _ h3, f _ h4, f _ h5, f _ h6] at h
  exact absurd h (by decide)
theorem dep_of (hs : s.length ≤ 10000) (N : Nat) (ih : ∀ M, M < N → LoopJ s ps M) : DepJ s ps N := by
  intro n a c deep hN hA hdeep hc
  obtain ⟨t, m, n1, _, ht, g1, g2, g3, g4, _⟩ := step hs hA
  cases hp : isPlain t with
  | true =>
    have hprog : ∀ r, rdep_reader_atom ps (n1 : Int) [] 0 0 (c : Int) t (m : Int) = some r → rdep_reader_dep ps (n : Int) [] 0 0 (c : Int) (deep : Int) = some (atomR r) := by
      intro r hr
      apply rdep_reader_dep_of
      unfold rdep_reader_dep_E
      simp only [ht, Option.bind_some, plain_is, hp, cond_true, hr]
      rfl
    rcases atom_sound hs hp (by omega) g4 c hc (room := 32 - (deep : Int)) (by omega) with ⟨T, n2, a2, c2, h1, h2, h3, h4, h5⟩ | ⟨d, n2, b, c1, at', e, h1, h2, h3, h4⟩
    · left
      obtain ⟨r, hr, hr2⟩ := Option.map_eq_some_iff.1 h1
      refine ⟨T, n2, a2, c2, (hprog r hr).trans (by rw [hr2]), h2, by omega, h4, ?_⟩
      exact ⟨h5.ok, h5.deep, h5.cnt, h5.sm, by have := h5.nodes; omega⟩
    · right
      obtain ⟨r, hr, hr2⟩ := Option.map_eq_some_iff.1 h1
      exact ⟨d, n2, b, c1, at', e, (hprog r hr).trans (by rw [hr2]), h2, h3, h4⟩
  | false =>
    by_cases h40 : t = [40]
    · subst h40
      have hm : m + 1 ≤ s.length := g2
      by_cases h32 : deep = 32
      · right
        subst h32
        refine ⟨([], [], 0, [], []), n1, _, (c : Int), m, 4, ?_, by decide, by omega, g4⟩
        apply rdep_reader_dep_of
        unfold rdep_reader_dep_E
        simp only [ht, Option.bind_some, plain_is, hp, cond_false]
        have e1 : (!(([40] : List UInt8) == [40])) = false := rfl
        have e3 : (((32 : Nat) : Int) == 32) = true := rfl
        rw [e1, e3, cond_false, cond_true, fail_new _ _ _ _ (by decide)]
        rfl
      · have hL := ih (s.length - (m + 1)) (by omega) n1 (m + 1) c deep [] [] 0 0 (Nat.le_refl _) g4 (by omega) hc (by simp) (.inl ⟨rfl, rfl⟩) (goodL_nil (by omega))
        have hwd : IntKind.wrap .i64 ((deep : Int) + 1) = ((deep + 1 : Nat) : Int) := wr_succ (by omega)
        have hd32 : ((deep : Int) == 32) = false := by rw [beq_eq_false_iff_ne]; omega
        have hprog : ∀ X, (rdep_reader_rich_l0 ((deep + 1 : Nat) : Int) ps (n1 : Int) [] 0 0 (c : Int) [] [] 0 [] [] = some (Sum.inr X) ∨ rdep_reader_rich_l0 ((deep + 1 : Nat) : Int) ps (n1 : Int) [] 0 0 (c : Int) [] [] 0 [] [] = some (Sum.inl X)) →
            rdep_reader_dep ps (n : Int) [] 0 0 (c : Int) (deep : Int) = some (X.2.2, (X.1, X.2.1)) := by
          intro X hX
          have hrich : rdep_reader_rich ps (n1 : Int) [] 0 0 (c : Int) [] [] 0 [] [] ((deep + 1 : Nat) : Int) = some ((), X) := by
            apply rdep_reader_rich_of
            unfold rdep_reader_rich_E
            rcases hX with hX | hX <;> rw [hX] <;> rfl
          apply rdep_reader_dep_of
          unfold rdep_reader_dep_E
          simp only [ht, Option.bind_some, plain_is, hp, cond_false]
          have e1 : (!(([40] : List UInt8) == [40])) = false := rfl
          rw [e1, hd32, cond_false, cond_false, hwd, hrich]
          rfl
        rcases hL with ⟨op2, K2, n2, a2, c2, h1, h2, h3, h4, h5, h6, h7, h8⟩ | ⟨n2, b, c1, d1, at', e, h1, h2, h3, h4⟩
        · left
          refine ⟨.mk op2 [] 0 [] K2, n2, a2, c2, hprog _ (.inl h1), h2, by omega, h4, ?_⟩
          obtain ⟨w1, w2⟩ := word_ne h5
          refine ⟨?_, ?_, ?_, ?_, ?_⟩
          · rw [chk, if_neg w1, if_neg (by rw [h5]; simp), if_neg (by simp), if_neg (by rw [h6]; simp)]
            exact h8.ok
          · rw [dp, if_neg w1]
            have := h8.deep
            split <;> omega
          · rw [nats, if_neg w1, h8.cnt]; omega
          · rw [Sm]; exact ⟨by omega, by simp, by simp, h8.sm⟩
          · rw [Go.Proofs.Ytomaefbhcpmbiaa.nodes]
            have := h8.nodes
            omega
        · right
          exact ⟨d1, n2, b, c1, at', e, hprog _ h1, h2, h3, h4⟩
    · right
      have ht3 : (t == [40]) = false := by rw [beq_eq_false_iff_ne]; exact h40
      refine ⟨([], [], 0, [], []), n1, _, (c : Int), m, 3, ?_, by decide, by omega, g4⟩
      apply rdep_reader_dep_of
      unfold rdep_reader_dep_E
      simp only [ht, Option.bind_some, plain_is, hp, cond_false, ht3, Bool.not_false, cond_true, fail_new _ _ _ _ (show (3 : Int) ≠ 0 by decide)]
 end
end Go.Proofs.Ytomaefbhcpmbiaa
 end

 section
set_option linter.unusedVariables false
set_option linter.unusedSimpArgs false
namespace Go.Proofs.Ytomaefbhcpmbiaa
open Go Go.Eng Go.Proofs
 section
variable {s : List UInt8} {ps : List AV}
theorem beq_ne {a b : List UInt8} (h : a ≠ b) : (a == b) = false := by rw [beq_eq_false_iff_ne]; exact h
theorem loop_of (hs : s.length ≤ 10000) (N : Nat) (hD : DepJ s ps N) (ih : ∀ M, M < N → LoopJ s ps M) : LoopJ s ps N := by
  intro n a c deep op K c0 b0 hN hA hdeep hc hK hW hG
  have hal := hA.2.2
  rcases hD n a c (deep + 1) hN hA (by omega) hc with ⟨T, n2, a2, c2, h1, h2, h3, h4, h5⟩ | ⟨d, n2, b, c1, at', e, h1, h2, h3, h4⟩
  · obtain ⟨t, m, n3, _, ht, g1, g2, g3, g4, _⟩ := step hs h2
    have hal2 := h2.2.2
    have hKl : (avL K).length ≤ 10000 := by rw [avL_length]; omega
    have hR := rich_round (d1 := op) (d2 := []) (d3 := 0) (d4 := []) (K := avL K) hKl h1 ht
    rw [avL_snoc, avL_length] at hR
    have h5' : Good T (32 - (deep : Int) - 1) c2 (a2 - a) := ⟨h5.ok, by have := h5.deep; omega, h5.cnt, h5.sm, h5.nodes⟩
    have hG2 := hG.snoc h5'
    have hlen : (K ++ [T]).length = K.length + 1 := by rw [List.length_append]; rfl
    have cont : ∀ (op' : List UInt8), Way op' (K ++ [T]) → rdep_reader_rich_l0_E ((deep + 1 : Nat) : Int) ps (n : Int) [] 0 0 (c : Int) op [] 0 [] (avL K) = rdep_reader_rich_l0 ((deep + 1 : Nat) : Int) ps (n3 : Int) [] 0 0 ((c + c2 : Nat) : Int) op' [] 0 [] (avL (K ++ [T])) → _ := fun op' hw e1 =>
      And.intro e1 (ih (s.length - (m + t.length)) (by omega) n3 (m + t.length) (c + c2) deep op' (K ++ [T]) (c0 + c2) (b0 + (a2 - a)) (Nat.le_refl _) g4 hdeep h4 (by omega) hw hG2)
    have fault : rdep_reader_rich_l0_E ((deep + 1 : Nat) : Int) ps (n : Int) [] 0 0 (c : Int) op [] 0 [] (avL K) = ((rdep_reader_fail ps (n3 : Int) [] 0 0 (m : Int) 3).bind fun r86 => rdep_reader_rich_l0 ((deep + 1 : Nat) : Int) r86.2.1 r86.2.2.1 r86.2.2.2.1 r86.2.2.2.2.1 r86.2.2.2.2.2 ((c + c2 : Nat) : Int) op [] 0 [] (avL (K ++ [T]))) →
        (∃ (n2 b : Nat) (c1 : Int) (d1 : R5) (at' : Nat) (e : Int), (rdep_reader_rich_l0 ((deep + 1 : Nat) : Int) ps (n : Int) [] 0 0 (c : Int) op [] 0 [] (avL K) = some (Sum.inr ((ps, (n2 : Int), [], (at' : Int), e), c1, d1)) ∨ rdep_reader_rich_l0 ((deep + 1 : Nat) : Int) ps (n : Int) [] 0 0 (c : Int) op [] 0 [] (avL K) = some (Sum.inl ((ps, (n2 : Int), [], (at' : Int), e), c1, d1))) ∧
    e ≠ 0 ∧ at' ≤ s.length ∧ At s ps n2 b) := by
      intro e1
      rw [fail_new _ _ _ _ (by decide)] at e1
      simp only [Option.bind_some] at e1
      rw [rich_stop _ _ _ _ _ _ _ _ _ _ _ _ (by decide)] at e1
      exact ⟨n3, _, _, _, m, 3, .inr (rdep_reader_rich_l0_of e1), by decide, by omega, g4⟩
    have take : ∀ (op' : List UInt8), (rdep_reader_rich_l0_E ((deep + 1 : Nat) : Int) ps (n : Int) [] 0 0 (c : Int) op [] 0 [] (avL K) = rdep_reader_rich_l0 ((deep + 1 : Nat) : Int) ps (n3 : Int) [] 0 0 ((c + c2 : Nat) : Int) op' [] 0 [] (avL (K ++ [T])) ∧ (
  (∃ (op2 : List UInt8) (K2 : List Tree) (n2 a2' c2' : Nat), rdep_reader_rich_l0 ((deep + 1 : Nat) : Int) ps (n3 : Int) [] 0 0 ((c + c2 : Nat) : Int) op' [] 0 [] (avL (K ++ [T])) = some (Sum.inr ((ps, (n2 : Int), [], 0, 0), ((c + c2 + c2' : Nat) : Int), (op2, [], 0, [], avL K2))) ∧
    At s ps n2 a2' ∧ m + t.length < a2' ∧ c + c2 + c2' ≤ 64 ∧ isWord op2 = true ∧ cnt op2 (K2.length : Int) = true ∧ K2 ≠ [] ∧ GoodL K2 (32 - (deep : Int)) (c0 + c2 + c2') (b0 + (a2 - a) + (a2' - (m + t.length)))) ∨
  (∃ (n2 b : Nat) (c1 : Int) (d1 : R5) (at' : Nat) (e : Int), (rdep_reader_rich_l0 ((deep + 1 : Nat) : Int) ps (n3 : Int) [] 0 0 ((c + c2 : Nat) : Int) op' [] 0 [] (avL (K ++ [T])) = some (Sum.inr ((ps, (n2 : Int), [], (at' : Int), e), c1, d1)) ∨ rdep_reader_rich_l0 ((deep + 1 : Nat) : Int) ps (n3 : Int) [] 0 0 ((c + c2 : Nat) : Int) op' [] 0 [] (avL (K ++ [T])) = some (Sum.inl ((ps, (n2 : Int), [], (at' : Int), e), c1, d1))) ∧
    e ≠ 0 ∧ at' ≤ s.length ∧ At s ps n2 b))) →
  (∃ (op2 : List UInt8) (K2 : List Tree) (n2 a2 c2 : Nat), rdep_reader_rich_l0 ((deep + 1 : Nat) : Int) ps (n : Int) [] 0 0 (c : Int) op [] 0 [] (avL K) = some (Sum.inr ((ps, (n2 : Int), [], 0, 0), ((c + c2 : Nat) : Int), (op2, [], 0, [], avL K2))) ∧
    At s ps n2 a2 ∧ a < a2 ∧ c + c2 ≤ 64 ∧ isWord op2 = true ∧ cnt op2 (K2.length : Int) = true ∧ K2 ≠ [] ∧ GoodL K2 (32 - (deep : Int)) (c0 + c2) (b0 + (a2 - a))) ∨
  (∃ (n2 b : Nat) (c1 : Int) (d1 : R5) (at' : Nat) (e : Int), (rdep_reader_rich_l0 ((deep + 1 : Nat) : Int) ps (n : Int) [] 0 0 (c : Int) op [] 0 [] (avL K) = some (Sum.inr ((ps, (n2 : Int), [], (at' : Int), e), c1, d1)) ∨ rdep_reader_rich_l0 ((deep + 1 : Nat) : Int) ps (n : Int) [] 0 0 (c : Int) op [] 0 [] (avL K) = some (Sum.inl ((ps, (n2 : Int), [], (at' : Int), e), c1, d1))) ∧
    e ≠ 0 ∧ at' ≤ s.length ∧ At s ps n2 b) := by
      rintro op' ⟨e1, ⟨op2, K2, n4, a4, c4, k1, k2, k3, k4, k5, k6, k7, k8⟩ | ⟨n4, b, c4, d4, at', e, k1, k2, k3, k4⟩⟩
      · left
        refine ⟨op2, K2, n4, a4, c2 + c4, ?_, k2, by omega, by omega, k5, k6, k7, ⟨k8.ok, k8.deep, by have := k8.cnt; omega, k8.sm, by have := k8.nodes; omega⟩⟩
        have := rdep_reader_rich_l0_of (e1.trans k1)
        rw [Nat.add_assoc] at this
        exact this
      · right
        refine ⟨n4, b, c4, d4, at', e, ?_, k2, k3, k4⟩
        rcases k1 with k1 | k1
        · exact .inl (rdep_reader_rich_l0_of (e1.trans k1))
        · exact .inr (rdep_reader_rich_l0_of (e1.trans k1))
    rw [hlen] at hR
    cases K with
    | nil =>
      have l1 : (((([] : List Tree).length + 1 : Nat) : Int) == 1) = true := rfl
      have l2 : decide ((1 : Int) < ((([] : List Tree).length + 1 : Nat) : Int)) = false := rfl
      have l3 : (((([] : List Tree).length + 1 : Nat) : Int) == 2) = false := rfl
      rw [l1, l2, l3] at hR
      simp only [Bool.true_and, Bool.false_and, cond_false] at hR
      cases hw : isWord t with
      | true =>
        rw [hw, cond_true] at hR
        exact take t (cont t (.inr (.inl ⟨rfl, hw⟩)) hR)
      | false =>
        rw [hw, cond_false] at hR
        exact .inr (fault hR)
    | cons k K =>
      have hl2 : ((k :: K).length + 1) = K.length + 2 := by simp
      rw [hl2] at hR
      have l1 : (((K.length + 2 : Nat) : Int) == 1) = false := by rw [beq_eq_false_iff_ne]; omega
      have l2 : decide ((1 : Int) < ((K.length + 2 : Nat) : Int)) = true := decide_eq_true (by omega)
      have l3 : (((K.length + 2 : Nat) : Int) == 2) = (K.length == 0) := by rw [Bool.eq_iff_iff, beq_iff_eq, beq_iff_eq]; omega
      rw [l1, l2, l3] at hR
      simp only [Bool.true_and, Bool.false_and, cond_false] at hR
      have hW2 : ((k :: K).length = 1 ∧ isWord op = true) ∨ (2 ≤ (k :: K).length ∧ isAO op) ∨ ((k :: K).length = 2 ∧ isIU op) := by
        rcases hW with ⟨h, _⟩ | h
        · cases h
        · exact h
      have hword : isWord op = true := by
        rcases hW2 with h | h | h
        · exact h.2
        · exact word_of_AO h.2
        · exact word_of_IU h.2
      by_cases h41 : t = [41]
      · left
        subst h41
        have e41 : (([41] : List UInt8) == [41]) = true := rfl
        rw [e41, cond_true] at hR
        refine ⟨op, (k :: K) ++ [T], n3, m + 1, c2, rdep_reader_rich_l0_of hR, g4, by omega, h4, hword, ?_, by simp, ⟨hG2.ok, hG2.deep, hG2.cnt, hG2.sm, by have := hG2.nodes; omega⟩⟩
        rw [hlen, hl2]
        unfold cnt
        by_cases hao : op = [97, 110, 100] ∨ op = [111, 114]
        · rw [if_pos hao]
          exact decide_eq_true (by omega)
        · rw [if_neg hao]
          have hlk : K.length = 0 ∨ (K.length = 1 ∧ isIU op) := by
            rcases hW2 with h | h | h
            · left; have := h.1; simp at this; rw [this]; rfl
            · exact absurd h.2 hao
            · right; exact ⟨by have := h.1; rw [List.length_cons] at this; omega, h.2⟩
          by_cases hiu : op = [105, 102] ∨ op = [117, 110, 108, 101, 115, 115]
          · rw [if_pos hiu]
            rcases hlk with h | h
            · rw [h]; rfl
            · rw [h.1]; rfl
          · rw [if_neg hiu]
            rcases hlk with h | h
            · rw [h]; rfl
            · exact absurd h.2 hiu
      · rw [beq_ne h41, cond_false] at hR
        have lenW : ((k :: K) ++ [T]).length = K.length + 2 := by rw [hlen, hl2]
        cases q3 : (((op == [97, 110, 100]) || (op == [111, 114])) && (t == op)) with
        | true =>
          rw [q3, cond_true] at hR
          simp only [Bool.and_eq_true, Bool.or_eq_true, beq_iff_eq] at q3
          exact take op (cont op (.inr (.inr (.inl ⟨by rw [lenW]; omega, q3.1⟩))) hR)
        | false =>
          rw [q3, cond_false] at hR
          cases q4 : (((K.length == 0) && ((op == [105, 102]) || (op == [117, 110, 108, 101, 115, 115]))) && (t == [101, 108, 115, 101])) with
          | true =>
            rw [q4, cond_true] at hR
            simp only [Bool.and_eq_true, Bool.or_eq_true, beq_iff_eq] at q4
            exact take op (cont op (.inr (.inr (.inr ⟨by rw [lenW]; omega, q4.1.2⟩))) hR)
          | false =>
            rw [q4, cond_false] at hR
            exact .inr (fault hR)
  · right
    obtain ⟨t, m, n3, _, ht, g1, g2, g3, g4, _⟩ := step hs h4
    have hKl : (avL K).length ≤ 10000 := by rw [avL_length]; omega
    have hR := rich_round (d1 := op) (d2 := []) (d3 := 0) (d4 := []) (K := avL K) hKl h1 ht
    have hstop := fun op' => rich_stop ((deep + 1 : Nat) : Int) ps (n3 : Int) [] (at' : Int) e c1 op' [] 0 [] (avL K ++ [rE d]) h2
    simp only [fail_kept _ _ _ _ _ _ _ h2, Option.bind_some, hstop] at hR
    cases q1 : ((((avL K ++ [rE d]).length : Int) == 1) && isWord t) with
    | true =>
      rw [q1, cond_true] at hR
      exact ⟨n3, _, _, _, at', e, .inr (rdep_reader_rich_l0_of hR), h2, h3, g4⟩
    | false =>
      rw [q1, cond_false] at hR
      cases q2 : (decide ((1 : Int) < ((avL K ++ [rE d]).length : Int)) && (t == [41])) with
      | true =>
        rw [q2, cond_true] at hR
        exact ⟨n3, _, _, _, at', e, .inl (rdep_reader_rich_l0_of hR), h2, h3, g4⟩
      | false =>
        rw [q2, cond_false] at hR
        simp only [cond_some, cond_same] at hR
        exact ⟨n3, _, _, _, at', e, .inr (rdep_reader_rich_l0_of hR), h2, h3, g4⟩
theorem both (hs : s.length ≤ 10000) : ∀ N, DepJ s ps N ∧ LoopJ s ps N := by
  intro N
  induction N using Nat.strongRecOn with
  | ind N ih =>
    have h := dep_of hs N fun M hM => (ih M hM).2
    exact ⟨h, loop_of hs N h fun M hM => (ih M hM).2⟩
 end
end Go.Proofs.Ytomaefbhcpmbiaa
 end

 section
set_option linter.unusedVariables false
set_option linter.unusedSimpArgs false
namespace Go.Proofs.Ytomaefbhcpmbiaa
open Go Go.Eng Go.Proofs

theorem parse_k7 (g1 g2 : List UInt8) (g3 : Int) (g4 : List UInt8) (g5 : List AV) (g6 : List UInt8) (g7 g8 : Int) (ps : List AV) (n : Int) (f1 : List UInt8) (f2 f3 c : Int) (d : R5) (t : List UInt8) (m : Int) :
    ∃ r, rdep_Parse_k7 g1 g2 g3 g4 g5 g6 g7 g8 ps n f1 f2 f3 c d.1 d.2.1 d.2.2.1 d.2.2.2.1 d.2.2.2.2 t m = some r ∧ r.1 = (if f3 ≠ 0 then ([], [], 0, [], []) else d) ∧ r.2.1 = (if f3 ≠ 0 then (f1, f2, f3) else ([], 0, 0)) := by
  by_cases h : f3 = 0
  · refine ⟨(d, ([], 0, 0), (ps, n, f1, f2, f3), c, d, (t, m)), ?_, ?_, ?_⟩
    · apply rdep_Parse_k7_of
      unfold rdep_Parse_k7_E
      have : (f3 != 0) = false := by rw [bne_eq_false_iff_eq]; exact h
      rw [this]
      rfl
    · rw [if_neg (by simpa using h)]
    · rw [if_neg (by simpa using h)]
  · refine ⟨(([], [], 0, [], []), (f1, f2, f3), (ps, n, f1, f2, f3), c, d, (t, m)), ?_, ?_, ?_⟩
    · apply rdep_Parse_k7_of
      unfold rdep_Parse_k7_E
      have : (f3 != 0) = true := by rw [bne_iff_ne]; exact h
      rw [this]
      rfl
    · rw [if_pos h]
    · rw [if_pos h]
/-- The reader's end: what the dependency, and the part behind it, make of a text. -/
theorem parse_ok {s : List UInt8} (hs : s.length ≤ 10000) {d : R5} {n2 : Nat} {c2 m : Int} (h1 : rdep_reader_dep ((T s 0).map tE) 0 [] 0 0 0 0 = some (d, (((T s 0).map tE, (n2 : Int), [], 0, 0), c2)))
    (hlk : ∀ f1 f2 f3, rdep_reader_look ((T s 0).map tE) (n2 : Int) f1 f2 f3 = some ([], m)) : rdep_Parse s = some (d, ([], 0, 0)) := by
  obtain ⟨r, k1, k2, k3⟩ := parse_k7 [] [] 0 [] [] [] 0 0 ((T s 0).map tE) (n2 : Int) [] 0 0 c2 d [] m
  apply rdep_Parse_of
  unfold rdep_Parse_E
  have e0 : (!(([] : List UInt8) == [])) = false := rfl
  simp only [parts_is s hs, Option.bind_some, h1, hlk, e0, cond_false, k1]
  rw [k2, k3]
  rfl
theorem parse_sound (s : List UInt8) (hs : s.length ≤ 10000) : (∃ (T : Tree) (c : Nat), rdep_Parse s = some (T.r, ([], 0, 0)) ∧ Good T 32 c s.length ∧ c ≤ 64) ∨
    (∃ (a : Nat) (e : Int), rdep_Parse s = some (([], [], 0, [], []), ([], (a : Int), e)) ∧ e ≠ 0 ∧ a ≤ s.length) := by
  have hA := At_zero s hs
  rcases (both hs s.length).1 0 0 0 0 (by omega) hA (by omega) (by omega) with ⟨T, n2, a2, c2, h1, h2, h3, h4, h5⟩ | ⟨d, n2, b, c1, at', e, h1, h2, h3, h4⟩
  · obtain ⟨t, m, n3, hlk, ht, g1, g2, g3, g4, _⟩ := step hs h2
    have hal := h2.2.2
    have h1' : rdep_reader_dep ((Go.Proofs.Ytomaefbhcpmbiaa.T s 0).map tE) 0 [] 0 0 0 0 = _ := h1
    cases htn : t == [] with
    | true =>
      left
      rw [beq_iff_eq] at htn
      subst htn
      exact ⟨T, c2, parse_ok hs h1' hlk, ⟨h5.ok, by have := h5.deep; omega, h5.cnt, h5.sm, by have := h5.nodes; omega⟩, by omega⟩
    | false =>
      right
      refine ⟨m, 3, ?_, by decide, by omega⟩
      obtain ⟨r, k1, k2, k3⟩ := parse_k7 [] [] 0 [] [] [] 0 0 ((Go.Proofs.Ytomaefbhcpmbiaa.T s 0).map tE) (n2 : Int) [] (m : Int) 3 ((0 + c2 : Nat) : Int) T.r t (m : Int)
      apply rdep_Parse_of
      unfold rdep_Parse_E
      simp only [parts_is s hs, Option.bind_some, h1', hlk, htn, Bool.not_false, cond_true, fail_new _ _ _ _ (show (3 : Int) ≠ 0 by decide), k1]
      rw [k2, k3]
      rfl
  · right
    obtain ⟨t, m, n3, hlk, ht, g1, g2, g3, g4, _⟩ := step hs h4
    have h1' : rdep_reader_dep ((Go.Proofs.Ytomaefbhcpmbiaa.T s 0).map tE) 0 [] 0 0 0 0 = _ := h1
    refine ⟨at', e, ?_, h2, h3⟩
    obtain ⟨r, k1, k2, k3⟩ := parse_k7 [] [] 0 [] [] [] 0 0 ((Go.Proofs.Ytomaefbhcpmbiaa.T s 0).map tE) (n2 : Int) [] (at' : Int) e c1 d t (m : Int)
    apply rdep_Parse_of
    unfold rdep_Parse_E
    rw [if_pos h2] at k2 k3
    cases htn : t == [] with
    | true =>
      simp only [parts_is s hs, Option.bind_some, h1', hlk, htn, Bool.not_true, cond_false, k1]
      rw [k2, k3]
    | false =>
      simp only [parts_is s hs, Option.bind_some, h1', hlk, htn, Bool.not_false, cond_true, fail_kept _ _ _ _ _ _ _ h2, k1]
      rw [k2, k3]
end Go.Proofs.Ytomaefbhcpmbiaa
 end
