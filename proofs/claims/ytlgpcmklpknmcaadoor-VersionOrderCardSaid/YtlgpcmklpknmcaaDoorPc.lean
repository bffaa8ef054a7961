/- Versions of Apk: a text's pieces; every text is parted.
   Every text is parted, whatever the format; the order. -/
import Derived.Test.YtlgpcmklpknmcaaDoorPb
 section
set_option linter.unusedVariables false
set_option linter.unusedSimpArgs false
namespace Go.Proofs.YtlgpcmklpknmcaaDoor
open Go Go.Eng Go.Proofs

theorem prefix_is (s p : List UInt8) : strings_HasPrefix s p = some (decide (p.length ≤ s.length) && (s.take p.length == p)) := by
  apply strings_HasPrefix_of
  unfold strings_HasPrefix_E
  have : i_stringslite_HasPrefix s p = some (decide (p.length ≤ s.length) && (s.take p.length == p)) := by
    apply i_stringslite_HasPrefix_of
    unfold i_stringslite_HasPrefix_E
    by_cases h : p.length ≤ s.length
    · rw [decide_eq_true h, decide_eq_true (by omega), cutS_to h]; rfl
    · rw [decide_eq_false h, decide_eq_false (by omega)]; rfl
  rw [this]; rfl
theorem index_tot (s : List (List UInt8)) (x : List UInt8) (hs : s.length ≤ 1000) : ∀ (l : List (List UInt8)) (i : Nat), s.drop i = l →
    ∃ w, slices_Index_string_string_l2 (s.map AV.str) x (s.length : Int) (i : Int) = some w
  | [], i, h => by
    refine ⟨Sum.inl (), slices_Index_string_string_l2_of ?_⟩
    unfold slices_Index_string_string_l2_E
    rw [out_dec h]
    rfl
  | y :: t, i, h => by
    obtain ⟨h1, h2, h3, h4⟩ := drop_cons h
    obtain ⟨w, hw⟩ := index_tot s x hs t (i + 1) h3
    have hd : (s.map AV.str).drop i = AV.str y :: t.map AV.str := by rw [← List.map_drop, h]; rfl
    refine ⟨if x == y then Sum.inr (i : Int) else w, slices_Index_string_string_l2_of ?_⟩
    unfold slices_Index_string_string_l2_E
    rw [in_dec h, getL_of hd, wr_succ (by omega), hw]
    simp only [dStr, cond_true]
    cases x == y <;> rfl
theorem sindex_tot (s : List (List UInt8)) (x : List UInt8) (hs : s.length ≤ 1000) : ∃ r, slices_Index_string_string (s.map AV.str) x = some r := by
  obtain ⟨w, hw⟩ := index_tot s x hs s 0 rfl
  have hw' : slices_Index_string_string_l2 (s.map AV.str) x (s.length : Int) 0 = some w := hw
  refine ⟨Sum.elim (fun _ => -1) (fun r => r) w, slices_Index_string_string_of ?_⟩
  unfold slices_Index_string_string_E
  rw [List.length_map, hw']
  cases w <;> rfl
def words : List (List UInt8) := [[97, 108, 112, 104, 97], [98, 101, 116, 97], [112, 114, 101], [114, 99], [99, 118, 115], [115, 118, 110], [103, 105, 116], [104, 103], [112]]
theorem words_map : words.map AV.str = [AV.str [97, 108, 112, 104, 97], AV.str [98, 101, 116, 97], AV.str [112, 114, 101], AV.str [114, 99], AV.str [99, 118, 115], AV.str [115, 118, 110], AV.str [103, 105, 116], AV.str [104, 103], AV.str [112]] := rfl
theorem word_tot (x : List UInt8) : ∃ r, slices_Index_string_string [AV.str [97, 108, 112, 104, 97], AV.str [98, 101, 116, 97], AV.str [112, 114, 101], AV.str [114, 99], AV.str [99, 118, 115], AV.str [115, 118, 110], AV.str [103, 105, 116], AV.str [104, 103], AV.str [112]] x = some r := by
  rw [← words_map]; exact sindex_tot words x (by decide)

theorem good_other {i : Nat} {p : Pc} (h : p.k ≠ 6) : GoodAt i p := fun e => absurd e h
theorem all_takeWhile (p : UInt8 → Bool) : ∀ l : List UInt8, (l.takeWhile p).all p = true
  | [] => rfl
  | a :: l => by
    rw [List.takeWhile_cons]
    split
    · rename_i h; rw [List.all_cons, h, all_takeWhile p l]; rfl
    · rfl
theorem beq_nil_false {α : Type} [BEq α] {l : List α} (h : (l == []) = false) : l ≠ [] := by
  rintro rfl; cases h
theorem split_len (p : UInt8 → Bool) (l : List UInt8) : (l.takeWhile p).length + (l.dropWhile p).length = l.length := by
  rw [← List.length_append, List.takeWhile_append_dropWhile]
/-- What a step of the reader leaves. -/
def Left (ps : List Pc) (s : List UInt8) (w : (List UInt8 × List AV) ⊕ (List AV × Bool)) : Prop :=
  w = Sum.inr ([], false) ∨ ∃ s' qs, w = Sum.inl (s', qs.map pcA) ∧ Good qs ∧ qs.length + s'.length ≤ ps.length + s.length
theorem Left.trans {ps qs : List Pc} {s t : List UInt8} {w} (h : Left qs t w) (hl : qs.length + t.length ≤ ps.length + s.length) : Left ps s w := by
  rcases h with h | ⟨s', rs, h1, h2, h3⟩
  · exact .inl h
  · exact .inr ⟨s', rs, h1, h2, by omega⟩
theorem numbers_loop : ∀ (n : Nat) (s : List UInt8) (ps : List Pc), s.length ≤ n → ps.length + s.length ≤ 5000 → Good ps → ∃ w, version_pieces_l2 s (ps.map pcA) = some w ∧ Left ps s w
  | n, s, ps, hn, hb, hg => by
    have hsl := split_len dg s
    cases hw : (s.takeWhile dg == []) with
    | true =>
      refine ⟨Sum.inr ([], false), version_pieces_l2_of ?_, .inl rfl⟩
      unfold version_pieces_l2_E
      rw [version_number_is _ (by omega)]
      simp only [Option.bind_some, hw, cond_true]
    | false =>
      have hne := beq_nil_false hw
      have hpos := pos_len hne
      have hP : pcA ⟨6, s.takeWhile dg, 0, decide (ps.length = 0)⟩ = AV.agg [AV.int .i64 6, AV.str (s.takeWhile dg), AV.int .i64 0, AV.bool (((ps.map pcA).length : Int) == 0)] := by
        unfold pcA
        rw [List.length_map]
        have : decide (ps.length = 0) = ((ps.length : Int) == 0) := by
          cases ps with
          | nil => rfl
          | cons p l => rfl
        rw [this]
      have hG : Good (ps ++ [⟨6, s.takeWhile dg, 0, decide (ps.length = 0)⟩]) := good_add hg fun _ => ⟨rfl, hne, all_takeWhile dg s⟩
      have hR : ∀ K : Option ((List UInt8 × List AV) ⊕ (List AV × Bool)), roomL ((ps.map pcA).length + ([AV.agg [AV.int .i64 6, AV.str (s.takeWhile dg), AV.int .i64 0, AV.bool (((ps.map pcA).length : Int) == 0)]]).length) 40 K = K := fun K => room_of (by simp; omega) (by omega) K
      have hbeg : version_begins (s.dropWhile dg) 46 = some ((s.dropWhile dg).head? == some 46) := begins_is _ 46
      have run : ∀ w, (cond (!((s.dropWhile dg).head? == some 46)) (some (Sum.inl (s.dropWhile dg, (ps ++ [(⟨6, s.takeWhile dg, 0, decide (ps.length = 0)⟩ : Pc)]).map pcA)))
          (cutS (s.dropWhile dg) 1 ((s.dropWhile dg).length : Int) fun s41 => version_pieces_l2 s41 ((ps ++ [(⟨6, s.takeWhile dg, 0, decide (ps.length = 0)⟩ : Pc)]).map pcA))) = some w → version_pieces_l2 s (ps.map pcA) = some w := by
        intro w h
        apply version_pieces_l2_of
        unfold version_pieces_l2_E
        rw [version_number_is _ (by omega)]
        simp only [Option.bind_some, hw, cond_false, hR, hbeg]
        rw [map_add, hP] at h
        exact h
      cases hd : s.dropWhile dg with
      | nil =>
        rw [hd] at run hsl
        exact ⟨_, run _ rfl, .inr ⟨[], _, rfl, hG, by simp at *; omega⟩⟩
      | cons c t =>
        rw [hd] at run hsl
        cases hc : (c == 46) with
        | false =>
          refine ⟨_, run _ ?_, .inr ⟨c :: t, _, rfl, hG, by simp at *; omega⟩⟩
          rw [List.head?_cons, some_beq, hc]; rfl
        | true =>
          cases n with
          | zero => omega
          | succ n =>
            simp only [List.length_cons] at hsl
            obtain ⟨w, h1, h2⟩ := numbers_loop n t (ps ++ [⟨6, s.takeWhile dg, 0, decide (ps.length = 0)⟩]) (by omega) (by simp; omega) hG
            refine ⟨w, run w ?_, h2.trans (by simp; omega)⟩
            rw [List.head?_cons, some_beq, hc, cutS_one]
            exact h1
theorem k20_is (ps : List Pc) (s : List UInt8) (r k : Int) (hk : k ≠ 6) (hb : ps.length + s.length ≤ 5000) (hg : Good ps) : ∃ s' qs, version_pieces_k20 (ps.map pcA) s r k = some (s', qs.map pcA) ∧ Good qs ∧ qs.length + s'.length ≤ ps.length + s.length + 1 ∧ s'.length ≤ s.length := by
  have hsl := split_len dg s
  have hG : Good (ps ++ [⟨k, [], r, false⟩]) := good_add hg (good_other hk)
  have hR : ∀ K : Option (List UInt8 × List AV), roomL ((ps.map pcA).length + ([AV.agg [AV.int .i64 k, AV.str [], AV.int .i64 r, AV.bool false]]).length) 40 K = K := fun K => room_of (by simp; omega) (by omega) K
  have hP : ps.map pcA ++ [AV.agg [AV.int .i64 k, AV.str [], AV.int .i64 r, AV.bool false]] = (ps ++ [(⟨k, [], r, false⟩ : Pc)]).map pcA := by rw [map_add]; rfl
  have hR2 : ∀ K : Option (List UInt8 × List AV), roomL (((ps ++ [(⟨k, [], r, false⟩ : Pc)]).map pcA).length + ([AV.agg [AV.int .i64 3, AV.str (s.takeWhile dg), AV.int .i64 0, AV.bool false]]).length) 40 K = K := fun K => room_of (by simp; omega) (by omega) K
  cases hw : (s.takeWhile dg == []) with
  | true =>
    refine ⟨s.dropWhile dg, ps ++ [⟨k, [], r, false⟩], version_pieces_k20_of ?_, hG, by simp; omega, by omega⟩
    unfold version_pieces_k20_E
    rw [hR, version_number_is _ (by omega)]
    simp only [Option.bind_some, hw, Bool.not_true, cond_false, hP]
  | false =>
    have hpos := pos_len (beq_nil_false hw)
    refine ⟨s.dropWhile dg, ps ++ [⟨k, [], r, false⟩] ++ [⟨3, s.takeWhile dg, 0, false⟩], version_pieces_k20_of ?_, good_add hG (good_other (show (3 : Int) ≠ 6 by decide)), by simp; omega, by omega⟩
    unfold version_pieces_k20_E
    rw [hR, version_number_is _ (by omega)]
    simp only [Option.bind_some, hw, Bool.not_false, cond_true, hP, hR2]
    rw [map_add (ps ++ [(⟨k, [], r, false⟩ : Pc)])]; rfl
theorem words_loop : ∀ (n : Nat) (s : List UInt8) (ps : List Pc), s.length ≤ n → ps.length + s.length ≤ 5000 → Good ps → ∃ w, version_pieces_l12 s (ps.map pcA) = some w ∧ Left ps s w
  | n, s, ps, hn, hb, hg => by
    have hbeg : version_begins s 95 = some (s.head? == some 95) := begins_is _ 95
    have stop : (s.head? == some 95) = false → ∃ w, version_pieces_l12 s (ps.map pcA) = some w ∧ Left ps s w := fun h => by
      refine ⟨_, version_pieces_l12_of ?_, .inr ⟨s, ps, rfl, hg, Nat.le_refl _⟩⟩
      unfold version_pieces_l12_E
      rw [hbeg, h]; rfl
    cases s with
    | nil => exact stop rfl
    | cons c t =>
      cases hc : (c == 95) with
      | false => exact stop (by rw [List.head?_cons, some_beq, hc])
      | true =>
        simp only [List.length_cons] at hn hb
        have hsl := split_len lt t
        obtain ⟨r, hr⟩ := word_tot (t.takeWhile lt)
        have hb2 : version_begins (c :: t) 95 = some true := by rw [hbeg, List.head?_cons, some_beq, hc]
        have run : ∀ w, (cond (decide (r < 0)) (some (Sum.inr ([], false))) (cond (decide (r < 4)) ((version_pieces_k20 (ps.map pcA) (t.dropWhile lt) r 0).bind fun r48 => version_pieces_l12 r48.1 r48.2) ((version_pieces_k20 (ps.map pcA) (t.dropWhile lt) r 4).bind fun r50 => version_pieces_l12 r50.1 r50.2))) = some w → version_pieces_l12 (c :: t) (ps.map pcA) = some w := by
          intro w h
          apply version_pieces_l12_of
          unfold version_pieces_l12_E
          rw [hb2]
          simp only [Option.bind_some, cond_true, cutS_one, version_word_is _ (show t.length ≤ 4611686018427387904 by omega), hr]
          exact h
        by_cases hneg : r < 0
        · exact ⟨_, run _ (by rw [decide_eq_true hneg]; rfl), .inl rfl⟩
        · rw [decide_eq_false hneg] at run
          cases n with
          | zero => omega
          | succ n =>
            by_cases h4 : r < 4
            · rw [decide_eq_true h4] at run
              obtain ⟨s', qs, g1, g2, g3, g4⟩ := k20_is ps (t.dropWhile lt) r 0 (by decide) (by omega) hg
              obtain ⟨w, h1, h2⟩ := words_loop n s' qs (by omega) (by omega) g2
              refine ⟨w, run w ?_, h2.trans (by simp; omega)⟩
              simp only [g1, cond_false, cond_true, Option.bind_some, h1]
            · rw [decide_eq_false h4] at run
              obtain ⟨s', qs, g1, g2, g3, g4⟩ := k20_is ps (t.dropWhile lt) r 4 (by decide) (by omega) hg
              obtain ⟨w, h1, h2⟩ := words_loop n s' qs (by omega) (by omega) g2
              refine ⟨w, run w ?_, h2.trans (by simp; omega)⟩
              simp only [g1, cond_false, Option.bind_some, h1]
/-- The pieces of a text, whatever it is. -/
def Parted (s : List UInt8) (ps : List Pc) (ok : Bool) : Prop := Good ps ∧ ps.length ≤ s.length + 1
theorem k12_is (s : List UInt8) (ps : List Pc) (hb : ps.length + s.length ≤ 5000) (hg : Good ps) : ∃ qs ok, version_pieces_k12 s (ps.map pcA) = some (qs.map pcA, ok) ∧ Good qs ∧ qs.length ≤ ps.length + s.length := by
  obtain ⟨w, h1, h2⟩ := words_loop s.length s ps (Nat.le_refl _) hb hg
  rcases h2 with h2 | ⟨s', qs, h2, h3, h4⟩
  · subst h2
    refine ⟨[], false, version_pieces_k12_of ?_, good_nil, by simp⟩
    unfold version_pieces_k12_E
    rw [h1]; rfl
  · subst h2
    have hp := prefix_is s' [45, 114]
    cases hpp : (decide (([45, 114] : List UInt8).length ≤ s'.length) && (s'.take ([45, 114] : List UInt8).length == [45, 114])) with
    | false =>
      rw [hpp] at hp
      refine ⟨qs, (s' == []), version_pieces_k12_of ?_, h3, by omega⟩
      unfold version_pieces_k12_E
      rw [h1]
      simp only [Option.bind_some, Sum.elim_inl, hp, cond_false]
    | true =>
      rw [hpp] at hp
      simp only [Bool.and_eq_true, decide_eq_true_eq, List.length_cons, List.length_nil] at hpp
      have hsl := split_len dg (s'.drop 2)
      have hdl : (s'.drop 2).length = s'.length - 2 := List.length_drop
      have hc : ∀ K : List UInt8 → Option (List AV × Bool), cutS s' 2 (s'.length : Int) K = K (s'.drop 2) := fun K => cutS_from (a := 2) (by omega) K
      cases hw : ((s'.drop 2).takeWhile dg == []) with
      | true =>
        refine ⟨[], false, version_pieces_k12_of ?_, good_nil, by simp⟩
        unfold version_pieces_k12_E
        rw [h1]
        simp only [Option.bind_some, Sum.elim_inl, hp, cond_true, hc, version_number_is _ (show (s'.drop 2).length ≤ 4611686018427387904 by omega), hw]
        rfl
      | false =>
        have hR : ∀ K : Option (List AV × Bool), roomL ((qs.map pcA).length + ([AV.agg [AV.int .i64 2, AV.str ((s'.drop 2).takeWhile dg), AV.int .i64 0, AV.bool false]]).length) 40 K = K := fun K => room_of (by simp; omega) (by omega) K
        refine ⟨qs ++ [⟨2, (s'.drop 2).takeWhile dg, 0, false⟩], ((s'.drop 2).dropWhile dg == []), version_pieces_k12_of ?_, good_add h3 (good_other (show (2 : Int) ≠ 6 by decide)), by simp; omega⟩
        unfold version_pieces_k12_E
        rw [h1]
        simp only [Option.bind_some, Sum.elim_inl, hp, cond_true, hc, version_number_is _ (show (s'.drop 2).length ≤ 4611686018427387904 by omega), hw, cond_false, hR]
        rw [map_add]; rfl
theorem pieces_is (s : List UInt8) (hb : s.length ≤ 4000) : ∃ qs ok, version_pieces s = some (qs.map pcA, ok) ∧ Good qs ∧ qs.length ≤ s.length + 1 := by
  obtain ⟨w, h1, h2⟩ := numbers_loop s.length s [] (Nat.le_refl _) (by simp; omega) good_nil
  have h1' : version_pieces_l2 s [] = some w := h1
  rcases h2 with h2 | ⟨s', qs, h2, h3, h4⟩
  · subst h2
    refine ⟨[], false, version_pieces_of ?_, good_nil, by simp⟩
    unfold version_pieces_E
    rw [h1']; rfl
  · subst h2
    simp only [List.length_nil, Nat.zero_add] at h4
    have plain : ∀ {b : Bool}, b = false → ((cond (!(s' == [])) (idxS s' 0 fun c10 => (some (decide ((97 : Int) ≤ (UInt8.toNat c10 : Int))))) (some false)).bind fun b11 => ((cond b11 (idxS s' 0 fun c12 => (some (decide ((UInt8.toNat c12 : Int) ≤ 122)))) (some false)))) = some b → ∃ qs ok, version_pieces s = some (qs.map pcA, ok) ∧ Good qs ∧ qs.length ≤ s.length + 1 := by
      intro b hb2 h
      subst hb2
      obtain ⟨rs, ok, g1, g2, g3⟩ := k12_is s' qs (by omega) h3
      refine ⟨rs, ok, version_pieces_of ?_, g2, by omega⟩
      unfold version_pieces_E
      rw [h1']
      simp only [Option.bind_some, Sum.elim_inl]
      cases hx : (cond (!(s' == [])) (idxS s' 0 fun c10 => (some (decide ((97 : Int) ≤ (UInt8.toNat c10 : Int))))) (some false)) with
      | none => rw [hx] at h; cases h
      | some b11 =>
        rw [hx] at h
        simp only [Option.bind_some] at h ⊢
        rw [h]
        simp only [Option.bind_some, cond_false, g1]
    cases s' with
    | nil => exact plain rfl rfl
    | cons c t =>
      simp only [idxS_zero] at plain
      cases hx : (decide ((97 : Int) ≤ (UInt8.toNat c : Int)) && decide ((UInt8.toNat c : Int) ≤ 122)) with
      | false =>
        refine plain (b := decide ((97 : Int) ≤ (UInt8.toNat c : Int)) && decide ((UInt8.toNat c : Int) ≤ 122)) hx ?_
        have : ((c :: t) == ([] : List UInt8)) = false := rfl
        rw [this]
        cases decide ((97 : Int) ≤ (UInt8.toNat c : Int)) <;> cases decide ((UInt8.toNat c : Int) ≤ 122) <;> rfl
      | true =>
        simp only [Bool.and_eq_true] at hx
        simp only [List.length_cons] at h4
        have hG : Good (qs ++ [⟨5, [c], 0, false⟩]) := good_add h3 (good_other (show (5 : Int) ≠ 6 by decide))
        obtain ⟨rs, ok, g1, g2, g3⟩ := k12_is t (qs ++ [⟨5, [c], 0, false⟩]) (by simp; omega) hG
        have hR : ∀ K : Option (List AV × Bool), roomL ((qs.map pcA).length + ([AV.agg [AV.int .i64 5, AV.str [c], AV.int .i64 0, AV.bool false]]).length) 40 K = K := fun K => room_of (by simp; omega) (by omega) K
        have hc : ∀ K : List UInt8 → Option (List AV × Bool), cutS (c :: t) 0 1 K = K [c] := fun K => cutS_to (s := c :: t) (b := 1) (by simp) K
        refine ⟨rs, ok, version_pieces_of ?_, g2, by simp at g3; omega⟩
        unfold version_pieces_E
        rw [h1']
        have e0 : ((c :: t) == ([] : List UInt8)) = false := rfl
        simp only [Option.bind_some, Sum.elim_inl, idxS_zero, e0, Bool.not_false, cond_true, hx.1, hx.2, hc, hR, cutS_one]
        rw [map_add] at g1
        have g1' : version_pieces_k12 t (qs.map pcA ++ [AV.agg [AV.int .i64 5, AV.str [c], AV.int .i64 0, AV.bool false]]) = some (rs.map pcA, ok) := g1
        rw [g1']; rfl
end Go.Proofs.YtlgpcmklpknmcaaDoor
 end

 section
set_option linter.unusedVariables false
set_option linter.unusedSimpArgs false
namespace Go.Proofs.YtlgpcmklpknmcaaDoor
open Go Go.Eng Go.Proofs

/-! ### The last place of "-r" -/
theorem hash_loop (s : List UInt8) (hs : s.length ≤ 1000000) : ∀ (k : Nat) (h : Int), k ≤ s.length → ∃ h', i_bytealg_hashStrRev_string_l3 s h ((k : Int) - 1) = some (s, h')
  | 0, h, hk => ⟨h, i_bytealg_hashStrRev_string_l3_of (by unfold i_bytealg_hashStrRev_string_l3_E; rfl)⟩
  | k + 1, h, hk => by
    have hg : s[k]? = some (s[k]'(by omega)) := List.getElem?_eq_getElem (by omega)
    obtain ⟨h', ih⟩ := hash_loop s hs k (IntKind.wrap .u32 ((IntKind.wrap .u32 (h * 16777619)) + (IntKind.wrap .u32 (UInt8.toNat (s[k]'(by omega)) : Int)))) (by omega)
    refine ⟨h', i_bytealg_hashStrRev_string_l3_of ?_⟩
    unfold i_bytealg_hashStrRev_string_l3_E
    have e : (((k + 1 : Nat) : Int) - 1) = (k : Int) := by omega
    rw [e, decide_eq_true (by omega : (0 : Int) ≤ (k : Int)), idxS_get hg, wr (by omega)]
    exact ih
theorem pow_two (h p q : Int) : ∃ r, i_bytealg_hashStrRev_string_l8 h p q 2 = some r := by
  have h0 : ∀ p q, i_bytealg_hashStrRev_string_l8 h p q 0 = some (h, p) := fun p q => i_bytealg_hashStrRev_string_l8_of (by unfold i_bytealg_hashStrRev_string_l8_E; rfl)
  have h1 : ∀ p q, ∃ r, i_bytealg_hashStrRev_string_l8 h p q 1 = some r := fun p q => by
    refine ⟨_, i_bytealg_hashStrRev_string_l8_of (w := (h, IntKind.wrap .u32 (p * q))) ?_⟩
    unfold i_bytealg_hashStrRev_string_l8_E
    have e1 : decide ((0 : Int) < 1) = true := rfl
    have e2 : ((bits .and .i64 1 1) != 0) = true := by decide
    have e3 : ∀ K : Int → Option (Int × Int), shrI .i64 1 1 K = K 0 := fun K => by unfold shrI; rfl
    rw [e1, e2, e3]
    simp only [cond_true, h0]
  obtain ⟨r, hr⟩ := h1 p (IntKind.wrap .u32 (q * q))
  refine ⟨r, i_bytealg_hashStrRev_string_l8_of ?_⟩
  unfold i_bytealg_hashStrRev_string_l8_E
  have e1 : decide ((0 : Int) < 2) = true := rfl
  have e2 : ((bits .and .i64 2 1) != 0) = false := by decide
  have e3 : ∀ K : Int → Option (Int × Int), shrI .i64 2 1 K = K 1 := fun K => by unfold shrI; rfl
  rw [e1, e2, e3]
  exact hr
theorem hash_tot : ∃ h p, i_bytealg_hashStrRev_string [45, 114] = some (h, p) := by
  obtain ⟨h', e⟩ := hash_loop [45, 114] (by simp) 2 0 (by simp)
  obtain ⟨r, hr⟩ := pow_two h' 1 16777619
  refine ⟨r.1, r.2, i_bytealg_hashStrRev_string_of ?_⟩
  unfold i_bytealg_hashStrRev_string_E
  have e' : i_bytealg_hashStrRev_string_l3 [45, 114] 0 (IntKind.wrap .i64 (((([45, 114] : List UInt8).length : Nat) : Int) - 1)) = some ([45, 114], h') := e
  rw [e']
  simp only [Option.bind_some]
  have hr' : i_bytealg_hashStrRev_string_l8 h' 1 16777619 ((([45, 114] : List UInt8).length : Nat) : Int) = some r := hr
  rw [hr']; rfl
theorem roll_loop (s x : List UInt8) (hh p n : Int) (last : Nat) (hs : s.length ≤ 1000000) : ∀ (d : Nat) (h : Int), last + d ≤ s.length → ∃ h', i_bytealg_LastIndexRabinKarp_string_l6 s x hh p n (last : Int) h (((last + d : Nat) : Int) - 1) = some (s, x, hh, p, n, (last : Int), h')
  | 0, h, hd => by
    refine ⟨h, i_bytealg_LastIndexRabinKarp_string_l6_of ?_⟩
    unfold i_bytealg_LastIndexRabinKarp_string_l6_E
    rw [decide_eq_false (by omega)]; rfl
  | d + 1, h, hd => by
    have hg : s[last + d]? = some (s[last + d]'(by omega)) := List.getElem?_eq_getElem (by omega)
    obtain ⟨h', ih⟩ := roll_loop s x hh p n last hs d (IntKind.wrap .u32 ((IntKind.wrap .u32 (h * 16777619)) + (IntKind.wrap .u32 (UInt8.toNat (s[last + d]'(by omega)) : Int)))) (by omega)
    refine ⟨h', i_bytealg_LastIndexRabinKarp_string_l6_of ?_⟩
    unfold i_bytealg_LastIndexRabinKarp_string_l6_E
    have e : (((last + (d + 1) : Nat) : Int) - 1) = ((last + d : Nat) : Int) := by omega
    rw [e, decide_eq_true (by omega), idxS_get hg, wr (by omega)]
    exact ih
theorem back_loop (s x : List UInt8) (hh p : Int) (hs : s.length ≤ 1000000) : ∀ (k : Nat) (h : Int), k + 2 ≤ s.length → ∃ w, i_bytealg_LastIndexRabinKarp_string_l12 s x hh p 2 h ((k : Int) - 1) = some w ∧ (w = Sum.inl () ∨ ∃ r : Nat, w = Sum.inr (r : Int) ∧ r + 2 ≤ s.length)
  | 0, h, hk => ⟨Sum.inl (), i_bytealg_LastIndexRabinKarp_string_l12_of (by unfold i_bytealg_LastIndexRabinKarp_string_l12_E; rfl), .inl rfl⟩
  | k + 1, h, hk => by
    have hg : s[k]? = some (s[k]'(by omega)) := List.getElem?_eq_getElem (by omega)
    have hg2 : s[k + 2]? = some (s[k + 2]'(by omega)) := List.getElem?_eq_getElem (by omega)
    obtain ⟨w, ih, hw⟩ := back_loop s x hh p hs k (IntKind.wrap .u32 ((IntKind.wrap .u32 ((IntKind.wrap .u32 (h * 16777619)) + (IntKind.wrap .u32 (UInt8.toNat (s[k]'(by omega)) : Int)))) - (IntKind.wrap .u32 (p * (IntKind.wrap .u32 (UInt8.toNat (s[k + 2]'(by omega)) : Int)))))) (by omega)
    have e : (((k + 1 : Nat) : Int) - 1) = (k : Int) := by omega
    have e2 : IntKind.wrap .i64 ((k : Int) + 2) = ((k + 2 : Nat) : Int) := by rw [wr (by omega)]; omega
    have hc : ∀ K : List UInt8 → Option Bool, cutS s (k : Int) ((k + 2 : Nat) : Int) K = K ((s.take (k + 2)).drop k) := fun K => cutS_of (by omega) (by omega) K
    have run : ∀ w', (∀ b : Bool, b = true ∨ b = false → (cond b (some (Sum.inr (k : Int))) (some w)) = some w' ∨ True) → True := fun _ _ => trivial
    have step : ∃ b : Bool, i_bytealg_LastIndexRabinKarp_string_l12 s x hh p 2 h (k : Int) = some (cond b (Sum.inr (k : Int)) w) := by
      cases hb : (cond ((IntKind.wrap .u32 ((IntKind.wrap .u32 ((IntKind.wrap .u32 (h * 16777619)) + (IntKind.wrap .u32 (UInt8.toNat (s[k]'(by omega)) : Int)))) - (IntKind.wrap .u32 (p * (IntKind.wrap .u32 (UInt8.toNat (s[k + 2]'(by omega)) : Int)))))) == hh) ((s.take (k + 2)).drop k == x) false) with
      | true =>
        refine ⟨true, i_bytealg_LastIndexRabinKarp_string_l12_of ?_⟩
        unfold i_bytealg_LastIndexRabinKarp_string_l12_E
        rw [decide_eq_true (by omega : (0 : Int) ≤ (k : Int)), idxS_get hg, e2, idxS_get hg2, hc]
        simp only [cond_some, hb, Option.bind_some, cond_true]
      | false =>
        refine ⟨false, i_bytealg_LastIndexRabinKarp_string_l12_of ?_⟩
        unfold i_bytealg_LastIndexRabinKarp_string_l12_E
        rw [decide_eq_true (by omega : (0 : Int) ≤ (k : Int)), idxS_get hg, e2, idxS_get hg2, hc]
        simp only [cond_some, hb, Option.bind_some, cond_true, cond_false]
        rw [wr (by omega)]
        exact ih
    obtain ⟨b, hb⟩ := step
    rw [e]
    cases b with
    | true => exact ⟨_, hb, .inr ⟨k, rfl, by omega⟩⟩
    | false => exact ⟨_, hb, hw⟩
theorem lastIndex_tot (s : List UInt8) (hs : s.length ≤ 1000000) : ∃ r : Int, strings_LastIndex s [45, 114] = some r ∧ (r < 0 ∨ ∃ k : Nat, r = (k : Int) ∧ k + 2 ≤ s.length) := by
  have e0 : (((([45, 114] : List UInt8).length : Nat) : Int) == 0) = false := rfl
  have e1 : (((([45, 114] : List UInt8).length : Nat) : Int) == 1) = false := rfl
  by_cases h2 : s.length = 2
  · have e2 : (((([45, 114] : List UInt8).length : Nat) : Int) == (s.length : Int)) = true := by rw [h2]; rfl
    cases h : (([45, 114] : List UInt8) == s) with
    | true =>
      refine ⟨0, strings_LastIndex_of ?_, .inr ⟨0, rfl, by omega⟩⟩
      unfold strings_LastIndex_E
      rw [e0, e1, e2, h]; rfl
    | false =>
      refine ⟨-1, strings_LastIndex_of ?_, .inl (by decide)⟩
      unfold strings_LastIndex_E
      rw [e0, e1, e2, h]; rfl
  · have e2 : (((([45, 114] : List UInt8).length : Nat) : Int) == (s.length : Int)) = false := by
      rw [beq_eq_false_iff_ne]; simp only [List.length_cons, List.length_nil]; omega
    by_cases hlt : s.length < 2
    · refine ⟨-1, strings_LastIndex_of ?_, .inl (by decide)⟩
      unfold strings_LastIndex_E
      rw [e0, e1, e2, decide_eq_true (by simp only [List.length_cons, List.length_nil]; omega)]; rfl
    · obtain ⟨m, hm⟩ : ∃ m, s.length = m + 2 := ⟨s.length - 2, by omega⟩
      have e3 : decide ((s.length : Int) < ((([45, 114] : List UInt8).length : Nat) : Int)) = false := decide_eq_false (by simp only [List.length_cons, List.length_nil]; omega)
      have key : ∃ r : Int, i_bytealg_LastIndexRabinKarp_string s [45, 114] = some r ∧ (r < 0 ∨ ∃ k : Nat, r = (k : Int) ∧ k + 2 ≤ s.length) := by
        obtain ⟨hh, p, hx⟩ := hash_tot
        obtain ⟨h', h6⟩ := roll_loop s [45, 114] hh p 2 m hs 2 0 (by omega)
        have w1 : IntKind.wrap .i64 ((s.length : Int) - ((([45, 114] : List UInt8).length : Nat) : Int)) = (m : Int) := by rw [wr (by simp only [List.length_cons, List.length_nil]; omega)]; simp only [List.length_cons, List.length_nil]; omega
        have w2 : IntKind.wrap .i64 ((s.length : Int) - 1) = (((m + 2 : Nat) : Int) - 1) := by rw [wr (by omega), hm]
        have w3 : IntKind.wrap .i64 ((m : Int) - 1) = (m : Int) - 1 := wr (by omega)
        obtain ⟨w, g1, g2⟩ := back_loop s [45, 114] hh p hs m h' (by omega)
        have h6' : i_bytealg_LastIndexRabinKarp_string_l6 s [45, 114] hh p ((([45, 114] : List UInt8).length : Nat) : Int) (m : Int) 0 (((m + 2 : Nat) : Int) - 1) = some (s, [45, 114], hh, p, 2, (m : Int), h') := h6
        cases hb : (cond (h' == hh) (s.drop m == [45, 114]) false) with
        | true =>
          refine ⟨(m : Int), i_bytealg_LastIndexRabinKarp_string_of ?_, .inr ⟨m, rfl, by omega⟩⟩
          unfold i_bytealg_LastIndexRabinKarp_string_E
          rw [hx]
          simp only [Option.bind_some, w1, w2, h6', cutS_from (show m ≤ s.length by omega), cond_some, hb, cond_true]
        | false =>
          have hw : ∃ r : Int, (Sum.elim (fun r28 => (some (-1))) (fun r29 => (some r29)) w : Option Int) = some r ∧ (r < 0 ∨ ∃ k : Nat, r = (k : Int) ∧ k + 2 ≤ s.length) := by
            rcases g2 with rfl | ⟨r, rfl, hr⟩
            · exact ⟨-1, rfl, .inl (by decide)⟩
            · exact ⟨(r : Int), rfl, .inr ⟨r, rfl, hr⟩⟩
          obtain ⟨r, q1, q2⟩ := hw
          refine ⟨r, i_bytealg_LastIndexRabinKarp_string_of ?_, q2⟩
          unfold i_bytealg_LastIndexRabinKarp_string_E
          rw [hx]
          simp only [Option.bind_some, w1, w2, h6', cutS_from (show m ≤ s.length by omega), cond_some, hb, cond_false, w3, g1]
          exact q1
      obtain ⟨r, k1, k2⟩ := key
      refine ⟨r, strings_LastIndex_of ?_, k2⟩
      unfold strings_LastIndex_E
      rw [e0, e1, e2, e3]
      simp only [cond_false, k1, Option.bind_some]

/-! ### Parts -/
theorem epochs_tot (s : List UInt8) (hs : s.length ≤ 1000000) : ∃ a p ok, version_epochs s = some (a, p, ok) ∧ a.length ≤ s.length ∧ p.length ≤ s.length := by
  rcases indexByte_cases 58 s with ⟨h1, h2⟩ | ⟨a, b, h1, h2, h3⟩
  · exact ⟨_, _, _, epochs_none h1, by simp, Nat.le_refl _⟩
  · have hl : s.length = a.length + 1 + b.length := by rw [h1]; simp; omega
    have he : version_epochs s = some (a, b, okE a) := by rw [h1] at h3 hs ⊢; exact epochs_some h3 (by omega)
    exact ⟨_, _, _, he, by omega, by omega⟩
theorem k17_tot (ok : Bool) (m a p r : List UInt8) (has : Bool) (hp : p.length ≤ 1000000) (hr : r.length ≤ 1000000) : ∃ b, version_part_k17 ok m a p r has = some (b, (a, p, r, has)) := by
  have h2 := vmade_is r [46, 43, 126] (by omega)
  have h1 := vmade_is p m (by omega)
  cases p with
  | nil =>
    refine ⟨false, version_part_k17_of ?_⟩
    unfold version_part_k17_E
    simp only [h1, Option.bind_some, cond_some, cond_and]
    have : (([] : List UInt8).all (mk m) && !(([] : List UInt8) == [])) = false := rfl
    rw [this]
    simp
  | cons c t =>
    refine ⟨ok && ((c :: t).all (mk m) && !((c :: t) == [])) && dig (UInt8.toNat c : Int) && (!has || (r.all (mk [46, 43, 126]) && !(r == []))), version_part_k17_of ?_⟩
    unfold version_part_k17_E
    simp only [h1, h2, idxS_zero, version_digit_is, Option.bind_some, cond_some, cond_and, cond_or]
theorem k11_tot (f : Int) (ok : Bool) (a p r : List UInt8) (has : Bool) (hp : p.length ≤ 1000000) (hr : r.length ≤ 1000000) : ∃ b, version_part_k11 f ok a p r has = some (b, (a, p, r, has)) := by
  by_cases hf : f = 2
  · subst hf; exact ⟨_, k11_is ok a p r has (by omega) (by omega)⟩
  · have : (f == 2) = false := by simpa using hf
    obtain ⟨b, hb⟩ := k17_tot ok (if has then [46, 43, 126, 45] else [46, 43, 126]) a p r has hp hr
    refine ⟨b, version_part_k11_of ?_⟩
    unfold version_part_k11_E
    rw [this]
    cases has with
    | true =>
      have hb : version_part_k17 ok [46, 43, 126, 45] a p r true = _ := hb
      simp only [cond_false, cond_true, hb, Option.bind_some]
    | false =>
      have hb : version_part_k17 ok [46, 43, 126] a p r false = _ := hb
      simp only [cond_false, hb, Option.bind_some]
/-- The parts of a text. -/
theorem part_tot (f : Int) (s : List UInt8) (hs : s.length ≤ 4000) : ∃ a p r has ok, version_part f s = some ((a, p, r, has), ok) ∧ p.length ≤ s.length ∧ r.length ≤ s.length := by
  by_cases hf : f = 3
  · subst hf
    obtain ⟨qs, ok, g1, g2, g3⟩ := pieces_is s hs
    obtain ⟨r, h1, h2⟩ := lastIndex_tot s (by omega)
    rcases h2 with h2 | ⟨k, rfl, hk⟩
    · refine ⟨[], s, [], false, ok, version_part_of ?_, Nat.le_refl _, by simp⟩
      unfold version_part_E
      have e : ((3 : Int) == 3) = true := rfl
      rw [e, g1]
      simp only [cond_true, Option.bind_some, h1, decide_eq_true h2]
    · refine ⟨[], s.take k, s.drop (k + 2), true, ok, version_part_of ?_, by rw [List.length_take]; omega, by rw [List.length_drop]; omega⟩
      unfold version_part_E
      have e : ((3 : Int) == 3) = true := rfl
      have e2 : IntKind.wrap .i64 ((k : Int) + 2) = ((k + 2 : Nat) : Int) := by rw [wr (by omega)]; omega
      rw [e, g1]
      simp only [cond_true, Option.bind_some, h1]
      rw [decide_eq_false (by omega), cutS_to (show k ≤ s.length by omega), e2, cutS_from (show k + 2 ≤ s.length by omega)]
      rfl
  · have e : (f == 3) = false := by simpa using hf
    obtain ⟨a, p, ok, h1, h2, h3⟩ := epochs_tot s (by omega)
    have hl := lastAt_le p 45 p.length
    have hg := lastAt_ge p 45 p.length
    have e45 : strings_LastIndexByte p 45 = some (lastAt p 45 p.length) := last_is p 45 (by omega)
    by_cases hk : 0 ≤ lastAt p 45 p.length
    · obtain ⟨k, hk2⟩ : ∃ k : Nat, lastAt p 45 p.length = (k : Int) := ⟨(lastAt p 45 p.length).toNat, by omega⟩
      rw [hk2] at hl
      obtain ⟨b, hb⟩ := k11_tot f ok a (p.take k) (p.drop (k + 1)) true (by rw [List.length_take]; omega) (by rw [List.length_drop]; omega)
      refine ⟨a, p.take k, p.drop (k + 1), true, b, version_part_of ?_, by rw [List.length_take]; omega, by rw [List.length_drop]; omega⟩
      unfold version_part_E
      rw [e, h1]
      simp only [cond_false, Option.bind_some, e45]
      rw [hk2, decide_eq_true (by omega), cutS_to (by omega), wr_succ (by omega), cutS_from (by omega), hb]
      rfl
    · obtain ⟨b, hb⟩ := k11_tot f ok a p [] false (by omega) (by simp)
      refine ⟨a, p, [], false, b, version_part_of ?_, h3, by simp⟩
      unfold version_part_E
      rw [e, h1]
      simp only [cond_false, Option.bind_some, e45]
      rw [decide_eq_false hk, hb]
      rfl
theorem check_tot (f : Int) (s : List UInt8) (hs : s.length ≤ 4000) : ∃ e, version_Check f s = some e ∧ (e = 0 → 1 ≤ f ∧ f ≤ 3) := by
  obtain ⟨a, p, r, has, ok, h1, h2, h3⟩ := part_tot f s hs
  by_cases hf1 : f < 1
  · refine ⟨9, version_Check_of ?_, by omega⟩
    unfold version_Check_E
    rw [decide_eq_true hf1]; rfl
  · by_cases hf3 : 3 < f
    · refine ⟨9, version_Check_of ?_, by omega⟩
      unfold version_Check_E
      rw [decide_eq_false hf1, decide_eq_true hf3]; rfl
    · by_cases hl : (64 : Int) < (s.length : Int)
      · refine ⟨4, version_Check_of ?_, by omega⟩
        unfold version_Check_E
        rw [decide_eq_false hf1, decide_eq_false hf3, decide_eq_true hl]; rfl
      · refine ⟨if ok then 0 else 3, version_Check_of ?_, fun _ => by omega⟩
        unfold version_Check_E
        rw [decide_eq_false hf1, decide_eq_false hf3, decide_eq_false hl, h1]
        cases ok <;> rfl
/-! ### The order -/
def endP : Pc := ⟨1, [], 0, false⟩
/-- Right texts stand in one order. -/
theorem compare_ord (f : Int) (L : List (List UInt8)) (hL : ∀ s ∈ L, s.length ≤ 4000 ∧ version_Check f s = some 0) :
    ∃ c : List UInt8 → List UInt8 → Int, Ordd c ∧ ∀ a ∈ L, ∀ b ∈ L, version_Compare f a b = some (c a b) := by
  classical
  by_cases hf : f = 3
  · subst hf
    have H : ∀ s : List UInt8, ∃ qs : List Pc, s ∈ L → ∃ ok, version_pieces s = some (qs.map pcA, ok) ∧ Good qs ∧ qs.length ≤ s.length + 1 := fun s => by
      by_cases hs : s ∈ L
      · obtain ⟨qs, ok, g⟩ := pieces_is s (hL s hs).1
        exact ⟨qs, fun _ => ⟨ok, g⟩⟩
      · exact ⟨[], fun h => absurd h hs⟩
    obtain ⟨F, hF⟩ : ∃ F : List UInt8 → List Pc, ∀ s ∈ L, ∃ ok, version_pieces s = some ((F s).map pcA, ok) ∧ Good (F s) ∧ (F s).length ≤ s.length + 1 := ⟨fun s => Classical.choose (H s), fun s hs => Classical.choose_spec (H s) hs⟩
    refine ⟨fun a b => lcmp kC ((F a ++ [endP]).map key) ((F b ++ [endP]).map key), (lcmp_ord kC_ord).comap fun s => (F s ++ [endP]).map key, fun a ha b hb => ?_⟩
    obtain ⟨ok1, p1, p2, p3⟩ := hF a ha
    obtain ⟨ok2, q1, q2, q3⟩ := hF b hb
    have la := (hL a ha).1
    have lb := (hL b hb).1
    have ga : Good (F a ++ [endP]) := good_add p2 (good_other (show (1 : Int) ≠ 6 by decide))
    have gb : Good (F b ++ [endP]) := good_add q2 (good_other (show (1 : Int) ≠ 6 by decide))
    have ea : (F a).map pcA ++ [AV.agg [AV.int .i64 1, AV.str [], AV.int .i64 0, AV.bool false]] = (F a ++ [endP]).map pcA := by rw [map_add]; rfl
    have eb : (F b).map pcA ++ [AV.agg [AV.int .i64 1, AV.str [], AV.int .i64 0, AV.bool false]] = (F b ++ [endP]).map pcA := by rw [map_add]; rfl
    have ra : ∀ K : Option Int, roomL (((F a).map pcA).length + ([AV.agg [AV.int .i64 1, AV.str [], AV.int .i64 0, AV.bool false]]).length) 40 K = K := fun K => room_of (by simp; omega) (by omega) K
    have rb : ∀ K : Option Int, roomL (((F b).map pcA).length + ([AV.agg [AV.int .i64 1, AV.str [], AV.int .i64 0, AV.bool false]]).length) 40 K = K := fun K => room_of (by simp; omega) (by omega) K
    apply version_Compare_of
    unfold version_Compare_E
    have e0 : ((0 : Int) != 0) = false := rfl
    have e3 : ((3 : Int) == 3) = true := rfl
    simp only [(hL a ha).2, (hL b hb).2, Option.bind_some, e0, e3, cond_false, cond_true, p1, q1, ra, rb, ea, eb]
    rw [cf_is _ _ (by simp; omega)]
    rw [lists_key ga gb]
    rfl
  · have H : ∀ s : List UInt8, ∃ x : List UInt8 × List UInt8 × List UInt8, s ∈ L → ∃ has ok, version_part f s = some ((x.1, x.2.1, x.2.2, has), ok) ∧ x.2.1.length ≤ s.length ∧ x.2.2.length ≤ s.length := fun s => by
      by_cases hs : s ∈ L
      · obtain ⟨a, p, r, has, ok, g⟩ := part_tot f s (hL s hs).1
        exact ⟨(a, p, r), fun _ => ⟨has, ok, g⟩⟩
      · exact ⟨([], [], []), fun h => absurd h hs⟩
    obtain ⟨F, hF⟩ : ∃ F : List UInt8 → List UInt8 × List UInt8 × List UInt8, ∀ s ∈ L, ∃ has ok, version_part f s = some (((F s).1, (F s).2.1, (F s).2.2, has), ok) ∧ (F s).2.1.length ≤ s.length ∧ (F s).2.2.length ≤ s.length := ⟨fun s => Classical.choose (H s), fun s hs => Classical.choose_spec (H s) hs⟩
    have e3 : (f == 3) = false := by simpa using hf
    have e0 : ((0 : Int) != 0) = false := rfl
    by_cases h2 : f = 2
    · have e2 : (f == 2) = true := by rw [h2]; rfl
      refine ⟨fun a b => thn (numC (F a).1 (F b).1) (thn (rK (F a).2.1 (F b).2.1) (rK (F a).2.2 (F b).2.2)), (numC_ord.comap fun s => (F s).1).thn ((rK_ord.comap fun s => (F s).2.1).thn (rK_ord.comap fun s => (F s).2.2)), fun a ha b hb => ?_⟩
      obtain ⟨_, _, p1, p2, p3⟩ := hF a ha
      obtain ⟨_, _, q1, q2, q3⟩ := hF b hb
      have la := (hL a ha).1
      have lb := (hL b hb).1
      apply version_Compare_of
      unfold version_Compare_E
      simp only [(hL a ha).2, (hL b hb).2, Option.bind_some, e0, e3, e2, cond_false, cond_true, p1, q1, numbers_is, rpm_is _ _ (show (F a).2.1.length + (F b).2.1.length ≤ 1000000 by omega), rpm_is _ _ (show (F a).2.2.length + (F b).2.2.length ≤ 1000000 by omega), or_three]
    · have e2 : (f == 2) = false := by simpa using h2
      refine ⟨fun a b => thn (numC (F a).1 (F b).1) (thn (dK (F a).2.1 (F b).2.1) (dK (F a).2.2 (F b).2.2)), (numC_ord.comap fun s => (F s).1).thn ((dK_ord.comap fun s => (F s).2.1).thn (dK_ord.comap fun s => (F s).2.2)), fun a ha b hb => ?_⟩
      obtain ⟨_, _, p1, p2, p3⟩ := hF a ha
      obtain ⟨_, _, q1, q2, q3⟩ := hF b hb
      have la := (hL a ha).1
      have lb := (hL b hb).1
      apply version_Compare_of
      unfold version_Compare_E
      simp only [(hL a ha).2, (hL b hb).2, Option.bind_some, e0, e3, e2, cond_false, p1, q1, numbers_is, dpkg_is _ _ (show (F a).2.1.length + (F b).2.1.length ≤ 1000000 by omega), dpkg_is _ _ (show (F a).2.2.length + (F b).2.2.length ≤ 1000000 by omega), or_three]
/-- What the law asks. -/
theorem order_law (hw : drayagelaw12_awake = some true) (f : Int) (a b c : List UInt8) : drayagelaw12_VersionOrder f a b c = some true := by
  apply drayagelaw12_VersionOrder_of
  unfold drayagelaw12_VersionOrder_E
  rw [hw]
  simp only [Option.bind_some, Bool.not_true, cond_false, cond_some, cond_or]
  by_cases hl : (2000 : Int) < (a.length : Int) ∨ (2000 : Int) < (b.length : Int) ∨ (2000 : Int) < (c.length : Int)
  · have : ((decide ((2000 : Int) < (a.length : Int)) || decide ((2000 : Int) < (b.length : Int))) || decide ((2000 : Int) < (c.length : Int))) = true := by
      simp only [Bool.or_eq_true, decide_eq_true_eq]; omega
    rw [this]; rfl
  · have e1 : ((decide ((2000 : Int) < (a.length : Int)) || decide ((2000 : Int) < (b.length : Int))) || decide ((2000 : Int) < (c.length : Int))) = false := by
      simp only [Bool.or_eq_false_iff, decide_eq_false_iff_not]; omega
    obtain ⟨ea, a1, a2⟩ := check_tot f a (by omega)
    obtain ⟨eb, b1, b2⟩ := check_tot f b (by omega)
    obtain ⟨ec, c1, c2⟩ := check_tot f c (by omega)
    rw [e1]
    simp only [cond_false, a1, b1, c1, Option.bind_some, cond_some, cond_or]
    by_cases hz : ea = 0 ∧ eb = 0 ∧ ec = 0
    · obtain ⟨rfl, rfl, rfl⟩ := hz
      obtain ⟨cm, hord, hc⟩ := compare_ord f [a, b, c] (fun s hs => by
        simp only [List.mem_cons, List.not_mem_nil, or_false] at hs
        rcases hs with rfl | rfl | rfl
        · exact ⟨by omega, a1⟩
        · exact ⟨by omega, b1⟩
        · exact ⟨by omega, c1⟩)
      have m1 : a ∈ [a, b, c] := by simp
      have m2 : b ∈ [a, b, c] := by simp
      have m3 : c ∈ [a, b, c] := by simp
      rw [hc a m1 b m2, hc b m2 c m3, hc a m1 c m3, hc b m2 a m1, hc a m1 a m1]
      have t1 := hord.tr a b c
      have t2 := hord.tr c b a
      have v1 := hord.val a b
      have v2 := hord.val b c
      have v3 := hord.val a c
      have n1 := hord.anti a b
      have n2 := hord.anti b c
      have n3 := hord.anti a c
      have r1 := hord.refl a
      have e0 : ((0 : Int) != 0) = false := rfl
      simp only [e0, Bool.or_self, cond_false, Option.bind_some, cond_some, cond_or, cond_and]
      rw [r1, n1, wr (by omega)]
      generalize cm a b = x at *
      generalize cm b c = y at *
      generalize cm a c = z at *
      rcases v1 with rfl | rfl | rfl <;> rcases v2 with rfl | rfl | rfl <;> rcases v3 with rfl | rfl | rfl <;> first | rfl | (exfalso; omega)
    · have : (((ea != 0) || (eb != 0)) || (ec != 0)) = true := by
        simp only [Bool.or_eq_true, bne_iff_ne]
        by_cases h1 : ea = 0
        · by_cases h2 : eb = 0
          · right; exact fun h3 => hz ⟨h1, h2, h3⟩
          · exact .inl (.inr h2)
        · exact .inl (.inl h1)
      cases h1 : (ea != 0) <;> cases h2 : (eb != 0) <;> cases h3 : (ec != 0) <;> first | rfl | (rw [h1, h2, h3] at this; cases this)
end Go.Proofs.YtlgpcmklpknmcaaDoor
 end
