/- A run in a small memory is a run in any larger one: the variables' numbers changed in order, the others left alone.
   The run over renamed variables. -/
import Derived.Test.YtlgpcmklpknmcaaDoorEh
 section
set_option linter.unusedVariables false
set_option linter.unusedSimpArgs false
set_option linter.unusedSectionVars false
namespace Go.Eng

 mutual
def AV.ren (ρ : Nat → Nat) : AV → AV
  | .ptr b o => .ptr (ρ b) o
  | .pel cs => .pel (renL ρ cs)
  | .fn f cs => .fn f (renL ρ cs)
  | .iface t d => .iface t (d.ren ρ)
  | .agg cs => .agg (renL ρ cs)
  | .tup ds => .tup (renL ρ ds)
  | .sl o z xs => .sl o z xs
  | .int q n => .int q n
  | .bool b => .bool b
  | .str s => .str s
  | .nilp => .nilp
  | .nilfn => .nilfn
  | .nili => .nili
  | .junk => .junk
  | .bld t e => .bld t e
def renL (ρ : Nat → Nat) : List AV → List AV
  | [] => []
  | d :: ds => d.ren ρ :: renL ρ ds
 end

 section
variable {ρ : Nat → Nat}
theorem renL_map : ∀ ds, renL ρ ds = ds.map (AV.ren ρ)
  | [] => rfl
  | d :: ds => by simp [renL, renL_map ds]
theorem renL_len (ds : List AV) : (renL ρ ds).length = ds.length := by simp [renL_map]
theorem renL_get (ds : List AV) (i : Nat) : (renL ρ ds)[i]? = (ds[i]?).map (AV.ren ρ) := by simp [renL_map]
theorem renL_append (a b : List AV) : renL ρ (a ++ b) = renL ρ a ++ renL ρ b := by simp [renL_map]
theorem renL_take (n : Nat) (a : List AV) : renL ρ (a.take n) = (renL ρ a).take n := by simp [renL_map, List.map_take]
theorem renL_drop (n : Nat) (a : List AV) : renL ρ (a.drop n) = (renL ρ a).drop n := by simp [renL_map, List.map_drop]
theorem renL_set (a : List AV) (i : Nat) (d : AV) : renL ρ (a.set i d) = (renL ρ a).set i (d.ren ρ) := by simp [renL_map, List.map_set]
theorem renL_getD (ds : List AV) (i : Nat) : (renL ρ ds).getD i .junk = (ds.getD i .junk).ren ρ := by
  rw [List.getD_eq_getElem?_getD, List.getD_eq_getElem?_getD, renL_get]
  cases ds[i]? <;> rfl

theorem ren_plain1 (d : AV) : (d.ren ρ).plain1 = d.plain1.ren ρ := by cases d <;> rfl
theorem ren_plain2 (d : AV) : (d.ren ρ).plain2 = d.plain2.ren ρ := by
  cases d <;> first | rfl | (simp only [AV.ren, AV.plain2, renL_map, List.map_map]; congr 1; apply List.map_congr_left; intro x _; exact ren_plain1 x)
theorem ren_plain (d : AV) : (d.ren ρ).plain = d.plain.ren ρ := by
  cases d <;> first | rfl | exact ren_plain2 (.agg _) | (simp only [AV.ren, AV.plain, renL_map, List.map_map]; congr 1; apply List.map_congr_left; intro x _; exact ren_plain2 x)
theorem ren_cells (d : AV) : (d.ren ρ).cells = renL ρ d.cells := by cases d <;> simp [AV.ren, AV.cells, renL]
theorem ren_isCell (d : AV) : (d.ren ρ).isCell = d.isCell := by cases d <;> rfl
theorem ren_isBld (d : AV) : (d.ren ρ).isBld = d.isBld := by cases d <;> rfl
theorem ren_allCell (cs : List AV) : (renL ρ cs).all AV.isCell = cs.all AV.isCell := by
  rw [renL_map, List.all_map]; congr 1; funext d; exact ren_isCell d
theorem ren_hasBld (cs : List AV) : hasBld (renL ρ cs) = hasBld cs := by
  unfold hasBld; rw [renL_map, List.any_map]; congr 1; funext d; exact ren_isBld d

 mutual
theorem ren_noPtr : ∀ d : AV, (d.ren ρ).noPtr = d.noPtr
  | .ptr b o => rfl
  | .pel cs => by simp only [AV.ren, AV.noPtr]; exact renL_noPtr cs
  | .fn f cs => by simp only [AV.ren, AV.noPtr]; exact renL_noPtr cs
  | .iface t d => by simp only [AV.ren, AV.noPtr]; exact ren_noPtr d
  | .agg cs => by simp only [AV.ren, AV.noPtr]; exact renL_noPtr cs
  | .tup ds => by simp only [AV.ren, AV.noPtr]; exact renL_noPtr ds
  | .sl o z xs => rfl
  | .int q n => rfl
  | .bool b => rfl
  | .str s => rfl
  | .nilp => rfl
  | .nilfn => rfl
  | .nili => rfl
  | .junk => rfl
  | .bld t e => rfl
theorem renL_noPtr : ∀ ds : List AV, noPtrL (renL ρ ds) = noPtrL ds
  | [] => rfl
  | d :: ds => by simp only [renL, noPtrL, ren_noPtr d, renL_noPtr ds]
 end
 mutual
theorem ren_id : ∀ {d : AV}, d.noPtr = true → d.ren ρ = d
  | .ptr b o, h => by cases h
  | .pel cs, h => by simp only [AV.ren]; rw [renL_id (by simpa [AV.noPtr] using h)]
  | .fn f cs, h => by simp only [AV.ren]; rw [renL_id (by simpa [AV.noPtr] using h)]
  | .iface t d, h => by simp only [AV.ren]; rw [ren_id (by simpa [AV.noPtr] using h)]
  | .agg cs, h => by simp only [AV.ren]; rw [renL_id (by simpa [AV.noPtr] using h)]
  | .tup ds, h => by simp only [AV.ren]; rw [renL_id (by simpa [AV.noPtr] using h)]
  | .sl o z xs, h => rfl
  | .int q n, h => rfl
  | .bool b, h => rfl
  | .str s, h => rfl
  | .nilp, h => rfl
  | .nilfn, h => rfl
  | .nili, h => rfl
  | .junk, h => rfl
  | .bld t e, h => rfl
theorem renL_id : ∀ {ds : List AV}, noPtrL ds = true → renL ρ ds = ds
  | [], h => rfl
  | d :: ds, h => by
    simp only [noPtrL, Bool.and_eq_true] at h
    simp only [renL, ren_id h.1, renL_id h.2]
 end

/-- The numbers go on in order. -/
structure RenOk (ρ : Nat → Nat) (n N : Nat) : Prop where
  mono : ∀ a b, a < b → ρ a < ρ b
  lo : ∀ a, a < n → ρ a < N
  hi : ∀ a, n ≤ a → ρ a = N + (a - n)

theorem RenOk.lt {n N : Nat} (R : RenOk ρ n N) {a b : Nat} : ρ a < ρ b ↔ a < b := by
  constructor
  · intro h
    rcases Nat.lt_trichotomy a b with h1 | h1 | h1
    · exact h1
    · subst h1; omega
    · have := R.mono b a h1; omega
  · exact R.mono a b
theorem RenOk.inj {n N : Nat} (R : RenOk ρ n N) {a b : Nat} (h : ρ a = ρ b) : a = b := by
  rcases Nat.lt_trichotomy a b with h1 | h1 | h1
  · have := R.mono a b h1; omega
  · exact h1
  · have := R.mono b a h1; omega

 mutual
theorem ren_scrub {n N : Nat} (R : RenOk ρ n N) (k K : Nat) (hk : ∀ b, ρ b < K ↔ b < k) : ∀ d : AV, (d.ren ρ).scrub K = (d.scrub k).ren ρ
  | .ptr b o => by
    simp only [AV.ren, AV.scrub]
    by_cases h : b < k
    · rw [if_pos h, if_pos ((hk b).2 h)]; rfl
    · rw [if_neg h, if_neg (fun h2 => h ((hk b).1 h2))]; rfl
  | .pel cs => by simp only [AV.ren, AV.scrub, renL_scrub R k K hk cs]
  | .fn f cs => by simp only [AV.ren, AV.scrub, renL_scrub R k K hk cs]
  | .iface t d => by simp only [AV.ren, AV.scrub, ren_scrub R k K hk d]
  | .agg cs => by simp only [AV.ren, AV.scrub, renL_scrub R k K hk cs]
  | .tup ds => by simp only [AV.ren, AV.scrub, renL_scrub R k K hk ds]
  | .sl o z xs => rfl
  | .int q n => rfl
  | .bool b => rfl
  | .str s => rfl
  | .nilp => rfl
  | .nilfn => rfl
  | .nili => rfl
  | .junk => rfl
  | .bld t e => rfl
theorem renL_scrub {n N : Nat} (R : RenOk ρ n N) (k K : Nat) (hk : ∀ b, ρ b < K ↔ b < k) : ∀ ds : List AV, scrubL K (renL ρ ds) = renL ρ (scrubL k ds)
  | [] => rfl
  | d :: ds => by simp only [renL, scrubL, ren_scrub R k K hk d, renL_scrub R k K hk ds]
 end
theorem RenOk.succ {n N : Nat} (R : RenOk ρ n N) (k b : Nat) : ρ b < ρ k + 1 ↔ b < k + 1 := by
  have h1 := @RenOk.lt ρ n N R k b
  omega

/-! ### Operations without memory -/
theorem binA_ren {op : BinOp} {x y d : AV} (h : binA op x y = some d) : binA op (x.ren ρ) (y.ren ρ) = some (d.ren ρ) := by
  have hd : d.ren ρ = d := by
    unfold binA at h
    split at h
    · unfold binX at h
      split at h
      · simp only [Option.ite_none_right_eq_some, Option.some.injEq] at h; obtain ⟨_, rfl⟩ := h; rfl
      · simp only [Option.ite_none_right_eq_some, Option.some.injEq] at h; obtain ⟨_, rfl⟩ := h; rfl
      · simp only [Option.ite_none_right_eq_some] at h
        obtain ⟨_, h⟩ := h
        unfold binI at h
        split at h <;> first | (cases h; rfl) | (cases h; done) | (split at h <;> first | (cases h; rfl) | (cases h; done))
    · unfold binS at h
      split at h <;> first | (cases h; rfl) | (cases h; done) | (split at h <;> first | (cases h; rfl) | (cases h; done))
    · cases h
  rw [hd]
  cases x <;> cases y <;> first | exact h | (simp only [binA, reduceCtorEq] at h)
theorem binBA_ren {op : BinOp} {x y d : AV} (h : binBA op x y = some d) : binBA op (x.ren ρ) (y.ren ρ) = some (d.ren ρ) := by
  have hd : d.ren ρ = d := by
    unfold binBA at h
    split at h
    · unfold binB at h
      split at h <;> cases h <;> rfl
    · cases h
  rw [hd]
  cases x <;> cases y <;> first | exact h | (simp only [binBA, reduceCtorEq] at h)
theorem mmI_ren {mx : Bool} {k : IntKind} : ∀ {l : List AV} {a : Int} {d : AV}, mmI mx k a l = some d → mmI mx k a (renL ρ l) = some (d.ren ρ)
  | [], a, d, h => by simp only [mmI, Option.some.injEq] at h; subst h; rfl
  | x :: l, a, d, h => by
    cases x <;> simp only [mmI, reduceCtorEq] at h
    simp only [renL, AV.ren, mmI]
    split at h
    · rename_i hk; rw [if_pos hk]; exact mmI_ren h
    · cases h
theorem minmaxI_ren {mx : Bool} {l : List AV} {d : AV} (h : minmaxI mx l = some d) : minmaxI mx (renL ρ l) = some (d.ren ρ) := by
  cases l with
  | nil => cases h
  | cons x l =>
    cases x <;> simp only [minmaxI, reduceCtorEq] at h
    simp only [renL, AV.ren, minmaxI]
    exact mmI_ren h
theorem bounds_ren {lo hi : Bool} {n : Nat} {l : List AV} {r : Nat × Nat} (h : bounds lo hi n l = some r) : bounds lo hi n (renL ρ l) = some r := by
  unfold bounds at h
  split at h
  · exact h
  · exact h
  · exact h
  · exact h
  · cases h
theorem cellsEqK_ren : ∀ {ks : List CK} {cs ds : List AV} {b : Bool}, cellsEqK ks cs ds = some b → cellsEqK ks (renL ρ cs) (renL ρ ds) = some b
  | [], cs, ds, b, h => by
    cases cs <;> cases ds <;> first | exact h | (simp [cellsEqK] at h)
  | k :: ks, cs, ds, b, h => by
    match cs, ds, h with
    | [], ds, h => cases k <;> simp [cellsEqK] at h
    | c :: cs, [], h => cases k <;> cases c <;> simp [cellsEqK] at h
    | c :: cs, e :: ds, h =>
      cases k <;> cases c <;> cases e <;> simp only [cellsEqK, reduceCtorEq] at h <;> simp only [renL, AV.ren, cellsEqK]
      · split at h
        · rename_i hk; rw [if_pos hk]
          split at h
          · rename_i c hc; rw [cellsEqK_ren hc]; exact h
          · cases h
        · cases h
      · split at h
        · rename_i c hc; rw [cellsEqK_ren hc]; exact h
        · cases h
      · split at h
        · rename_i c hc; rw [cellsEqK_ren hc]; exact h
        · cases h

theorem pureOp_ren {q : POp} {ds : List AV} {d : AV} (h : pureOp q ds = some d) : pureOp q (renL ρ ds) = some (d.ren ρ) := by
  unfold pureOp at h
  split at h
  · exact binA_ren h
  · exact binBA_ren h
  · cases h; rfl
  · cases h; rfl
  · cases h; rfl
  · cases h; rename_i c x y; cases c <;> rfl
  · cases h; rfl
  · cases h; rfl
  · rename_i off n ag cs
    simp only [Option.ite_none_right_eq_some] at h
    obtain ⟨hl, h⟩ := h
    simp only [renL, AV.ren, pureOp, renL_len, if_pos hl]
    cases ag
    · simp only [Bool.false_eq_true, if_false] at h ⊢
      rw [renL_get, h]; rfl
    · simp only [if_true, Option.some.injEq] at h ⊢
      subst h
      simp only [AV.ren, renL_take, renL_drop]
  · rename_i i es
    simp only [renL, AV.ren, pureOp]
    rw [renL_get, h]; rfl
  · rename_i s k i
    simp only [renL, AV.ren, pureOp]
    split at h
    · rename_i hc; rw [if_pos hc]
      split at h
      · rename_i b hb; cases h; rfl
      · cases h
    · cases h
  · rename_i len z ag cs k i
    simp only [renL, AV.ren, pureOp, renL_len]
    split at h
    · rename_i hc; rw [if_pos hc]
      cases ag
      · simp only [Bool.false_eq_true, if_false] at h ⊢
        rw [renL_get, h]; rfl
      · simp only [if_true, Option.some.injEq] at h ⊢
        subst h
        simp only [AV.ren, renL_take, renL_drop]
    · cases h
  · rename_i lo hi s rest
    simp only [renL, AV.ren, pureOp]
    split at h
    · rename_i a b hb; simp only [bounds_ren hb]; cases h; rfl
    · cases h
  · rename_i z lo hi q z' xs rest
    simp only [renL, AV.ren, pureOp]
    split at h
    · rename_i hc; rw [if_pos hc]
      split at h
      · rename_i a b hb; simp only [bounds_ren hb]; cases h; rfl
      · cases h
    · cases h
  · cases h; rfl
  · cases h; rfl
  · rename_i z q z' xs k i
    simp only [renL, AV.ren, pureOp]
    split at h
    · rename_i hc; rw [if_pos hc]
      split at h
      · rename_i x hx
        split at h
        · rename_i hn
          rw [if_pos hn]; cases h
          simp only [AV.ren]; rw [renL_id (noPtr_cells hn)]
        · cases h
      · cases h
    · cases h
  · cases h; rfl
  · rename_i off cs
    simp only [renL, AV.ren, pureOp, renL_len]
    split at h
    · rename_i hc; rw [if_pos hc]; cases h; simp only [AV.ren, renL_drop]
    · cases h
  · cases h; rfl
  · cases h; rfl
  · cases h; rfl
  · cases h; rfl
  · cases h; rfl
  · cases h; rfl
  · rename_i neg ks cs es
    simp only [renL, AV.ren, pureOp]
    split at h
    · rename_i b hb; simp only [cellsEqK_ren hb]; cases h; rfl
    · cases h
  · rename_i neg c x y
    have hd : d.ren ρ = d := by
      unfold eqIfA at h
      split at h <;> first | (cases h; rfl) | (simp only [Option.ite_none_right_eq_some, Option.some.injEq] at h; obtain ⟨_, rfl⟩ := h; rfl) | cases h
    rw [hd]
    simp only [renL, pureOp]
    cases x <;> cases y <;> first | exact h | (simp only [eqIfA, reduceCtorEq] at h)
  · rename_i neg x y
    have hd : d.ren ρ = d := by
      unfold nilPtrA at h
      split at h <;> first | (cases h; rfl) | cases h
    rw [hd]
    simp only [renL, pureOp]
    cases x <;> cases y <;> first | exact h | (simp only [nilPtrA, reduceCtorEq] at h)
  · simp only [pureOp]; exact minmaxI_ren h
  · simp only [pureOp]; exact minmaxI_ren h
  · cases h
 end
end Go.Eng
 end

 section
set_option linter.unusedVariables false
set_option linter.unusedSimpArgs false
set_option linter.unusedSectionVars false
namespace Go.Eng
 section
variable {ρ : Nat → Nat} {n N : Nat}

/-- The small memory lies in the large one. -/
structure Sim (ρ : Nat → Nat) (n N : Nat) (mem M : Mem) : Prop where
  len : M.length + n = mem.length + N
  le : n ≤ mem.length
  get : ∀ b, b < mem.length → M[ρ b]? = (mem[b]?).map (renL ρ)
/-- What isn't the small memory's is left alone. -/
def Off (ρ : Nat → Nat) (M M' : Mem) : Prop := ∀ b, (∀ c, b ≠ ρ c) → M'[b]? = M[b]?

theorem Off.refl (M : Mem) : Off ρ M M := fun _ _ => rfl
theorem Off.trans {M M1 M2 : Mem} (h : Off ρ M M1) (k : Off ρ M1 M2) : Off ρ M M2 := fun b hb => (k b hb).trans (h b hb)

theorem Sim.lt (R : RenOk ρ n N) {mem M : Mem} (S : Sim ρ n N mem M) {b : Nat} (hb : b < mem.length) : ρ b < M.length := by
  have := S.get b hb
  rw [List.getElem?_eq_getElem hb] at this
  exact lt_of_get this
theorem Sim.some {mem M : Mem} (S : Sim ρ n N mem M) {b : Nat} {cs : List AV} (h : mem[b]? = some cs) : M[ρ b]? = .some (renL ρ cs) := by
  rw [S.get b (lt_of_get h), h]; rfl
theorem Sim.last (R : RenOk ρ n N) {mem M : Mem} (S : Sim ρ n N mem M) : ρ mem.length = M.length := by
  rw [R.hi _ S.le]; have := S.len; have := S.le; omega

theorem Sim.set (R : RenOk ρ n N) {mem M : Mem} (S : Sim ρ n N mem M) {b : Nat} {cs : List AV} (h : mem[b]? = Option.some cs) (cs' : List AV) : Sim ρ n N (mem.set b cs') (M.set (ρ b) (renL ρ cs')) ∧ Off ρ M (M.set (ρ b) (renL ρ cs')) := by
  refine ⟨⟨by simpa using S.len, by simpa using S.le, fun c hc => ?_⟩, fun c hc => ?_⟩
  · rw [List.length_set] at hc
    by_cases hbc : b = c
    · subst hbc
      rw [List.getElem?_set_self hc, List.getElem?_set_self (S.lt R hc)]; rfl
    · rw [List.getElem?_set_ne hbc, List.getElem?_set_ne (fun e => hbc (R.inj e))]; exact S.get c hc
  · rw [List.getElem?_set_ne (fun e => hc b e.symm)]
theorem Sim.push (R : RenOk ρ n N) {mem M : Mem} (S : Sim ρ n N mem M) (cs : List AV) : Sim ρ n N (mem ++ [cs]) (M ++ [renL ρ cs]) ∧ Off ρ M (M ++ [renL ρ cs]) := by
  have hl := S.last R
  refine ⟨⟨by simp; have := S.len; omega, by simp; have := S.le; omega, fun c hc => ?_⟩, fun c hc => ?_⟩
  · simp at hc
    by_cases hcl : c = mem.length
    · subst hcl; rw [hl]; simp
    · have hlt : c < mem.length := by omega
      rw [List.getElem?_append_left (S.lt R hlt), List.getElem?_append_left hlt]; exact S.get c hlt
  · rcases Nat.lt_or_ge c M.length with h | h
    · rw [List.getElem?_append_left h]
    · have : c ≠ M.length := fun e => hc mem.length (by rw [hl]; exact e)
      rw [List.getElem?_append_right h, List.getElem?_eq_none (by simp; omega), List.getElem?_eq_none h]

/-- What a run tells in the small memory it tells in the large one. -/
def Like (ρ : Nat → Nat) (n N : Nat) (mem M : Mem) (mem' : Mem) (M' : Mem) : Prop := Sim ρ n N mem' M' ∧ Off ρ M M' ∧ mem.length ≤ mem'.length

theorem Like.refl {mem M : Mem} (S : Sim ρ n N mem M) : Like ρ n N mem M mem M := ⟨S, .refl _, Nat.le_refl _⟩
theorem Like.trans {mem M mem1 M1 mem2 M2 : Mem} (h : Like ρ n N mem M mem1 M1) (k : Like ρ n N mem1 M1 mem2 M2) : Like ρ n N mem M mem2 M2 :=
  ⟨k.1, h.2.1.trans k.2.1, Nat.le_trans h.2.2 k.2.2⟩
/-- Where the small memory is the same, the large one is. -/
theorem Like.same (R : RenOk ρ n N) {mem M M' : Mem} (S : Sim ρ n N mem M) (h : Like ρ n N mem M mem M') : M' = M := by
  obtain ⟨S', hO, _⟩ := h
  have hl : M'.length = M.length := by have := S.len; have := S'.len; omega
  apply List.ext_getElem?
  intro b
  by_cases hb : ∃ c, c < mem.length ∧ b = ρ c
  · obtain ⟨c, hc, rfl⟩ := hb
    rw [S.get c hc, S'.get c hc]
  · rcases Nat.lt_or_ge b M.length with hlt | hge
    · refine hO b fun c e => ?_
      subst e
      by_cases hc : c < mem.length
      · exact hb ⟨c, hc, rfl⟩
      · have : ρ mem.length ≤ ρ c := by
          rcases Nat.eq_or_lt_of_le (Nat.le_of_not_lt hc) with h | h
          · rw [h]; exact Nat.le_refl _
          · exact Nat.le_of_lt (R.mono _ _ h)
        rw [S.last R] at this; omega
    · rw [List.getElem?_eq_none hge, List.getElem?_eq_none (by omega)]

def Opd.free : Opd → Bool
  | .c d => d.noPtr
  | _ => true
def RInst.free (o : RInst) : Bool := o.xs.all Opd.free
def RCode.free : RCode → Bool
  | .skip => true
  | .stop => true
  | .region _ _ gs => (flatG gs).all RInst.free
  | .seq a b => a.free && b.free
  | .cond c x y => c.free && (x.free && y.free)
  | .block _ c => c.free
  | .loop _ _ c => c.free
  | .cut _ _ _ c => c.free
  | .frame c => c.free
  | .exit _ _ => true
  | .ret _ => true

/-- What an oracle tells of calls and loops doesn't hang on the variables' numbers. -/
structure OrRen (Φ : Oracle) : Prop where
  call : ∀ (ρ : Nat → Nat) (n N : Nat), RenOk ρ n N → ∀ f ds mem d mem' M, Φ.call f ds mem = some (d, mem') → Sim ρ n N mem M → ∃ M', Φ.call f (renL ρ ds) M = some (d.ren ρ, M') ∧ Like ρ n N mem M mem' M'
  loop : ∀ (ρ : Nat → Nat) (n N : Nat), RenOk ρ n N → ∀ l c e mem x e' mem' M, c.free = true → Φ.loop l c e mem = some (x, e', mem') → Sim ρ n N mem M → ∃ M', Φ.loop l c (renL ρ e) M = some (x, renL ρ e', M') ∧ Like ρ n N mem M mem' M'
def ExtRen (e : List AV → Mem → Option (AV × Mem)) : Prop :=
  ∀ (ρ : Nat → Nat) (n N : Nat), RenOk ρ n N → ∀ ds mem d mem' M, e ds mem = some (d, mem') → Sim ρ n N mem M → ∃ M', e (renL ρ ds) M = some (d.ren ρ, M') ∧ Like ρ n N mem M mem' M'

theorem loadAV_ren {cs : List AV} {o k : Nat} {ag : Bool} {d : AV} (h : loadAV cs o k ag = some d) : loadAV (renL ρ cs) o k ag = some (d.ren ρ) := by
  unfold loadAV at h ⊢
  rw [renL_len]
  split at h
  · rename_i hc; rw [if_pos hc]
    cases ag
    · simp only [Bool.false_eq_true, if_false] at h ⊢
      rw [renL_get, h]; rfl
    · simp only [if_true, Option.some.injEq] at h ⊢
      subst h; simp only [AV.ren, renL_take, renL_drop]
  · cases h
theorem splice_ren (cs ds : List AV) (o : Nat) : renL ρ (splice cs o ds) = splice (renL ρ cs) o (renL ρ ds) := by
  unfold splice; rw [renL_append, renL_append, renL_take, renL_drop, renL_len]
theorem fillA_ren : ∀ {ps : List (Nat × Nat)} {cs ds cs' : List AV}, fillA cs ps ds = some cs' → fillA (renL ρ cs) ps (renL ρ ds) = some (renL ρ cs')
  | [], cs, ds, cs', h => by
    cases ds with
    | nil => simp only [fillA, Option.some.injEq] at h; subst h; rfl
    | cons d ds => simp [fillA] at h
  | (off, k) :: ps, cs, [], cs', h => by simp [fillA] at h
  | (off, k) :: ps, cs, d :: ds, cs', h => by
    simp only [fillA, Option.ite_none_right_eq_some] at h
    obtain ⟨⟨h1, h2, h3⟩, h⟩ := h
    simp only [renL, fillA]
    rw [ren_cells, renL_len, renL_len, ren_allCell, if_pos ⟨h1, h2, h3⟩, ← splice_ren]
    exact fillA_ren h
theorem okElem_ren (z : Nat) (ag : Bool) (d : AV) : okElem z ag (d.ren ρ) = okElem z ag d := by
  unfold okElem
  rw [ren_noPtr, ren_isCell]
  cases d <;> simp only [AV.ren, renL_len, ren_allCell]
theorem all_okElem_ren (z : Nat) (ag : Bool) (ds : List AV) : (renL ρ ds).all (okElem z ag) = ds.all (okElem z ag) := by
  rw [renL_map, List.all_map]; congr 1; funext d; exact okElem_ren z ag d
theorem okElem_id {z : Nat} {ag : Bool} {d : AV} (h : okElem z ag d = true) : d.ren ρ = d := by
  unfold okElem at h
  rw [Bool.and_eq_true] at h
  exact ren_id h.1
theorem all_okElem_id {z : Nat} {ag : Bool} : ∀ {ds : List AV}, ds.all (okElem z ag) = true → renL ρ ds = ds
  | [], h => rfl
  | d :: ds, h => by
    simp only [List.all_cons, Bool.and_eq_true] at h
    simp only [renL, okElem_id h.1, all_okElem_id h.2]
theorem appendA_ren {z b : Nat} {st : Bool} {x y d : AV} (h : appendA z b st x y = some d) : appendA z b st (x.ren ρ) (y.ren ρ) = some (d.ren ρ) := by
  have hd : d.ren ρ = d := by
    unfold appendA at h
    split at h
    · simp only [Option.ite_none_right_eq_some, Option.some.injEq] at h; obtain ⟨_, rfl⟩ := h; rfl
    · simp only [Option.ite_none_right_eq_some, Option.some.injEq] at h; obtain ⟨_, rfl⟩ := h; rfl
    · cases h
  rw [hd]
  cases x <;> first | (cases y <;> first | exact h | (simp only [appendA, reduceCtorEq] at h)) | (simp only [appendA, reduceCtorEq] at h)
theorem appendZA_ren {z b : Nat} {ag : Bool} {ds : List AV} {d : AV} (h : appendZA z b ag ds = some d) : appendZA z b ag (renL ρ ds) = some (d.ren ρ) := by
  unfold appendZA at h
  split at h
  · simp only [Option.ite_none_right_eq_some, Option.some.injEq] at h
    obtain ⟨⟨h1, h2, h3, h4, h5, h6⟩, rfl⟩ := h
    simp only [renL, AV.ren]
    rw [okElem_id h5]
    simp only [appendZA]
    rw [if_pos ⟨h1, h2, h3, h4, h5, h6⟩]
  · cases h

theorem opA_ren (R : RenOk ρ n N) {Φ : Oracle} (hΦ : OrRen Φ) {k : OpK} {ds : List AV} {mem mem' M : Mem} {d : AV} (h : opA Φ k ds mem = some (d, mem')) (S : Sim ρ n N mem M) :
    ∃ M', opA Φ k (renL ρ ds) M = some (d.ren ρ, M') ∧ Like ρ n N mem M mem' M' := by
  cases k with
  | pure q =>
    simp only [opA] at h ⊢
    split at h
    · rename_i e he
      cases h
      rw [pureOp_ren he]
      exact ⟨M, by simp only [ren_plain], .refl S⟩
    · cases h
  | mov =>
    simp only [opA] at h
    split at h
    · cases h; exact ⟨M, rfl, .refl S⟩
    · cases h
  | ext i =>
    simp only [opA] at h
    split at h
    · rename_i es
      split at h
      · cases h
      · rename_i e hnt he
        cases h
        refine ⟨M, ?_, .refl S⟩
        simp only [renL, AV.ren, opA]
        rw [renL_get, he]
        cases d <;> first | rfl | exact absurd rfl (hnt _)
      · cases h
    · cases h
  | load m ag tk =>
    simp only [opA] at h
    split at h
    · rename_i b o
      split at h
      · rename_i cs hcs
        split at h
        · rename_i e he
          simp only [renL, AV.ren, opA]
          rw [S.some hcs]
          simp only [loadAV_ren he]
          cases tk with
          | false =>
            simp only [Bool.false_eq_true, if_false, Option.some.injEq, Prod.mk.injEq] at h ⊢
            obtain ⟨rfl, rfl⟩ := h
            exact ⟨M, ⟨ren_plain _, rfl⟩, .refl S⟩
          | true =>
            simp only [if_true] at h ⊢
            rw [ren_hasBld]
            split at h
            · cases h
            · rename_i hb
              rw [if_neg hb]
              cases e <;> simp only [reduceCtorEq] at h
              rename_i q z xs
              simp only [Option.some.injEq, Prod.mk.injEq] at h
              obtain ⟨rfl, rfl⟩ := h
              refine ⟨_, rfl, ?_⟩
              have := S.set R hcs (cs.set o (.sl false z xs))
              rw [renL_set] at this
              exact ⟨this.1, this.2, by simp⟩
        · cases h
      · cases h
    · rename_i cs
      split at h
      · rename_i e he
        cases h
        refine ⟨M, ?_, .refl S⟩
        simp only [renL, AV.ren, opA]
        simp only [loadAV_ren he, ren_plain]
      · cases h
    · cases h
  | store m =>
    simp only [opA] at h
    split at h
    · rename_i b o x
      split at h
      · rename_i cs hcs
        simp only [Option.ite_none_right_eq_some, Option.some.injEq, Prod.mk.injEq] at h
        obtain ⟨⟨h1, h2, h3, h4⟩, rfl, rfl⟩ := h
        simp only [renL, AV.ren, opA]
        rw [S.some hcs]
        simp only [ren_cells, renL_len, ren_allCell, ren_hasBld]
        rw [if_pos ⟨h1, h2, h3, h4⟩]
        refine ⟨_, rfl, ?_⟩
        rw [renL_scrub R (b + 1) (ρ b + 1) (R.succ b), ← splice_ren]
        have := S.set R hcs (splice cs o (scrubL (b + 1) x.cells))
        exact ⟨this.1, this.2, by simp⟩
      · cases h
    · cases h
  | new m =>
    simp only [opA] at h
    split at h
    · rename_i x
      simp only [Option.ite_none_right_eq_some, Option.some.injEq, Prod.mk.injEq] at h
      obtain ⟨⟨h1, h2⟩, rfl, rfl⟩ := h
      simp only [renL, opA]
      simp only [ren_cells, renL_len, ren_allCell]
      rw [if_pos ⟨h1, h2⟩]
      have hl := S.last R
      refine ⟨_, by simp only [AV.ren, hl]; rfl, ?_⟩
      rw [renL_scrub R (mem.length + 1) (M.length + 1) (by rw [← hl]; exact R.succ _)]
      have := S.push R (scrubL (mem.length + 1) x.cells)
      exact ⟨this.1, this.2, by simp⟩
    · cases h
  | newB t e =>
    simp only [opA] at h
    split at h
    · cases h
      have hl := S.last R
      refine ⟨_, by simp only [renL, AV.ren, opA, hl]; rfl, ?_⟩
      have := S.push R [.bld t e, .sl true 1 []]
      exact ⟨this.1, this.2, by simp⟩
    · cases h
  | build zero parts =>
    simp only [opA, Option.ite_none_right_eq_some] at h
    obtain ⟨hz, h⟩ := h
    split at h
    · rename_i cs hcs
      cases h
      refine ⟨M, ?_, .refl S⟩
      have := fillA_ren (ρ := ρ) hcs
      rw [renL_id hz] at this
      simp only [opA, if_pos hz, this]; rfl
    · cases h
  | bslice z ag len =>
    simp only [opA, Option.ite_none_right_eq_some, Option.some.injEq, Prod.mk.injEq] at h
    obtain ⟨⟨h1, h2, h3, h4⟩, rfl, rfl⟩ := h
    refine ⟨M, ?_, .refl S⟩
    simp only [opA]
    rw [all_okElem_id h4, if_pos ⟨h1, h2, h3, h4⟩]; rfl
  | append z b st =>
    simp only [opA] at h
    split at h
    · rename_i s x
      split at h
      · rename_i e he
        cases h
        refine ⟨M, ?_, .refl S⟩
        simp only [renL, opA]
        rw [appendA_ren he]
      · cases h
    · cases h
  | appendZ z b ag =>
    simp only [opA] at h
    split at h
    · rename_i e he
      cases h
      refine ⟨M, ?_, .refl S⟩
      simp only [opA]
      rw [appendZA_ren he]
    · cases h
  | cvBS =>
    simp only [opA] at h
    split at h
    · rename_i o z xs
      split at h
      · rename_i hc
        split at h
        · rename_i l hl
          cases h
          refine ⟨M, ?_, .refl S⟩
          simp only [renL, AV.ren, opA, if_pos hc, hl]
        · cases h
      · cases h
    · cases h
  | cvSB =>
    simp only [opA] at h
    split at h
    · rename_i s
      split at h
      · rename_i hc
        cases h
        refine ⟨M, ?_, .refl S⟩
        simp only [renL, AV.ren, opA, if_pos hc]
      · cases h
    · cases h
  | chk =>
    simp only [opA] at h
    split at h
    · cases h; exact ⟨M, rfl, .refl S⟩
    · cases h
  | bad => cases h
  | call f =>
    simp only [opA] at h ⊢
    exact hΦ.call ρ n N R f ds mem d mem' M h S
  | callv =>
    simp only [opA] at h
    split at h
    · rename_i f caps rest
      obtain ⟨M', h1, h2⟩ := hΦ.call ρ n N R f _ mem d mem' M h S
      refine ⟨M', ?_, h2⟩
      simp only [renL, AV.ren, opA]
      rw [← h1, renL_append]
      congr 2
      rw [renL_map, renL_map, List.map_map, List.map_map]
      apply List.map_congr_left; intro x _; exact ren_plain x
    · cases h

/-! ### Instructions and code -/
theorem ev_ren (x : Opd) (e : Env) (hx : ∀ d, x = .c d → d.noPtr = true) : x.ev (renL ρ e) = (x.ev e).ren ρ := by
  cases x with
  | t i tk =>
    cases tk
    · simp only [Opd.ev, renL_getD, ren_plain]
    · simp only [Opd.ev, renL_getD]
  | c d => simp only [Opd.ev]; rw [ren_id (hx d rfl)]
theorem clr_ren (x : Opd) (e : Env) : x.clr (renL ρ e) = renL ρ (x.clr e) := by
  cases x with
  | t i tk =>
    cases tk
    · rfl
    · simp only [Opd.clr, renL_getD, ren_plain, renL_set]
  | c d => rfl
theorem evs_ren : ∀ (xs : List Opd) (e : Env), xs.all Opd.free = true → evs (renL ρ e) xs = (renL ρ (evs e xs).1, renL ρ (evs e xs).2)
  | [], e, h => rfl
  | x :: xs, e, h => by
    simp only [List.all_cons, Bool.and_eq_true] at h
    have hx : ∀ d, x = .c d → d.noPtr = true := by rintro d rfl; exact h.1
    simp only [evs, clr_ren, ev_ren x e hx, evs_ren xs _ h.2, renL]
theorem putDst_ren (e : Env) (o : Option Nat) (d : AV) : putDst (renL ρ e) o (d.ren ρ) = renL ρ (putDst e o d) := by
  cases o with
  | none => rfl
  | some i => simp only [putDst, renL_set]
theorem gOk_ren (w : Bool) (d : AV) : gOk w (d.ren ρ) = gOk w d := by
  cases d <;> first | rfl | (rename_i cs; cases cs <;> rfl)

theorem stepGo_ren (R : RenOk ρ n N) {Φ : Oracle} (hΦ : OrRen Φ) {o : RInst} (ho : o.free = true) {e e' : Env} {mem mem' M : Mem} (h : stepGo Φ o e mem = some (e', mem')) (S : Sim ρ n N mem M) :
    ∃ M', stepGo Φ o (renL ρ e) M = some (renL ρ e', M') ∧ Like ρ n N mem M mem' M' := by
  unfold stepGo at h ⊢
  rw [evs_ren o.xs e ho]
  split at h
  · rename_i d m hd
    cases h
    obtain ⟨M', h1, h2⟩ := opA_ren R hΦ hd S
    exact ⟨M', by simp only [h1, putDst_ren], h2⟩
  · cases h
theorem stepInst_ren (R : RenOk ρ n N) {Φ : Oracle} (hΦ : OrRen Φ) {o : RInst} (ho : o.free = true) {e e' : Env} {mem mem' M : Mem} (h : stepInst Φ o e mem = some (e', mem')) (S : Sim ρ n N mem M) :
    ∃ M', stepInst Φ o (renL ρ e) M = some (renL ρ e', M') ∧ Like ρ n N mem M mem' M' := by
  unfold stepInst at h ⊢
  split at h
  · exact stepGo_ren R hΦ ho h S
  · simp only [renL_getD, gOk_ren]
    split at h
    · rename_i hq; exact stepGo_ren R hΦ ho h S
    · rename_i hq
      cases h
      refine ⟨M, ?_, .refl S⟩
      exact congrArg (fun x => some (x, M)) (putDst_ren e o.dst (.tup []))
    · cases h
theorem execOps_ren (R : RenOk ρ n N) {Φ : Oracle} (hΦ : OrRen Φ) : ∀ {os : List RInst} (ho : os.all RInst.free = true) {e e' : Env} {mem mem' M : Mem}, execOps Φ os e mem = some (e', mem') → Sim ρ n N mem M →
    ∃ M', execOps Φ os (renL ρ e) M = some (renL ρ e', M') ∧ Like ρ n N mem M mem' M'
  | [], ho, e, e', mem, mem', M, h, S => by
    simp only [execOps, Option.some.injEq, Prod.mk.injEq] at h
    obtain ⟨rfl, rfl⟩ := h
    exact ⟨M, rfl, .refl S⟩
  | o :: os, ho, e, e', mem, mem', M, h, S => by
    simp only [List.all_cons, Bool.and_eq_true] at ho
    unfold execOps at h ⊢
    split at h
    · rename_i e1 m1 hs
      obtain ⟨M1, h1, h2⟩ := stepInst_ren R hΦ ho.1 hs S
      obtain ⟨M2, h3, h4⟩ := execOps_ren R hΦ ho.2 h h2.1
      exact ⟨M2, by simp only [h1, h3], h2.trans h4⟩
    · cases h
theorem stable_ren {all : List RInst} (ha : all.all RInst.free = true) {l : List Nat} {e : Env} {mem mem' M M' : Mem} (S : Sim ρ n N mem M) (S' : Sim ρ n N mem' M') (h : stable all l e mem mem' = true) : stable all l (renL ρ e) M M' = true := by
  unfold stable at h ⊢
  rw [List.all_eq_true] at h ⊢
  intro i hi
  have := h i hi
  split at this
  · rename_i r hr
    rw [evs_ren r.xs e (List.all_eq_true.1 ha r (List.mem_of_getElem? hr))]
    split at this
    · rename_i b o hb
      rw [hb]
      simp only [renL, AV.ren]
      split at this
      · rename_i x y hx hy
        rw [S.some hx, S'.some hy]
        rw [eqbL_eq _ _ this]; exact eqbL_refl _
      · cases this
    · rename_i cs hb
      rw [hb]; rfl
    · cases this
  · cases this
theorem execDraw_ren (R : RenOk ρ n N) {Φ : Oracle} (hΦ : OrRen Φ) {wl : List Nat} {sx : List (Nat × List Nat)} {all : List RInst} (ha : all.all RInst.free = true) : ∀ {os : List RInst} (ho : os.all RInst.free = true) {k : Nat} {e e' : Env} {mem mem' M : Mem}, execDraw Φ wl sx all os k e mem = some (e', mem') → Sim ρ n N mem M →
    ∃ M', execDraw Φ wl sx all os k (renL ρ e) M = some (renL ρ e', M') ∧ Like ρ n N mem M mem' M'
  | [], ho, k, e, e', mem, mem', M, h, S => by
    simp only [execDraw, Option.some.injEq, Prod.mk.injEq] at h
    obtain ⟨rfl, rfl⟩ := h
    exact ⟨M, rfl, .refl S⟩
  | o :: os, ho, k, e, e', mem, mem', M, h, S => by
    simp only [List.all_cons, Bool.and_eq_true] at ho
    unfold execDraw at h ⊢
    split at h
    · rename_i e1 m1 hs
      obtain ⟨M1, h1, h2⟩ := stepInst_ren R hΦ ho.1 hs S
      split at h
      · rename_i hq
        obtain ⟨M2, h3, h4⟩ := execDraw_ren R hΦ ha ho.2 h h2.1
        refine ⟨M2, ?_, h2.trans h4⟩
        simp only [h1]
        rw [if_pos ?_]; exact h3
        rw [Bool.and_eq_true] at hq ⊢
        refine ⟨?_, ?_⟩
        · rw [Bool.or_eq_true] at hq ⊢
          rcases hq.1 with hq | hq
          · exact .inl hq
          · have := eqbM_eq _ _ hq
            subst this
            rw [h2.same R S]; exact .inr (eqbM_refl _)
        · have hq := hq.2
          unfold stabAt at hq ⊢
          split at hq
          · rfl
          · rename_i l hl
            simp only [Bool.or_eq_true] at hq ⊢
            rcases hq with hq | hq
            · have := eqbM_eq _ _ hq
              subst this
              rw [h2.same R S]; exact .inl (eqbM_refl _)
            · exact .inr (stable_ren ha S h2.1 hq)
      · cases h
    · cases h
theorem only_ren (l : List Nat) (e : Env) : only l (renL ρ e) = renL ρ (only l e) := by
  unfold only
  rw [renL_map, renL_map, List.map_map, List.zipIdx_map, List.map_map]
  apply List.map_congr_left
  rintro ⟨d, i⟩ _
  simp only [Function.comp, Prod.map, id]
  split <;> rfl

theorem Sim.take (R : RenOk ρ n N) {mem M mem' M' : Mem} (S : Sim ρ n N mem M) (L : Like ρ n N mem M mem' M') : Like ρ n N mem M (mem'.take mem.length) (M'.take M.length) := by
  obtain ⟨S', hO, hle⟩ := L
  have h1 := S.len; have h2 := S'.len; have h3 := S.le
  refine ⟨⟨by simp; omega, by simp; omega, fun c hc => ?_⟩, fun c hc => ?_, by simp; omega⟩
  · have hc' : c < mem.length := by simp at hc; omega
    rw [List.getElem?_take, List.getElem?_take, if_pos hc', if_pos (S.lt R hc')]
    exact S'.get c (by omega)
  · rw [List.getElem?_take]
    split
    · exact hO c hc
    · rw [List.getElem?_eq_none (by omega)]

theorem exec_ren (R : RenOk ρ n N) {Φ : Oracle} (hΦ : OrRen Φ) : ∀ (c : RCode), c.free = true → ∀ {e e' : Env} {x : RExit} {mem mem' M : Mem}, exec Φ c e mem = some (x, e', mem') → Sim ρ n N mem M →
    ∃ M', exec Φ c (renL ρ e) M = some (x, renL ρ e', M') ∧ Like ρ n N mem M mem' M' := by
  intro c
  induction c with
  | skip =>
    intro _ e e' x mem mem' M h S
    simp only [exec, Option.some.injEq, Prod.mk.injEq] at h
    obtain ⟨rfl, rfl, rfl⟩ := h
    exact ⟨M, rfl, .refl S⟩
  | stop => intro _ e e' x mem mem' M h S; cases h
  | region dr lv os =>
    intro hf e e' x mem mem' M h S
    cases dr with
    | none =>
      simp only [exec] at h ⊢
      split at h
      · rename_i e1 m1 hs
        cases h
        obtain ⟨M1, h1, h2⟩ := execOps_ren R hΦ hf hs S
        exact ⟨M1, by simp only [h1, only_ren], h2⟩
      · cases h
    | some p =>
      obtain ⟨wl, sx⟩ := p
      simp only [exec] at h ⊢
      split at h
      · rename_i e1 m1 hs
        cases h
        obtain ⟨M1, h1, h2⟩ := execDraw_ren R hΦ hf hf hs S
        exact ⟨M1, by simp only [h1, only_ren], h2⟩
      · cases h
  | seq a b iha ihb =>
    intro hf e e' x mem mem' M h S
    simp only [RCode.free, Bool.and_eq_true] at hf
    simp only [exec] at h ⊢
    split at h
    · rename_i e1 m1 hs
      obtain ⟨M1, h1, h2⟩ := iha hf.1 hs S
      obtain ⟨M2, h3, h4⟩ := ihb hf.2 h h2.1
      exact ⟨M2, by simp only [h1, h3], h2.trans h4⟩
    · rename_i r hne
      obtain ⟨M1, h1, h2⟩ := iha hf.1 h S
      refine ⟨M1, ?_, h2⟩
      rw [h1]
      cases x with
      | normal => exact absurd h (hne _ _)
      | exit id => rfl
      | ret => rfl
  | cond o a b iha ihb =>
    intro hf e e' x mem mem' M h S
    simp only [RCode.free, Bool.and_eq_true] at hf
    simp only [exec] at h ⊢
    have hev : o.ev (renL ρ e) = (o.ev e).ren ρ := ev_ren o e (by rintro d rfl; exact hf.1)
    rw [hev]
    split at h
    · rename_i hb; rw [hb]; exact iha hf.2.1 h S
    · rename_i hb; rw [hb]; exact ihb hf.2.2 h S
    · cases h
  | block id c ih =>
    intro hf e e' x mem mem' M h S
    simp only [exec] at h ⊢
    split at h
    · rename_i id' e1 m1 hs
      obtain ⟨M1, h1, h2⟩ := ih hf hs S
      refine ⟨M1, ?_, ?_⟩
      · rw [h1]
        simp only
        split at h
        · rename_i hid; cases h; rw [if_pos hid]
        · rename_i hid; cases h; rw [if_neg hid]
      · split at h <;> cases h <;> exact h2
    · rename_i hne
      obtain ⟨M1, h1, h2⟩ := ih hf h S
      refine ⟨M1, ?_, h2⟩
      rw [h1]
      cases x with
      | normal => rfl
      | exit id' => exact absurd h (hne _ _ _)
      | ret => rfl
  | loop id l c ih =>
    intro hf e e' x mem mem' M h S
    simp only [exec] at h ⊢
    rw [only_ren]
    exact hΦ.loop ρ n N R l c _ mem x e' mem' M hf h S
  | cut id l out c ih =>
    intro hf e e' x mem mem' M h S
    simp only [exec] at h ⊢
    rw [only_ren]
    split at h
    · rename_i e1 m1 hs
      obtain ⟨M1, h1, h2⟩ := ih hf hs S
      cases h
      exact ⟨M1, by rw [h1]; simp only [only_ren], h2⟩
    · rename_i r hne
      obtain ⟨M1, h1, h2⟩ := ih hf h S
      refine ⟨M1, ?_, h2⟩
      rw [h1]
      cases x with
      | normal => exact absurd h (hne _ _)
      | exit id => rfl
      | ret => rfl
  | frame c ih =>
    intro hf e e' x mem mem' M h S
    simp only [exec] at h ⊢
    split at h
    · rename_i x1 e1 m1 hs
      obtain ⟨M1, h1, h2⟩ := ih hf hs S
      cases h
      refine ⟨M1.take M.length, ?_, S.take R h2⟩
      rw [h1]
      simp only
      rw [renL_scrub R mem.length M.length (by intro b; rw [← S.last R]; exact R.lt)]
    · cases h
  | exit id l =>
    intro hf e e' x mem mem' M h S
    simp only [exec, Option.some.injEq, Prod.mk.injEq] at h ⊢
    obtain ⟨rfl, rfl, rfl⟩ := h
    exact ⟨M, ⟨rfl, only_ren l e, rfl⟩, .refl S⟩
  | ret l =>
    intro hf e e' x mem mem' M h S
    simp only [exec, Option.some.injEq, Prod.mk.injEq] at h ⊢
    obtain ⟨rfl, rfl, rfl⟩ := h
    exact ⟨M, ⟨rfl, only_ren l e, rfl⟩, .refl S⟩

theorem resAVs_ren {mem M : Mem} (S : Sim ρ n N mem M) : ∀ {rs : List RRes} {e : Env} {ds : List AV}, resAVs e mem rs = some ds → resAVs (renL ρ e) M rs = some (renL ρ ds)
  | [], e, ds, h => by
    simp only [resAVs, Option.some.injEq] at h; subst h; rfl
  | .tmp t tk :: rs, e, ds, h => by
    simp only [resAVs] at h ⊢
    split at h
    · rename_i es hes
      cases h
      rw [clr_ren, resAVs_ren S hes, ev_ren _ _ (by rintro d ⟨⟩)]; rfl
    · cases h
  | .cell t k ag :: rs, e, ds, h => by
    simp only [resAVs] at h ⊢
    rw [renL_getD, ren_plain]
    split at h
    · rename_i b o hb
      rw [hb]
      simp only [AV.ren]
      split at h
      · rename_i cs hcs
        rw [S.some hcs]
        simp only
        split at h
        · rename_i d es hd hes
          cases h
          simp only [loadAV_ren hd, resAVs_ren S hes, ren_plain, renL]
        · cases h
      · cases h
    · cases h
theorem pack_ren (ds : List AV) : pack (renL ρ ds) = (pack ds).ren ρ := by
  match ds with
  | [] => rfl
  | [d] => rfl
  | d :: e :: ds => rfl

theorem callBody_ren (R : RenOk ρ n N) {Φ : Oracle} (hΦ : OrRen Φ) {fn : RFunc} (hf : fn.body.free = true) {ds : List AV} {d : AV} {mem mem' M : Mem} (h : callBody Φ fn ds mem = some (d, mem')) (S : Sim ρ n N mem M) :
    ∃ M', callBody Φ fn (renL ρ ds) M = some (d.ren ρ, M') ∧ Like ρ n N mem M mem' M' := by
  unfold callBody at h ⊢
  rw [renL_len]
  split at h
  · rename_i hl
    rw [if_pos hl]
    split at h
    · rename_i ex e1 m1 hs
      obtain ⟨M1, h1, h2⟩ := exec_ren R hΦ fn.body hf hs S
      have he : renL ρ (ds ++ List.replicate (fn.ntmps - ds.length) .junk) = renL ρ ds ++ List.replicate (fn.ntmps - ds.length) .junk := by
        rw [renL_append]; congr 1; rw [renL_map, List.map_replicate]; rfl
      rw [he] at h1
      rw [h1]
      have hl1 := h2.1.len
      have hl0 := S.len
      have fin : ∀ ds1, resAVs e1 m1 fn.results = some ds1 → (if fn.keep || m1.length == mem.length then some (pack ds1, m1) else some ((pack ds1).scrub mem.length, m1.take mem.length)) = some (d, mem') →
          ∃ M', (match resAVs (renL ρ e1) M1 fn.results with
            | some ds => if fn.keep || M1.length == M.length then some (pack ds, M1) else some ((pack ds).scrub M.length, M1.take M.length)
            | none => none) = some (d.ren ρ, M') ∧ Like ρ n N mem M mem' M' := by
        intro ds1 hr hfin
        rw [resAVs_ren h2.1 hr]
        have heq : (M1.length == M.length) = (m1.length == mem.length) := by
          rw [Bool.eq_iff_iff, beq_iff_eq, beq_iff_eq]; omega
        simp only [heq, pack_ren]
        split at hfin
        · rename_i hk
          cases hfin
          rw [if_pos hk]
          exact ⟨M1, rfl, h2⟩
        · rename_i hk
          cases hfin
          rw [if_neg hk]
          refine ⟨_, ?_, S.take R h2⟩
          rw [ren_scrub R mem.length M.length (by intro b; rw [← S.last R]; exact R.lt)]
      cases ex with
      | normal =>
        simp only at h ⊢
        split at h
        · rename_i ds1 hr; exact fin ds1 hr h
        · cases h
      | ret =>
        simp only at h ⊢
        split at h
        · rename_i ds1 hr; exact fin ds1 hr h
        · cases h
      | exit id => cases h
    · cases h
  · cases h

structure ProgRen (Q : Prog) : Prop where
  ext : ∀ f e, Q.ext f = some e → ExtRen e
  fn : ∀ f fn, Q.fn f = some fn → fn.body.free = true

theorem runF_ren {Q : Prog} (hQ : ProgRen Q) : ∀ k, OrRen (runF Q k)
  | 0 => ⟨(fun ρ n N R f ds mem d mem' M h => by cases h), (fun ρ n N R l c e mem x e' mem' M _ h => by cases h)⟩
  | k + 1 => by
    have ih := runF_ren hQ k
    refine ⟨fun ρ n N R f ds mem d mem' M h S => ?_, fun ρ n N R l c e mem x e' mem' M hf h S => ?_⟩
    · simp only [runF] at h ⊢
      cases he : Q.ext f with
      | some e => rw [he] at h; exact hQ.ext f e he ρ n N R ds mem d mem' M h S
      | none =>
        rw [he] at h
        simp only at h ⊢
        cases hfn : Q.fn f with
        | some fn => rw [hfn] at h; exact callBody_ren R ih (hQ.fn f fn hfn) h S
        | none => rw [hfn] at h; cases h
    · simp only [runF] at h ⊢
      split at h
      · rename_i e1 m1 hs
        obtain ⟨M1, h1, h2⟩ := exec_ren R ih c hf hs S
        obtain ⟨M2, h3, h4⟩ := ih.loop ρ n N R l c _ m1 x e' mem' M1 hf h h2.1
        refine ⟨M2, ?_, h2.trans h4⟩
        rw [h1]
        simp only [only_ren, h3]
      · rename_i hne
        obtain ⟨M1, h1, h2⟩ := exec_ren R ih c hf h S
        refine ⟨M1, ?_, h2⟩
        rw [h1]
        cases x with
        | normal => exact absurd h (hne _ _)
        | exit id => rfl
        | ret => rfl

/-- **A call in a small memory is that call in a larger one.** -/
theorem lim_ren {Q : Prog} (hQ : ProgRen Q) (R : RenOk ρ n N) {f : FuncId} {ds : List AV} {d : AV} {mem mem' M : Mem} (h : (lim Q).call f ds mem = some (d, mem')) (S : Sim ρ n N mem M) :
    ∃ M', (lim Q).call f (renL ρ ds) M = some (d.ren ρ, M') ∧ Like ρ n N mem M mem' M' := by
  obtain ⟨k, hk⟩ := lim_call.1 h
  obtain ⟨M', h1, h2⟩ := (runF_ren hQ k).call ρ n N R f ds mem d mem' M hk S
  exact ⟨M', lim_call.2 ⟨k, h1⟩, h2⟩

/-- No pointer goes in: the memory is as it was. -/
theorem lim_frame {Q : Prog} (hQ : ProgRen Q) {f : FuncId} {ds : List AV} {d : AV} (h : (lim Q).call f ds [] = some (d, [])) (hds : noPtrL ds = true) (hd : d.noPtr = true) (M : Mem) : (lim Q).call f ds M = some (d, M) := by
  have R : RenOk (fun b => M.length + b) 0 M.length := ⟨fun a b h => by omega, fun a h => by omega, fun a h => by omega⟩
  have S : Sim (fun b => M.length + b) 0 M.length [] M := ⟨by simp, by simp, fun b hb => by simp at hb⟩
  obtain ⟨M', h1, h2⟩ := lim_ren hQ R h S
  rw [renL_id hds, ren_id hd] at h1
  have := h2.same R S
  subst this; exact h1
 end
end Go.Eng
 end
