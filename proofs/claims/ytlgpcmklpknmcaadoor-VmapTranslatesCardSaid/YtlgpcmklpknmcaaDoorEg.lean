/- Regions that draw: every order comes to what the text's order tells.
   Regions that draw their order and end in append's tail. -/
import Derived.Test.YtlgpcmklpknmcaaDoorEf
 section
set_option linter.unusedVariables false
set_option linter.unusedSimpArgs false
namespace Go.Eng

/-- The states of the text's order. -/
structure Text (Φ : Oracle) (rs : List RInst) (wl : List Nat) (sx : List (Nat × List Nat)) (eT : Nat → Env) (mT : Nat → Mem) : Prop where
  step : ∀ (k : Nat) r, rs[k]? = some r → stepInst Φ r (eT k) (mT k) = some (eT (k + 1), mT (k + 1))
  quiet : ∀ (k : Nat) r, rs[k]? = some r → k ∉ wl → mT (k + 1) = mT k
  stab : ∀ (k : Nat) r, rs[k]? = some r → ∀ l, sx.lookup k = some l → mT (k + 1) = mT k ∨ stable rs l (eT k) (mT k) (mT (k + 1)) = true

theorem text_of {Φ : Oracle} {wl : List Nat} {sx : List (Nat × List Nat)} {all : List RInst} : ∀ (rs : List RInst) (k : Nat) (env : Env) (mem : Mem) (env' : Env) (mem' : Mem), execDraw Φ wl sx all rs k env mem = some (env', mem') →
    ∃ (eT : Nat → Env) (mT : Nat → Mem), eT 0 = env ∧ mT 0 = mem ∧ eT rs.length = env' ∧ mT rs.length = mem' ∧
      (∀ (j : Nat) r, rs[j]? = some r → stepInst Φ r (eT j) (mT j) = some (eT (j + 1), mT (j + 1))) ∧ (∀ (j : Nat) r, rs[j]? = some r → k + j ∉ wl → mT (j + 1) = mT j) ∧ (∀ (j : Nat) r, rs[j]? = some r → ∀ l, sx.lookup (k + j) = some l → mT (j + 1) = mT j ∨ stable all l (eT j) (mT j) (mT (j + 1)) = true)
  | [], k, env, mem, env', mem', h => by
    simp only [execDraw, Option.some.injEq, Prod.mk.injEq] at h
    obtain ⟨rfl, rfl⟩ := h
    exact ⟨fun _ => env, fun _ => mem, rfl, rfl, rfl, rfl, fun j r h => by simp at h, fun j r h => by simp at h, fun j r h => by simp at h⟩
  | r :: rs, k, env, mem, env', mem', h => by
    unfold execDraw at h
    split at h
    · rename_i e1 m1 hs
      split at h
      · rename_i hq
        simp only [Bool.and_eq_true] at hq
        obtain ⟨hq, hsx⟩ := hq
        obtain ⟨eT, mT, a1, a2, a3, a4, a5, a6, a7⟩ := text_of rs (k + 1) e1 m1 env' mem' h
        refine ⟨fun j => match j with | 0 => env | j + 1 => eT j, fun j => match j with | 0 => mem | j + 1 => mT j, rfl, rfl, a3, a4, fun j r' hj => ?_, fun j r' hj hw => ?_, fun j r' hj l hl => ?_⟩
        · cases j with
          | zero => simp at hj; subst hj; simp only [a1, a2]; exact hs
          | succ j => exact a5 j r' (by simpa using hj)
        · cases j with
          | zero =>
            simp at hj; subst hj
            simp only [a2]
            simp only [Bool.or_eq_true] at hq
            rcases hq with (hq | hq) | hq
            · exact (inst_free hq hs).1
            · exact absurd (by simpa using hq) hw
            · exact eqbM_eq _ _ hq
          | succ j => exact a6 j r' (by simpa using hj) (by rw [show k + 1 + j = k + (j + 1) by omega]; exact hw)
        · cases j with
          | zero =>
            simp only [Nat.add_zero] at hl
            unfold stabAt at hsx
            rw [hl] at hsx
            simp only [Bool.or_eq_true] at hsx
            simp only [a2]
            exact hsx.imp (eqbM_eq _ _) id
          | succ j => exact a7 j r' (by simpa using hj) l (by rw [show k + 1 + j = k + (j + 1) by omega]; exact hl)
      · cases h
    · cases h

theorem text_len {Φ : Oracle} {rs : List RInst} {wl : List Nat} {sx : List (Nat × List Nat)} {eT : Nat → Env} {mT : Nat → Mem} (T : Text Φ rs wl sx eT mT) : ∀ k, k ≤ rs.length → (eT k).length = (eT 0).length
  | 0, _ => rfl
  | k + 1, h => by
    have hr : rs[k]? = some (rs[k]'(by omega)) := List.getElem?_eq_getElem _
    obtain ⟨_, _, _, h3, _⟩ := step_local (e := eT k) rfl (fun t _ => rfl) (T.step k _ hr)
    rw [h3]; exact text_len T k (by omega)

/-- Between k and m nobody writes slot t: it is the same. -/
theorem text_same {Φ : Oracle} {rs : List RInst} {wl : List Nat} {sx : List (Nat × List Nat)} {eT : Nat → Env} {mT : Nat → Mem} (T : Text Φ rs wl sx eT mT) {t : Nat} : ∀ (m k : Nat), k ≤ m → m ≤ rs.length → (∀ (j : Nat) r, k ≤ j → j < m → rs[j]? = some r → t ∉ r.writes) → (eT m).getD t .junk = (eT k).getD t .junk
  | 0, k, h1, _, _ => by have : k = 0 := by omega
                         subst this; rfl
  | m + 1, k, h1, h2, hw => by
    by_cases hk : k = m + 1
    · subst hk; rfl
    · have hr : rs[m]? = some (rs[m]'(by omega)) := List.getElem?_eq_getElem _
      obtain ⟨_, _, _, _, _, _, h6⟩ := step_local (e := eT m) rfl (fun t _ => rfl) (T.step m _ hr)
      rw [h6 t (hw m _ (by omega) (by omega) hr)]
      exact text_same T m k (by omega) (by omega) fun j r a b c => hw j r a (by omega) c
theorem text_mem {Φ : Oracle} {rs : List RInst} {wl : List Nat} {sx : List (Nat × List Nat)} {eT : Nat → Env} {mT : Nat → Mem} (T : Text Φ rs wl sx eT mT) : ∀ (m k : Nat), k ≤ m → m ≤ rs.length → (∀ j, k ≤ j → j < m → j ∉ wl) → mT m = mT k
  | 0, k, h1, _, _ => by have : k = 0 := by omega
                         subst this; rfl
  | m + 1, k, h1, h2, hw => by
    by_cases hk : k = m + 1
    · subst hk; rfl
    · have hr : rs[m]? = some (rs[m]'(by omega)) := List.getElem?_eq_getElem _
      rw [T.quiet m _ hr (hw m (by omega) (by omega))]
      exact text_mem T m k (by omega) (by omega) fun j a b => hw j a (by omega)

/-- Where a run stands that has carried out the instructions of E. -/
structure At (rs : List RInst) (wl : List Nat) (eT : Nat → Env) (mT : Nat → Mem) (E : Nat → Prop) (e : Env) (m : Mem) : Prop where
  len : e.length = (eT 0).length
  env : ∀ t k, k ≤ rs.length → (∀ (j : Nat) r, rs[j]? = some r → t ∈ r.writes → (E j ↔ j < k)) → e.getD t .junk = (eT k).getD t .junk
  mem : ∀ k, k ≤ rs.length → (∀ j, j ∈ wl → j < rs.length → (E j ↔ j < k)) → m = mT k

structure Static (ops : Array Oper) (rs : List RInst) (wl : List Nat) (sx : List (Nat × List Nat)) (bnd : Nat) : Prop where
  len : rs.length = ops.size
  edge : ∀ (j : Nat) o e, ops[j]? = some o → e ∈ o.after → Region.binds .any e = true → e.on < j
  pair : ∀ (i j : Nat) ri rj, i < bnd → i < j → rs[i]? = some ri → rs[j]? = some rj → Anc ops j i ∨ ((∀ t ∈ ri.writes, t ∉ rj.reads) ∧ (∀ t ∈ ri.writes, t ∉ rj.writes) ∧ (∀ t ∈ ri.reads, t ∉ rj.writes))
  writers : ∀ i j, i ∈ wl → j ∈ wl → i < j → Anc ops j i
  readers : ∀ (i : Nat) ri, rs[i]? = some ri → ri.op.memFree = true ∨ i ∈ wl ∨ (∀ j ∈ wl, (i < j → Anc ops j i) ∧ (j < i → Anc ops i j)) ∨
    (∃ j rj, j ∈ wl ∧ rs[j]? = some rj ∧ ri.op.isLoad = true ∧ (rj.op.isNew = true ∨ ((∃ l, sx.lookup j = some l ∧ i ∈ l) ∧ ∀ (k : Nat) r, i ≤ k → k < j → rs[k]? = some r → ∀ t ∈ ri.reads, t ∉ r.writes)) ∧ i < j ∧ (∀ j' ∈ wl, j' ≠ j → (i < j' → Anc ops j' i) ∧ (j' < i → Anc ops i j')) ∧ (∀ j' ∈ wl, j' < i ∨ j ≤ j')) ∨
    (∃ j rj, j ∈ wl ∧ rs[j]? = some rj ∧ ri.op.isLoad = true ∧ rj.op.isTake = true ∧ j < i ∧ (∀ j' ∈ wl, j' ≠ j → (i < j' → Anc ops j' i) ∧ (j' < i → Anc ops i j')) ∧ (∀ j' ∈ wl, j' ≤ j ∨ i < j'))

theorem not_mem_of_disj {a b : List Nat} (h : disj a b = true) : ∀ t ∈ a, t ∉ b := by
  intro t ht
  unfold disj at h
  rw [List.all_eq_true] at h
  have := h t ht
  simpa using this

theorem static_of {ops : Array Oper} {rs : List RInst} {wl : List Nat} {sx : List (Nat × List Nat)} {bnd : Nat} (hl : rs.length = ops.size) (h : drawOk ops rs wl sx bnd = true) : Static ops rs wl sx bnd := by
  unfold drawOk at h
  simp only [Bool.and_eq_true] at h
  obtain ⟨⟨⟨h1, h2⟩, h3⟩, h4⟩ := h
  have hm : ∀ j i, befB (masks ops.toList []) i j = true → Anc ops j i := fun j i hb =>
    masks_anc ops.toList [] (fun j => by simp) (fun k i h => by simp [List.getD_eq_getElem?_getD] at h) j i hb
  have hord : ∀ i j, ordered (masks ops.toList []) i j = true → (i < j → Anc ops j i) ∧ (j < i → Anc ops i j) := by
    intro i j ho
    unfold ordered at ho
    split at ho
    · rename_i hij; exact ⟨fun _ => hm _ _ ho, fun hji => by omega⟩
    · rename_i hij; exact ⟨fun h => absurd h hij, fun _ => hm _ _ ho⟩
  refine ⟨hl, fun j o e ho he hb => ?_, fun i j ri rj hbi hij hi hj => ?_, fun i j hi hj hij => ?_, fun i ri hi => ?_⟩
  · have := all_zipIdx h1 (i := j) (x := o) (by simpa using ho)
    simp only [List.all_eq_true] at this
    have := this e (Array.mem_toList_iff.2 he)
    rw [hb] at this
    simpa using this
  · have := all_zipIdx h2 hj
    simp only at this
    have := all_zipIdx this (i := i) (x := ri) (by rw [List.getElem?_take, if_pos hij]; exact hi)
    simp only [pairOk, Bool.or_eq_true, Bool.and_eq_true, decide_eq_true_eq] at this
    rcases this with hb0 | hb | ⟨⟨d1, d2⟩, d3⟩
    · omega
    · exact .inl (hm _ _ hb)
    · exact .inr ⟨not_mem_of_disj d1, not_mem_of_disj d2, not_mem_of_disj d3⟩
  · simp only [List.all_eq_true] at h3
    have := h3 j hj i hi
    simp only [Bool.or_eq_true, decide_eq_true_eq] at this
    rcases this with hb | hb
    · omega
    · exact hm _ _ hb
  · have := all_zipIdx h4 hi
    simp only [readerOk, Bool.or_eq_true] at this
    rcases this with (((hf | hw) | ho) | he) | he2
    rotate_right
    · rw [List.any_eq_true] at he2
      obtain ⟨j, hj, he⟩ := he2
      simp only [Bool.and_eq_true, decide_eq_true_eq, List.all_eq_true, Bool.or_eq_true, beq_iff_eq] at he
      obtain ⟨⟨⟨⟨e1, e2⟩, e3⟩, e4⟩, e5⟩ := he
      split at e2
      · rename_i rj hrj
        exact .inr (.inr (.inr (.inr ⟨j, rj, hj, hrj, e1, e2, e3, fun j' hj' hne => hord i j' ((e4 j' hj').resolve_left hne), e5⟩)))
      · cases e2
    · exact .inl hf
    · exact .inr (.inl (by simpa using hw))
    · rw [List.all_eq_true] at ho
      exact .inr (.inr (.inl fun j hj => hord i j (ho j hj)))
    · rw [List.any_eq_true] at he
      obtain ⟨j, hj, he⟩ := he
      simp only [Bool.and_eq_true, decide_eq_true_eq, List.all_eq_true, Bool.or_eq_true, beq_iff_eq] at he
      obtain ⟨⟨⟨⟨e1, e2⟩, e3⟩, e4⟩, e5⟩ := he
      have hrj0 : ∃ rj, rs[j]? = some rj := by
        rcases e2 with e2 | e2
        · split at e2
          · rename_i rj hrj; exact ⟨rj, hrj⟩
          · cases e2
        · unfold stillOk at e2
          simp only [Bool.and_eq_true, decide_eq_true_eq] at e2
          exact ⟨_, List.getElem?_eq_getElem e2.1.1⟩
      obtain ⟨rj, hrj⟩ := hrj0
      refine .inr (.inr (.inr (.inl ⟨j, rj, hj, hrj, e1, ?_, e3, fun j' hj' hne => hord i j' ((e4 j' hj').resolve_left hne), e5⟩)))
      rcases e2 with e2 | e2
      · rw [hrj] at e2; exact .inl e2
      · right
        unfold stillOk at e2
        simp only [Bool.and_eq_true] at e2
        obtain ⟨⟨_, f1⟩, f2⟩ := e2
        refine ⟨?_, fun k r h1 h2 hr => ?_⟩
        · split at f1
          · rename_i l hl; exact ⟨l, hl, by simpa using f1⟩
          · cases f1
        · have := all_zipIdx f2 hr
          simp only [Bool.or_eq_true, decide_eq_true_eq] at this
          rcases this with (h | h) | h
          · omega
          · omega
          · exact not_mem_of_disj h

/-- One more instruction. -/
theorem at_step {Φ : Oracle} {ops : Array Oper} {rs : List RInst} {wl : List Nat} {sx : List (Nat × List Nat)} {eT : Nat → Env} {mT : Nat → Mem} {bnd : Nat} (S : Static ops rs wl sx bnd) (T : Text Φ rs wl sx eT mT) {E : Nat → Prop} (hE : ∀ j i, Anc ops j i → E j → E i) {e : Env} {m : Mem} (A : At rs wl eT mT E e m)
    {i : Nat} (hib : i < bnd) {ri : RInst} (hi : rs[i]? = some ri) (hni : ¬ E i) (hready : ∀ j, Anc ops i j → E j) :
    ∃ e' m', stepInst Φ ri e m = some (e', m') ∧ At rs wl eT mT (fun j => E j ∨ j = i) e' m' := by
  have hil := lt_of_get hi
  -- the slots
  have hag : agree e (eT i) (ri.reads ++ ri.writes) := by
    intro t ht
    refine A.env t i (by omega) fun j rj hj hw => ?_
    rcases Nat.lt_trichotomy j i with h | h | h
    · refine ⟨fun _ => h, fun _ => ?_⟩
      rcases S.pair j i rj ri (by omega) h hj hi with ha | ⟨d1, d2, _⟩
      · exact hready j ha
      · rcases List.mem_append.1 ht with ht | ht
        · exact absurd ht (d1 t hw)
        · exact absurd ht (d2 t hw)
    · subst h; exact ⟨fun h => absurd h hni, fun h => absurd h (Nat.lt_irrefl _)⟩
    · refine ⟨fun hEj => ?_, fun hlt => by omega⟩
      rcases S.pair i j ri rj hib h hi hj with ha | ⟨_, d2, d3⟩
      · exact absurd (hE j i ha hEj) hni
      · rcases List.mem_append.1 ht with ht | ht
        · exact absurd hw (d3 t ht)
        · exact absurd hw (d2 t ht)
  have hstep := T.step i ri hi
  obtain ⟨e', s1, s2, s3, s4, s5, s6⟩ := step_local (by rw [A.len, text_len T i (by omega)]) hag hstep
  -- the memory
  have hmem : ∃ m', stepInst Φ ri e m = some (e', m') ∧ ∀ k, k ≤ rs.length → (∀ j, j ∈ wl → j < rs.length → ((E j ∨ j = i) ↔ j < k)) → m' = mT k := by
    have ordered_case : (∀ j ∈ wl, j ≠ i → (i < j → Anc ops j i) ∧ (j < i → Anc ops i j)) → m = mT i := by
      intro hord
      refine A.mem i (by omega) fun j hj _ => ?_
      by_cases hji : j = i
      · subst hji; exact ⟨fun h => absurd h hni, fun h => absurd h (Nat.lt_irrefl _)⟩
      · obtain ⟨o1, o2⟩ := hord j hj hji
        rcases Nat.lt_or_gt_of_ne hji with h | h
        · exact ⟨fun _ => h, fun _ => hready j (o2 h)⟩
        · exact ⟨fun hEj => absurd (hE j i (o1 h) hEj) hni, fun hlt => by omega⟩
    have nonwriter : i ∉ wl → ∀ m', (m' = m) → ∀ k, k ≤ rs.length → (∀ j, j ∈ wl → j < rs.length → ((E j ∨ j = i) ↔ j < k)) → m' = mT k := by
      rintro hw m' rfl k hk hiff
      refine A.mem k hk fun j hj hjl => ?_
      rw [← hiff j hj hjl]
      exact ⟨.inl, fun h => h.elim id fun h => absurd (h ▸ hj) hw⟩
    rcases S.readers i ri hi with hf | hw | ho | ⟨j, rj, hj, hrj, hld, hnw, hij, hord, hgap⟩ | ⟨j, rj, hj, hrj, hld, htk, hji, hord, hgap⟩
    rotate_right
    · -- a load, with one that takes a right ahead of it
      have hw : i ∉ wl := fun hw => by rcases hgap i hw with h | h <;> omega
      have hjl := lt_of_get hrj
      have hq : mT (i + 1) = mT i := T.quiet i ri hi hw
      rw [hq] at s1
      have hmi : mT i = mT (j + 1) := text_mem T i (j + 1) (by omega) (by omega) fun j' a b hjw => by
        rcases hgap j' hjw with h | h <;> omega
      have hfl : flat1 (mT (j + 1)) = flat1 (mT j) := inst_take htk (T.step j rj hrj)
      by_cases hEj : E j
      · have : m = mT i := by
          refine A.mem i (by omega) fun j' hj' _ => ?_
          by_cases hjj : j' = j
          · subst hjj; exact ⟨fun _ => hji, fun _ => hEj⟩
          · by_cases hji' : j' = i
            · subst hji'; exact absurd hj' hw
            · obtain ⟨o1, o2⟩ := hord j' hj' hjj
              rcases Nat.lt_or_gt_of_ne hji' with h | h
              · exact ⟨fun _ => h, fun _ => hready j' (o2 h)⟩
              · exact ⟨fun hE' => absurd (hE j' i (o1 h) hE') hni, fun hlt => by omega⟩
        exact ⟨m, by rw [this]; exact s1, nonwriter hw m rfl⟩
      · have : m = mT j := by
          refine A.mem j (by omega) fun j' hj' _ => ?_
          by_cases hjj : j' = j
          · subst hjj; exact ⟨fun h => absurd h hEj, fun h => by omega⟩
          · by_cases hji' : j' = i
            · subst hji'; exact absurd hj' hw
            · obtain ⟨o1, o2⟩ := hord j' hj' hjj
              rcases Nat.lt_or_gt_of_ne hji' with h | h
              · have := hgap j' hj'
                exact ⟨fun _ => by omega, fun _ => hready j' (o2 h)⟩
              · exact ⟨fun hE' => absurd (hE j' i (o1 h) hE') hni, fun hlt => by omega⟩
        refine ⟨m, ?_, nonwriter hw m rfl⟩
        rw [this]
        exact inst_load_flat hld s1 (by rw [hmi, hfl])
    · obtain ⟨hmm, hall⟩ := inst_free hf s1
      by_cases hw : i ∈ wl
      · -- a free instruction that is told as a writer: it writes nothing
        refine ⟨m, hall m, fun k hk hiff => ?_⟩
        have hmi : m = mT i := ordered_case fun j hj hne => ⟨fun h => S.writers i j hw hj h, fun h => S.writers j i hj hw h⟩
        have hik : i < k := (hiff i hw hil).1 (.inr rfl)
        have : mT k = mT (i + 1) := text_mem T k (i + 1) (by omega) hk fun j a b hjw => by
          have hEj : E j ∨ j = i := (hiff j hjw (by omega)).2 b
          rcases hEj with h | h
          · exact hni (hE j i (S.writers i j hw hjw (by omega)) h)
          · omega
        rw [this, hmm, hmi]
      · exact ⟨m, hall m, nonwriter hw m rfl⟩
    · have hmi : m = mT i := ordered_case fun j hj hne => ⟨fun h => S.writers i j hw hj h, fun h => S.writers j i hj hw h⟩
      refine ⟨mT (i + 1), by rw [hmi]; exact s1, fun k hk hiff => ?_⟩
      have hik : i < k := (hiff i hw hil).1 (.inr rfl)
      exact (text_mem T k (i + 1) (by omega) hk fun j a b hjw => by
        have hEj : E j ∨ j = i := (hiff j hjw (by omega)).2 b
        rcases hEj with h | h
        · exact hni (hE j i (S.writers i j hw hjw (by omega)) h)
        · omega).symm
    · by_cases hw : i ∈ wl
      · have hmi : m = mT i := ordered_case fun j hj hne => ho j hj
        refine ⟨mT (i + 1), by rw [hmi]; exact s1, fun k hk hiff => ?_⟩
        have hik : i < k := (hiff i hw hil).1 (.inr rfl)
        exact (text_mem T k (i + 1) (by omega) hk fun j a b hjw => by
          have hEj : E j ∨ j = i := (hiff j hjw (by omega)).2 b
          rcases hEj with h | h
          · exact hni (hE j i (S.writers i j hw hjw (by omega)) h)
          · omega).symm
      · have hmi : m = mT i := ordered_case fun j hj hne => ho j hj
        refine ⟨mT (i + 1), by rw [hmi]; exact s1, nonwriter hw _ ?_⟩
        rw [T.quiet i ri hi hw, hmi]
    · -- a load, with a new variable beside it
      by_cases hw : i ∈ wl
      · exfalso
        rcases hgap i hw with h | h <;> omega
      · have hjl := lt_of_get hrj
        have hq : mT (i + 1) = mT i := T.quiet i ri hi hw
        rw [hq] at s1
        obtain ⟨_, hload⟩ := inst_load hld s1
        by_cases hEj : E j
        · have hmj : m = mT (j + 1) := by
            refine A.mem (j + 1) (by omega) fun j' hj' _ => ?_
            by_cases hjj : j' = j
            · subst hjj; exact ⟨fun _ => by omega, fun _ => hEj⟩
            · rcases Nat.lt_or_gt_of_ne hjj with h | h
              · exact ⟨fun _ => by omega, fun _ => hE j j' (S.writers j' j hj' hj h) hEj⟩
              · refine ⟨fun hE' => ?_, fun h' => by omega⟩
                exact absurd (hE j' i ((hord j' hj' hjj).1 (by omega)) hE') hni
          have hij2 : mT j = mT i := text_mem T j i (by omega) (by omega) fun j' a b hjw => by
            rcases hgap j' hjw with h | h <;> omega
          rcases hnw with hnw | ⟨⟨l, hl, hil2⟩, hsl⟩
          · rcases inst_new hnw (T.step j rj hrj) with h1 | ⟨b, h1⟩
            · rw [h1, hij2] at hmj
              exact ⟨m, by rw [hmj]; exact s1, nonwriter hw m rfl⟩
            · rw [h1, hij2] at hmj
              exact ⟨m, by rw [hmj]; exact hload b, nonwriter hw m rfl⟩
          · rcases T.stab j rj hrj l hl with h1 | h1
            · rw [h1, hij2] at hmj
              exact ⟨m, by rw [hmj]; exact s1, nonwriter hw m rfl⟩
            · refine ⟨m, ?_, nonwriter hw m rfl⟩
              rw [hmj]
              refine inst_load_eq hld s1 fun b o hbo => ?_
              unfold stable at h1
              rw [List.all_eq_true] at h1
              have h2 := h1 i hil2
              rw [hi] at h2
              simp only at h2
              have hsame : (evs (eT j) ri.xs).1 = (evs e ri.xs).1 := by
                refine ((evs_local ri.xs e (eT j) (by rw [A.len, text_len T j (by omega)]) fun t ht => ?_).1).symm
                have ht : t ∈ ri.reads := List.mem_append_right _ ht
                rw [hag t (List.mem_append_left _ ht)]
                exact (text_same T j i (by omega) (by omega) fun k r a b hk hw => hsl k r a b hk t ht hw).symm
              rw [hsame, hbo] at h2
              simp only at h2
              rw [hij2] at h2
              split at h2
              · rename_i x y hx hy
                rw [hx, hy, eqbL_eq _ _ h2]
              · cases h2
        · have hmi : m = mT i := by
            refine A.mem i (by omega) fun j' hj' _ => ?_
            by_cases hjj : j' = j
            · subst hjj; exact ⟨fun h => absurd h hEj, fun h => by omega⟩
            · by_cases hji : j' = i
              · subst hji; exact absurd hj' hw
              · obtain ⟨o1, o2⟩ := hord j' hj' hjj
                rcases Nat.lt_or_gt_of_ne hji with h | h
                · exact ⟨fun _ => h, fun _ => hready j' (o2 h)⟩
                · exact ⟨fun hE' => absurd (hE j' i (o1 h) hE') hni, fun hlt => by omega⟩
          exact ⟨m, by rw [hmi]; exact s1, nonwriter hw m rfl⟩
  obtain ⟨m', hs, hmk⟩ := hmem
  refine ⟨e', m', hs, ⟨by rw [s2]; exact A.len, fun t k hk hiff => ?_, hmk⟩⟩
  by_cases hw : t ∈ ri.writes
  · rw [s4 t hw]
    have hik : i < k := (hiff i ri hi hw).1 (.inr rfl)
    refine (text_same T k (i + 1) (by omega) hk fun j rj a b hj hjw => ?_).symm
    have hEj : E j ∨ j = i := (hiff j rj hj hjw).2 b
    rcases hEj with h | h
    · rcases S.pair i j ri rj hib (by omega) hi hj with ha | ⟨_, d2, _⟩
      · exact hni (hE j i ha h)
      · exact d2 t hw hjw
    · omega
  · rw [s5 t hw]
    refine A.env t k hk fun j rj hj hjw => ?_
    rw [← hiff j rj hj hjw]
    exact ⟨.inl, fun h => h.elim id fun h => by subst h; rw [hi] at hj; cases hj; exact absurd hjw hw⟩

theorem filter_le {α : Type} {p q : α → Bool} : ∀ {l : List α}, (∀ x ∈ l, q x = true → p x = true) → (l.filter q).length ≤ (l.filter p).length
  | [], _ => by simp
  | x :: l, h => by
    have ih := filter_le (p := p) (q := q) (l := l) fun y hy => h y (.tail _ hy)
    have hx := h x (.head _)
    by_cases hq : q x = true
    · simp [hq, hx hq, ih]
    · by_cases hp : p x = true
      · simp [hq, hp]; omega
      · simp [hq, hp, ih]
theorem filter_lt {α : Type} {p q : α → Bool} {x : α} : ∀ {l : List α}, (∀ x ∈ l, q x = true → p x = true) → x ∈ l → p x = true → ¬ q x = true → (l.filter q).length < (l.filter p).length
  | [], _, hx, _, _ => by cases hx
  | y :: l, h, hx, hp, hq => by
    have hl := filter_le (p := p) (q := q) (l := l) fun y hy => h y (.tail _ hy)
    rcases List.mem_cons.1 hx with rfl | hx
    · simp [hp, hq]; omega
    · have ih := filter_lt (l := l) (fun y hy => h y (.tail _ hy)) hx hp hq
      have hy := h y (.head _)
      by_cases hqy : q y = true
      · simp [hqy, hy hqy, ih]
      · by_cases hpy : p y = true
        · simp [hqy, hpy]; omega
        · simp [hqy, hpy, ih]

 section
variable {P : Program} {nz : List Nat} {nk : Nat → List Nat} {g : Gh} {w : World} {mem mem' : Mem} {fr : List Nat} {env env' : Env} {a : Act} {Φ : Oracle}

def listedE (n : Nat) (listed : Array Bool) (j : Nat) : Prop := j < n ∧ listed.getD j false = true

theorem listed_set {n : Nat} {listed : Array Bool} (hn : listed.size = n) {i j : Nat} (hi : i < n) : listedE n (listed.setIfInBounds i true) j ↔ listedE n listed j ∨ j = i := by
  unfold listedE
  by_cases hji : j = i
  · subst hji
    simp [Array.getD_eq_getD_getElem?, hi, hn]
  · have : (listed.setIfInBounds i true).getD j false = listed.getD j false := by
      simp only [Array.getD_eq_getD_getElem?, Array.getElem?_setIfInBounds]
      rw [if_neg (Ne.symm hji)]
    rw [this]; simp [hji]

/-- Behind the place of append's macro all stands in one order. -/
def macOk (ops : Array Oper) : Option Nat → Bool
  | none => true
  | some m => (ops.toList.zipIdx.all fun (o, j) => decide (j ≤ m + 1) || (o.after.toList.any fun e => Region.binds .any e && decide (m + 1 ≤ e.on) && (decide (j = m + 2) || decide (m + 2 ≤ e.on)))) &&
    ((List.range m).all fun j => befB (masks ops.toList []) j m) && befB (masks ops.toList []) m (m + 1) && decide (m + 2 < ops.size)

theorem Anc.lt {ops : Array Oper} (he : ∀ (j : Nat) o e, ops[j]? = some o → e ∈ o.after → Region.binds .any e = true → e.on < j) {j i : Nat} (h : Anc ops j i) : i < j := by
  induction h with
  | edge ho hm hb hi => subst hi; exact he _ _ _ ho hm hb
  | step _ _ ih1 ih2 => exact Nat.lt_trans ih2 ih1

theorem mac_of {ops : Array Oper} {m : Nat} (h : macOk ops (some m) = true) : (∀ (j : Nat) o, ops[j]? = some o → m + 1 < j → ∃ e ∈ o.after, Region.binds .any e = true ∧ m + 1 ≤ e.on ∧ (j = m + 2 ∨ m + 2 ≤ e.on)) ∧ (∀ j, j < m → Anc ops m j) ∧ Anc ops (m + 1) m ∧ m + 2 < ops.size := by
  unfold macOk at h
  simp only [Bool.and_eq_true, decide_eq_true_eq] at h
  obtain ⟨⟨⟨h1, h2⟩, h3⟩, h4⟩ := h
  have hm : ∀ j i, befB (masks ops.toList []) i j = true → Anc ops j i := fun j i hb =>
    masks_anc ops.toList [] (fun j => by simp) (fun k i h => by simp [List.getD_eq_getElem?_getD] at h) j i hb
  refine ⟨fun j o ho hj => ?_, fun j hj => hm _ _ ?_, hm _ _ h3, h4⟩
  · have := all_zipIdx h1 (i := j) (x := o) (by simpa using ho)
    simp only [Bool.or_eq_true, decide_eq_true_eq, List.any_eq_true, Bool.and_eq_true] at this
    rcases this with hh | ⟨e, he, ⟨hb, h5⟩, h6⟩
    · omega
    · exact ⟨e, Array.mem_toList_iff.1 he, hb, h5, h6⟩
  · rw [List.all_eq_true] at h2
    exact h2 j (List.mem_range.2 hj)

theorem draw_any (hC : CallOk P Φ) {tk : Nat → List Bool} {mac : Option Nat} {ops : Array Oper} (hmac : macOk ops mac = true) {rs : List RInst} {wl : List Nat} {sx : List (Nat × List Nat)} {eT : Nat → Env} {mT : Nat → Mem} (hc : convInsts P nk tk mac ops ops.toList 0 = some rs) {bnd : Nat} (hbnd : ops.size ≤ bnd) (S : Static ops rs wl sx bnd) (T : Text Φ rs wl sx eT mT)
    {Q : Exit → Act → World → Prop} {g0 : Gh} {w0 : World} {c0 : List Nat}
    (K : ∀ a' w' g', St g' w' a' (eT rs.length) (mT rs.length) fr → Goes c0 g0 w0 (clm g' a' (eT rs.length) (mT rs.length)) g' w' → Q .normal a' w') :
    ∀ (fuel : Nat) (listed : Array Bool) (a : Act) (w : World) (g : Gh) (e : Env) (m : Mem), listed.size = ops.size → (∀ j i, Anc ops j i → listedE ops.size listed j → listedE ops.size listed i) → (∀ k, mac = some k → listedE ops.size listed k → listedE ops.size listed (k + 1) ∧ listedE ops.size listed (k + 2)) →
      ((List.range ops.size).filter fun i => !listed.getD i true).length ≤ fuel → At rs wl eT mT (listedE ops.size listed) e m → St g w a e m fr → Goes c0 g0 w0 (clm g a e m) g w → wpAny P .any ops Q fuel listed a w := by
  -- nobody is ready: all have come up
  have done : ∀ (listed : Array Bool), listed.size = ops.size → Region.ready .any ops listed = [] → ∀ n, n ≤ ops.size → ∀ j, j < n → listedE ops.size listed j := by
    intro listed hsz hr n
    induction n with
    | zero => intro _ j hj; omega
    | succ n ih =>
      intro hn j hj
      by_cases hjn : j < n
      · exact ih (by omega) j hjn
      · have hje : j = n := by omega
        subst hje
        by_cases hl : listed.getD j true = false
        · exfalso
          have hm : j ∈ Region.ready .any ops listed := by
            rw [mem_ready]
            refine ⟨hl, ops[j]'(by omega), by simp [show j < ops.size by omega], fun e he hb => ?_⟩
            have := S.edge j _ e (by simp [show j < ops.size by omega]) he hb
            exact (ih (by omega) e.on this).2
          rw [hr] at hm; cases hm
        · refine ⟨by omega, ?_⟩
          have hlt : j < listed.size := by omega
          simp only [Array.getD_eq_getD_getElem?, Array.getElem?_eq_getElem hlt, Option.getD_some] at hl ⊢
          cases h : listed[j] <;> simp [h] at hl ⊢
  have fin : ∀ (listed : Array Bool) (a : Act) (w : World) (g : Gh) (e : Env) (m : Mem), listed.size = ops.size → Region.ready .any ops listed = [] → At rs wl eT mT (listedE ops.size listed) e m → St g w a e m fr → Goes c0 g0 w0 (clm g a e m) g w → Q .normal a w := by
    intro listed a w g e m hsz hr A hst hgo
    have hall := done listed hsz hr ops.size (Nat.le_refl _)
    have hm : m = mT rs.length := A.mem rs.length (Nat.le_refl _) fun j _ hj => ⟨fun _ => hj, fun _ => hall j (by rw [← S.len]; exact hj)⟩
    have he : e = eT rs.length := by
      have hl : e.length = (eT rs.length).length := by rw [A.len, text_len T rs.length (Nat.le_refl _)]
      apply List.ext_getElem hl
      intro t h1 h2
      have := A.env t rs.length (Nat.le_refl _) fun j r hj _ => ⟨fun _ => lt_of_get hj, fun _ => hall j (by rw [← S.len]; exact lt_of_get hj)⟩
      simpa [List.getD_eq_getElem?_getD, List.getElem?_eq_getElem h1, List.getElem?_eq_getElem h2] using this
    subst hm; subst he
    exact K a w g hst hgo
  -- one more is listed
  have step_cl : ∀ (listed : Array Bool) (i : Nat), listed.size = ops.size → i < ops.size → (∀ j k, Anc ops j k → listedE ops.size listed j → listedE ops.size listed k) → (∀ k, Anc ops i k → listedE ops.size listed k) →
      ∀ j k, Anc ops j k → listedE ops.size (listed.setIfInBounds i true) j → listedE ops.size (listed.setIfInBounds i true) k := by
    intro listed i hsz hilt hcl hi j k hA hj
    rw [listed_set hsz hilt] at hj ⊢
    rcases hj with hj | hj
    · exact .inl (hcl j k hA hj)
    · subst hj; exact .inl (hi k hA)
  have step_fewer : ∀ (listed : Array Bool) (i : Nat), listed.size = ops.size → i < ops.size → listed.getD i true = false → ((List.range ops.size).filter fun j => !(listed.setIfInBounds i true).getD j true).length < ((List.range ops.size).filter fun j => !listed.getD j true).length := by
    intro listed i hsz hilt hunl
    refine filter_lt (x := i) (fun j _ hj => ?_) (List.mem_range.2 hilt) (by rw [hunl]; rfl) ?_
    · simp only [Array.getD_eq_getD_getElem?, Array.getElem?_setIfInBounds] at hj ⊢
      by_cases hij : i = j
      · subst hij; simp [show i < listed.size by omega] at hj
      · simpa [hij] using hj
    · simp [Array.getD_eq_getD_getElem?, Array.getElem?_setIfInBounds, show i < listed.size by omega]
  have unl : ∀ (listed : Array Bool) (i : Nat), listed.size = ops.size → i < ops.size → (listed.getD i true = false ↔ ¬ listedE ops.size listed i) := by
    intro listed i hsz hilt
    have hlt : i < listed.size := by omega
    unfold listedE
    simp only [Array.getD_eq_getD_getElem?, Array.getElem?_eq_getElem hlt, Option.getD_some]
    cases listed[i] <;> simp [hilt]
  intro fuel
  induction fuel using Nat.strongRecOn with
  | _ fuel ihs =>
  cases fuel with
  | zero =>
    intro listed a w g e m hsz hcl hmE hcount A hst hgo
    have hr : Region.ready .any ops listed = [] := by
      unfold Region.ready
      have : (List.range ops.size).filter (fun i => !listed.getD i true) = [] := List.length_eq_zero_iff.1 (by omega)
      rw [List.filter_eq_nil_iff] at this ⊢
      intro i hi
      have := this i hi
      simp only [Bool.and_eq_true, not_and]
      intro h; exact absurd h this
    exact ⟨hr, fin listed a w g e m hsz hr A hst hgo⟩
  | succ fuel =>
    have ih := ihs fuel (Nat.lt_succ_self _)
    intro listed a w g e m hsz hcl hmE hcount A hst hgo
    refine ⟨fun hr => fin listed a w g e m hsz hr A hst hgo, fun i hi => ?_⟩
    obtain ⟨hunl, o, ho, hedges⟩ := mem_ready.1 hi
    have hilt : i < ops.size := (Array.getElem?_eq_some_iff.1 ho).1
    have hni : ¬ listedE ops.size listed i := (unl listed i hsz hilt).1 hunl
    obtain ⟨hrl, hget⟩ := convInsts_get hc
    obtain ⟨r, hr, hconv⟩ := hget i o (by simpa using ho)
    rw [Nat.zero_add] at hconv
    have hdirect : ∀ j, (∃ o' e', ops[i]? = some o' ∧ e' ∈ o'.after ∧ Region.binds .any e' = true ∧ e'.on = j) → listedE ops.size listed j := by
      rintro j ⟨o', e', h1, h2, h3, rfl⟩
      rw [ho] at h1; cases h1
      exact ⟨by have := S.edge i o e' ho h2 h3; omega, hedges e' h2 h3⟩
    have hanc : ∀ j k, Anc ops j k → j = i → listedE ops.size listed k := by
      intro j k hA
      induction hA with
      | edge ho' he hb hi' => intro hj; subst hj; exact hdirect _ ⟨_, _, ho', he, hb, hi'⟩
      | step h1 h2 ih1 ih2 => intro hj; exact hcl _ _ h2 (ih1 hj)
    by_cases hmi : mac = some i
    · -- append's macro: it stands alone
      subst hmi
      obtain ⟨m1, m2, m3, m4⟩ := mac_of hmac
      have hc1 : convMac P (nk i) (tk i) ops i = some r := by simpa [convAt] using hconv
      obtain ⟨o1, o2, d1, g1, g2, gd⟩ := convMac_some hc1
      obtain ⟨r1, hr1, hconv1⟩ := hget (i + 1) o1 (by simpa using g1)
      obtain ⟨r2, hr2, hconv2⟩ := hget (i + 2) o2 (by simpa using g2)
      rw [Nat.zero_add] at hconv1 hconv2
      have c1' : convI P (nk (i + 1)) (tk (i + 1)) ops o1 = some r1 := by simpa [convAt] using hconv1
      have c2' : r2 = ⟨none, .chk, [.t d1 false], none⟩ := by
        simp only [convAt, if_neg (show ¬ (i + 2 = i) by omega), if_true, g1, gd, Option.some.injEq] at hconv2
        exact hconv2.symm
      have hup : ∀ n j, j ≤ n → i + 1 < j → j < ops.size → Anc ops j (i + 1) := by
        intro n
        induction n with
        | zero => intro j h1 h2; omega
        | succ n ihn =>
          intro j h1 h2 h3
          obtain ⟨e', he, hb, h5, _⟩ := m1 j _ (Array.getElem?_eq_getElem h3) h2
          have hlt := S.edge j _ e' (Array.getElem?_eq_getElem h3) he hb
          rcases Nat.eq_or_lt_of_le h5 with h6 | h6
          · exact .edge (Array.getElem?_eq_getElem h3) he hb h6.symm
          · exact .step (.edge (Array.getElem?_eq_getElem h3) he hb rfl) (ihn e'.on (by omega) h6 (by omega))
      have hE : ∀ j, j < ops.size → (listedE ops.size listed j ↔ j < i) := by
        intro j hj
        constructor
        · intro hl
          rcases Nat.lt_trichotomy j i with h | h | h
          · exact h
          · subst h; exact absurd hl hni
          · exfalso
            rcases Nat.eq_or_lt_of_le (show i + 1 ≤ j by omega) with h6 | h6
            · subst h6; exact hni (hcl _ _ m3 hl)
            · exact hni (hcl _ _ m3 (hcl _ _ (hup j j (Nat.le_refl _) h6 hj) hl))
        · intro hlt; exact hanc i j (m2 j hlt) rfl
      have hil : i < rs.length := by rw [S.len]; exact hilt
      have hee : e = eT i := by
        have hl : e.length = (eT i).length := by rw [A.len, text_len T i (by omega)]
        apply List.ext_getElem hl
        intro t h1 h2
        have := A.env t i (by omega) fun j rj hj _ => hE j (by rw [← S.len]; exact lt_of_get hj)
        simpa [List.getD_eq_getElem?_getD, List.getElem?_eq_getElem h1, List.getElem?_eq_getElem h2] using this
      have hmm : m = mT i := A.mem i (by omega) fun j _ hj => hE j (by rw [← S.len]; exact hj)
      subst hee; subst hmm
      have t0 := T.step i r hr
      have t1 := T.step (i + 1) r1 hr1
      have t2 := T.step (i + 2) r2 hr2
      -- what is listed behind it
      let L1 := listed.setIfInBounds i true
      let L2 := L1.setIfInBounds (i + 1) true
      let L3 := L2.setIfInBounds (i + 2) true
      have z1 : L1.size = ops.size := by simp [L1, hsz]
      have z2 : L2.size = ops.size := by simp [L2, z1]
      have z3 : L3.size = ops.size := by simp [L3, z2]
      have E1 : ∀ j, j < ops.size → (listedE ops.size L1 j ↔ j < i + 1) := fun j hj => by
        show listedE ops.size (listed.setIfInBounds i true) j ↔ _
        rw [listed_set hsz hilt, hE j hj]; omega
      have E2 : ∀ j, j < ops.size → (listedE ops.size L2 j ↔ j < i + 2) := fun j hj => by
        show listedE ops.size (L1.setIfInBounds (i + 1) true) j ↔ _
        rw [listed_set z1 (by omega), E1 j hj]; omega
      have E3 : ∀ j, j < ops.size → (listedE ops.size L3 j ↔ j < i + 3) := fun j hj => by
        show listedE ops.size (L2.setIfInBounds (i + 2) true) j ↔ _
        rw [listed_set z2 (by omega), E2 j hj]; omega
      have u1 : L1.getD (i + 1) true = false := (unl L1 (i + 1) z1 (by omega)).2 fun h => by have := (E1 _ (by omega)).1 h; omega
      have u2 : L2.getD (i + 2) true = false := (unl L2 (i + 2) z2 (by omega)).2 fun h => by have := (E2 _ (by omega)).1 h; omega
      have ready1 : ∀ j, j ∈ Region.ready .any ops L1 ↔ j = i + 1 := by
        intro j
        rw [mem_ready]
        constructor
        · rintro ⟨h1, o', ho', hall⟩
          have hj : j < ops.size := (Array.getElem?_eq_some_iff.1 ho').1
          have := (unl L1 j z1 hj).1 h1
          rw [E1 j hj] at this
          rcases Nat.eq_or_lt_of_le (show i + 1 ≤ j by omega) with h6 | h6
          · exact h6.symm
          · exfalso
            obtain ⟨e', he, hb, h5, _⟩ := m1 j o' ho' h6
            have hlt := S.edge j o' e' ho' he hb
            have hl : listedE ops.size L1 e'.on := ⟨by omega, hall e' he hb⟩
            rw [E1 _ (by omega)] at hl; omega
        · rintro rfl
          refine ⟨u1, o1, g1, fun e' he hb => ?_⟩
          have hlt := S.edge (i + 1) o1 e' g1 he hb
          exact ((E1 e'.on (by omega)).2 hlt).2
      have ready2 : ∀ j, j ∈ Region.ready .any ops L2 ↔ j = i + 2 := by
        intro j
        rw [mem_ready]
        constructor
        · rintro ⟨h1, o', ho', hall⟩
          have hj : j < ops.size := (Array.getElem?_eq_some_iff.1 ho').1
          have := (unl L2 j z2 hj).1 h1
          rw [E2 j hj] at this
          rcases Nat.eq_or_lt_of_le (show i + 2 ≤ j by omega) with h6 | h6
          · exact h6.symm
          · exfalso
            obtain ⟨e', he, hb, _, h5⟩ := m1 j o' ho' (by omega)
            have hlt := S.edge j o' e' ho' he hb
            have hl : listedE ops.size L2 e'.on := ⟨by omega, hall e' he hb⟩
            rw [E2 _ (by omega)] at hl; omega
        · rintro rfl
          refine ⟨u2, o2, g2, fun e' he hb => ?_⟩
          have hlt := S.edge (i + 2) o2 e' g2 he hb
          exact ((E2 e'.on (by omega)).2 hlt).2
      have f1' : ((List.range ops.size).filter fun j => !L1.getD j true).length < ((List.range ops.size).filter fun j => !listed.getD j true).length := step_fewer listed i hsz hilt hunl
      have f2' : ((List.range ops.size).filter fun j => !L2.getD j true).length < ((List.range ops.size).filter fun j => !L1.getD j true).length := step_fewer L1 (i + 1) z1 (by omega) u1
      have f3' : ((List.range ops.size).filter fun j => !L3.getD j true).length < ((List.range ops.size).filter fun j => !L2.getD j true).length := step_fewer L2 (i + 2) z2 (by omega) u2
      obtain ⟨fuel, rfl⟩ : ∃ f, fuel = f + 2 := ⟨fuel - 2, by omega⟩
      have hlast : ((List.range ops.size).filter fun j => !L3.getD j true).length ≤ fuel := by
        omega
      have cl3 : ∀ j k, Anc ops j k → listedE ops.size L3 j → listedE ops.size L3 k := by
        refine step_cl L2 (i + 2) z2 (by omega) (step_cl L1 (i + 1) z1 (by omega) (step_cl listed i hsz hilt hcl fun k hA => hanc i k hA rfl) fun k hA => ?_) fun k hA => ?_
        · have := hup
          have hlt : k < i + 1 := Anc.lt S.edge hA
          exact (E1 k (by omega)).2 hlt
        · have hlt : k < i + 2 := Anc.lt S.edge hA
          exact (E2 k (by omega)).2 hlt
      have hsl : i + 3 ≤ rs.length := by rw [S.len]; omega
      have hsl2 := S.len
      have fin3 : ∀ a' w' g', St g' w' a' (eT (i + 3)) (mT (i + 3)) fr → Goes (clm g a (eT i) (mT i)) g w (clm g' a' (eT (i + 3)) (mT (i + 3))) g' w' → wpAny P .any ops Q fuel L3 a' w' := by
        intro a' w' g' s' G'
        refine ihs fuel (by omega) L3 a' w' g' _ _ z3 cl3 (fun k hk _ => ?_) hlast ⟨by rw [text_len T (i + 3) (by omega)], fun t k hk hiff => ?_, fun k hk hiff => ?_⟩ s' (hgo.trans G')
        · cases hk; exact ⟨(E3 _ (by omega)).2 (by omega), (E3 _ (by omega)).2 (by omega)⟩
        · rcases Nat.le_total k (i + 3) with hle | hle
          · exact text_same T (i + 3) k hle (by omega) fun j rj h1 h2 hj hw => by
              have := (hiff j rj hj hw).1 ((E3 j (by rw [← S.len]; exact lt_of_get hj)).2 h2); omega
          · exact (text_same T k (i + 3) hle hk fun j rj h1 h2 hj hw => by
              have := (E3 j (by rw [← S.len]; exact lt_of_get hj)).1 ((hiff j rj hj hw).2 h2); omega).symm
        · rcases Nat.le_total k (i + 3) with hle | hle
          · exact text_mem T (i + 3) k hle (by omega) fun j h1 h2 hw => by
              have := (hiff j hw (by omega)).1 ((E3 j (by rw [← S.len]; omega)).2 h2); omega
          · exact (text_mem T k (i + 3) hle hk fun j h1 h2 hw => by
              have := (E3 j (by rw [← S.len]; omega)).1 ((hiff j hw (by omega)).2 h2); omega).symm
      refine wpOp_mono (fun a1 w1 h1 => ?_) (mac_sound (Q := Q) (K0 := wpAny P .any ops Q fuel L3) hc1 g1 c1' gd c2' t0 t1 t2 hst hC fin3)
      refine ⟨fun hr => ?_, fun j hj => ?_⟩
      · have : i + 1 ∈ Region.ready .any ops L1 := (ready1 _).2 rfl
        have hr' : Region.ready .any ops L1 = [] := hr
        rw [hr'] at this; cases this
      · have hj' := (ready1 j).1 hj
        subst hj'
        refine wpOp_mono (fun a2 w2 h2 => ?_) h1
        refine ⟨fun hr => ?_, fun j hj => ?_⟩
        · have : i + 2 ∈ Region.ready .any ops L2 := (ready2 _).2 rfl
          have hr' : Region.ready .any ops L2 = [] := hr
          rw [hr'] at this; cases this
        · have hj' := (ready2 j).1 hj
          subst hj'
          exact h2
    · have hnm : ∀ k, mac = some k → i ≠ k ∧ i ≠ k + 1 ∧ i ≠ k + 2 := by
        intro k hk
        subst hk
        obtain ⟨m1, m2, m3, m4⟩ := mac_of hmac
        refine ⟨fun h => hmi (by rw [h]), fun h => ?_, fun h => ?_⟩
        · subst h
          exact hni (hmE k rfl (hanc _ _ m3 rfl)).1
        · subst h
          obtain ⟨e', he, hb, h5, _⟩ := m1 _ o ho (by omega)
          have hlt := S.edge _ o e' ho he hb
          have h6 : e'.on = k + 1 := by omega
          have hl := hdirect _ ⟨o, e', ho, he, hb, h6⟩
          exact hni (hmE k rfl (hcl _ _ m3 hl)).2
      obtain ⟨e', m', hs, A'⟩ := at_step S T (hcl) A (by omega) hr hni (fun j hA => hanc i j hA rfl)
      have hconv' : convI P (nk i) (tk i) ops o = some r := by
        cases hmc : mac with
        | none => rw [hmc] at hconv; exact hconv
        | some k =>
          obtain ⟨n1, n2, n3⟩ := hnm k hmc
          rw [hmc] at hconv
          simpa only [convAt, if_neg n1, if_neg n3] using hconv
      refine inst_sound hC hconv' hs hst ho fun a' w' g' s' G' => ?_
      refine ih (listed.setIfInBounds i true) a' w' g' e' m' (by simpa using hsz) (step_cl listed i hsz hilt hcl fun k hA => hanc i k hA rfl) (fun k hk hl => ?_) ?_ ?_ s' (hgo.trans G')
      · obtain ⟨n1, n2, n3⟩ := hnm k hk
        rw [listed_set hsz hilt] at hl ⊢
        rw [listed_set hsz hilt]
        rcases hl with hl | hl
        · have := hmE k hk hl; exact ⟨.inl this.1, .inl this.2⟩
        · exact absurd hl.symm n1
      · have := step_fewer listed i hsz hilt hunl
        omega
      · refine ⟨A'.len, fun t k hk hiff => A'.env t k hk fun j rj hj hw => ?_, fun k hk hiff => A'.mem k hk fun j hj hjl => ?_⟩
        · rw [← hiff j rj hj hw]; exact (listed_set hsz hilt).symm
        · rw [← hiff j hj hjl]; exact (listed_set hsz hilt).symm

/-- **A region that draws its order.** -/
theorem draw_sound (hC : CallOk P Φ) (hm : P.follows .mixedOrders = true) {tk : Nat → List Bool} {mac : Option Nat} {ops : Array Oper} (hmac : macOk ops mac = true) {id : Nat} {rs : List RInst} {wl : List Nat} {sx : List (Nat × List Nat)} {Q : Exit → Act → World → Prop} (hc : convInsts P nk tk mac ops ops.toList 0 = some rs) (hd : drawOk ops rs wl sx ops.size = true)
    (hx : execDraw Φ wl sx rs rs 0 env mem = some (env', mem')) (h : St g w a env mem fr)
    (K : ∀ a' w' g', St g' w' a' env' mem' fr → Goes (clm g a env mem) g w (clm g' a' env' mem') g' w' → Q .normal a' w') : (Code.region id ops true).wp P Q a w := by
  obtain ⟨eT, mT, t1, t2, t3, t4, t5, t6, t7⟩ := text_of rs 0 env mem env' mem' hx
  have hl : rs.length = ops.size := by have := (convInsts_get hc).1; simpa using this
  have S := static_of hl hd
  have T : Text Φ rs wl sx eT mT := ⟨t5, fun k r hk hw => t6 k r hk (by rw [Nat.zero_add]; exact hw), fun k r hk l hl => t7 k r hk l (by rw [Nat.zero_add]; exact hl)⟩
  refine wp_region_any hm ?_
  have hs0 : ∀ j, ¬ listedE ops.size (Array.replicate ops.size false) j := by
    rintro j ⟨h1, h2⟩
    simp [Array.getD_eq_getD_getElem?, h1] at h2
  refine draw_any (g0 := g) (w0 := w) (c0 := clm g a env mem) hC hmac hc (Nat.le_refl _) S T (fun a' w' g' s' G' => K a' w' g' (by rw [← t3, ← t4]; exact s') (by rw [← t3, ← t4]; exact G')) ops.size _ a { w with drawn := w.drawn + 1 } g env mem (by simp) (fun j i _ hj => absurd hj (hs0 j)) (fun k _ hk => absurd hk (hs0 k)) ?_ ⟨by rw [t1], fun t k hk hiff => ?_, fun k hk hiff => ?_⟩ ?_ ?_
  · refine Nat.le_trans (List.length_filter_le _ _) (by simp)
  · have : (eT k).getD t .junk = (eT 0).getD t .junk := text_same T k 0 (by omega) hk fun j r _ hjk hj hw => hs0 j ((hiff j r hj hw).2 hjk)
    rw [this, t1]
  · have : mT k = mT 0 := text_mem T k 0 (by omega) hk fun j _ hjk hjw => hs0 j ((hiff j hjw (by omega)).2 hjk)
    rw [this, t2]
  · exact ⟨h.inv.grow (w' := { w with drawn := w.drawn + 1 }) (g' := g) (Nat.le_refl _) rfl rfl (fun _ _ _ q => q) (fun _ _ => ⟨rfl, fun _ => rfl⟩) h.inv.persOk, h.defers⟩
  · exact ⟨⟨rfl, rfl, rfl, Nat.le_refl _, fun _ _ _ q => q, List.prefix_refl _, fun _ _ _ => ⟨rfl, fun _ => rfl⟩⟩, fun b hb => .inl hb⟩
 end
end Go.Eng
 end

 section
set_option linter.unusedVariables false
set_option linter.unusedSimpArgs false
namespace Go.Eng

def dep (ops : Array Oper) (j i : Nat) : Bool := match ops[j]? with
  | some o => o.after.toList.any fun e => Region.binds .any e && e.on == i
  | none => false
theorem dep_of {ops : Array Oper} {j i : Nat} (h : dep ops j i = true) : ∃ o e, ops[j]? = some o ∧ e ∈ o.after ∧ Region.binds .any e = true ∧ e.on = i := by
  unfold dep at h
  split at h
  · rename_i o ho
    rw [List.any_eq_true] at h
    obtain ⟨e, he, h2⟩ := h
    simp only [Bool.and_eq_true, beq_iff_eq] at h2
    exact ⟨o, e, ho, Array.mem_toList_iff.1 he, h2.1, h2.2⟩
  · cases h

def tailForm (o o1 o2 o3 o4 o5 : Oper) : Bool :=
  match o.dst, o1.dst, o3.dst, o4.dst with
  | some d, some d1, some d3, some d4 => (match o1.op, o2.op, o3.op, o4.op, o5.op with
    | .indexAddr _ _ ix, .store _ _ x, .nilCheck x3, .fieldAddr _ x4 _, .store _ x5 y5 =>
      o3.guard.isNone && o4.guard.isNone && o5.guard.isNone && o5.dst.isNone && isTmp x4 d3 && isTmp x5 d4 && isTmp y5 d && d != d1 && d != d3 && d != d4 && d1 != d3 && d1 != d4 && d3 != d4 &&
        notTmp x3 d && notTmp x3 d1 && notTmp ix d3 && notTmp ix d4 && notTmp x d3 && notTmp x d4
    | _, _, _, _, _ => false)
  | _, _, _, _ => false
def macTail (ops : Array Oper) (m : Nat) : Bool :=
  (match ops[m]?, ops[m + 1]?, ops[m + 2]?, ops[m + 3]?, ops[m + 4]?, ops[m + 5]? with
  | some o, some o1, some o2, some o3, some o4, some o5 => tailForm o o1 o2 o3 o4 o5
  | _, _, _, _, _, _ => false) &&
  decide (ops.size = m + 6) && dep ops (m + 2) (m + 1) && dep ops (m + 4) (m + 3) && dep ops (m + 5) (m + 4) && befB (masks ops.toList []) m (m + 1) && befB (masks ops.toList []) m (m + 3) &&
  ((List.range m).all fun j => befB (masks ops.toList []) j m) &&
  (ops.toList.zipIdx.all fun (o, k) => o.after.toList.all fun e => !Region.binds .any e || !decide (m + 3 ≤ k) || decide (e.on ≤ m) || decide (m + 3 ≤ e.on))

structure TailOk (ops : Array Oper) (m : Nat) (o o1 o2 o3 o4 o5 : Oper) (d d1 d3 d4 f : Nat) (sT t5 : TypeId) (x3 : Operand) : Prop where
  i0 : ops[m]? = some o
  i1 : ops[m + 1]? = some o1
  i2 : ops[m + 2]? = some o2
  i3 : ops[m + 3]? = some o3
  i4 : ops[m + 4]? = some o4
  i5 : ops[m + 5]? = some o5
  hd : o.dst = some d
  hd1 : o1.dst = some d1
  h3 : o3.op = .nilCheck x3
  hd3 : o3.dst = some d3
  g3 : o3.guard = none
  h4 : o4.op = .fieldAddr sT (.tmp d3) f
  hd4 : o4.dst = some d4
  g4 : o4.guard = none
  h5 : o5.op = .store t5 (.tmp d4) (.tmp d)
  hd5 : o5.dst = none
  g5 : o5.guard = none
  n1 : d ≠ d1
  n2 : d ≠ d3
  n3 : d ≠ d4
  n4 : d1 ≠ d3
  n5 : d1 ≠ d4
  n6 : d3 ≠ d4
  nx3 : notTmp x3 d = true ∧ notTmp x3 d1 = true
  nix : ∀ t y ix, o1.op = .indexAddr t y ix → notTmp ix d3 = true ∧ notTmp ix d4 = true
  nx : ∀ t y x, o2.op = .store t y x → notTmp x d3 = true ∧ notTmp x d4 = true
  hn : ops.size = m + 6
  dep2 : dep ops (m + 2) (m + 1) = true
  dep4 : dep ops (m + 4) (m + 3) = true
  dep5 : dep ops (m + 5) (m + 4) = true
  anc1 : Anc ops (m + 1) m
  anc3 : Anc ops (m + 3) m
  anc0 : ∀ j, j < m → Anc ops m j
  back : ∀ (k : Nat) o e, ops[k]? = some o → e ∈ o.after → Region.binds .any e = true → m + 3 ≤ k → e.on ≤ m ∨ m + 3 ≤ e.on

theorem tail_of {ops : Array Oper} {m : Nat} (h : macTail ops m = true) : ∃ o o1 o2 o3 o4 o5 d d1 d3 d4 f sT t5 x3, TailOk ops m o o1 o2 o3 o4 o5 d d1 d3 d4 f sT t5 x3 := by
  have hm : ∀ j i, befB (masks ops.toList []) i j = true → Anc ops j i := fun j i hb =>
    masks_anc ops.toList [] (fun j => by simp) (fun k i h => by simp [List.getD_eq_getElem?_getD] at h) j i hb
  unfold macTail at h
  simp only [Bool.and_eq_true, decide_eq_true_eq] at h
  obtain ⟨⟨⟨⟨⟨⟨⟨⟨hf, hn⟩, e2⟩, e4⟩, e5⟩, b1⟩, b3⟩, b0⟩, bk⟩ := h
  split at hf
  rotate_left
  · cases hf
  rename_i o o1 o2 o3 o4 o5 i0 i1 i2 i3 i4 i5
  unfold tailForm at hf
  split at hf
  rotate_left
  · cases hf
  rename_i d d1 d3 d4 hd hd1 hd3 hd4
  split at hf
  rotate_left
  · cases hf
  rename_i q1 q2 ix q3 q4 x x3 sT x4 f t5 x5 y5 p1 p2 p3 p4 p5
  simp only [Bool.and_eq_true, Option.isNone_iff_eq_none, bne_iff_ne, ne_eq] at hf
  obtain ⟨⟨⟨⟨⟨⟨⟨⟨⟨⟨⟨⟨⟨⟨⟨⟨⟨⟨g3, g4⟩, g5⟩, hd5⟩, t4⟩, t5'⟩, t6⟩, n1⟩, n2⟩, n3⟩, n4⟩, n5⟩, n6⟩, a1⟩, a2⟩, a3⟩, a4⟩, a5⟩, a6⟩ := hf
  have r4 := eval_isTmp t4
  have r5 := eval_isTmp t5'
  have r6 := eval_isTmp t6
  subst r4 r5 r6
  refine ⟨o, o1, o2, o3, o4, o5, d, d1, d3, d4, f, sT, t5, x3, i0, i1, i2, i3, i4, i5, hd, hd1, p3, hd3, g3, p4, hd4, g4, p5, hd5, g5, n1, n2, n3, n4, n5, n6, ⟨a1, a2⟩, fun t y ix' h' => ?_, fun t y x' h' => ?_, hn, e2, e4, e5, hm _ _ b1, hm _ _ b3, fun j hj => hm _ _ ?_, fun k o' e ho he hb hk => ?_⟩
  · rw [p1] at h'; cases h'; exact ⟨a3, a4⟩
  · rw [p2] at h'; cases h'; exact ⟨a5, a6⟩
  · rw [List.all_eq_true] at b0; exact b0 j (List.mem_range.2 hj)
  · have := all_zipIdx bk (i := k) (x := o') (by simpa using ho)
    rw [List.all_eq_true] at this
    have := this e (Array.mem_toList_iff.2 he)
    simp only [hb, hk, Bool.or_eq_true, decide_eq_true_eq, decide_true, Bool.not_true, Bool.false_eq_true, false_or] at this
    exact this

 section
variable {P : Program} {nz : List Nat} {nk : Nat → List Nat} {g g' : Gh} {w w' : World} {mem mem' : Mem} {fr : List Nat} {env env' : Env} {a : Act} {Φ : Oracle}
set_option maxHeartbeats 2000000 in
theorem draw_tail (hC : CallOk P Φ) {tk : Nat → List Bool} {mt : Nat} {ops : Array Oper} (hT : macTail ops mt = true) {rs : List RInst} {wl : List Nat} {sx : List (Nat × List Nat)} {eT : Nat → Env} {mT : Nat → Mem} (hc : convInsts P nk tk (some mt) ops ops.toList 0 = some rs) (S : Static ops rs wl sx mt) (T : Text Φ rs wl sx eT mT)
    {Q : Exit → Act → World → Prop} {g0 : Gh} {w0 : World} {c0 : List Nat}
    (K : ∀ a' w' g', St g' w' a' (eT rs.length) (mT rs.length) fr → Goes c0 g0 w0 (clm g' a' (eT rs.length) (mT rs.length)) g' w' → Q .normal a' w') :
    ∀ (fuel : Nat) (listed : Array Bool) (a : Act) (w : World) (g : Gh) (e : Env) (m : Mem), listed.size = ops.size → (∀ j i, Anc ops j i → listedE ops.size listed j → listedE ops.size listed i) → ¬ listedE ops.size listed mt →
      ((List.range ops.size).filter fun i => !listed.getD i true).length ≤ fuel → At rs wl eT mT (listedE ops.size listed) e m → St g w a e m fr → Goes c0 g0 w0 (clm g a e m) g w → wpAny P .any ops Q fuel listed a w := by
  -- nobody is ready: all have come up
  have done : ∀ (listed : Array Bool), listed.size = ops.size → Region.ready .any ops listed = [] → ∀ n, n ≤ ops.size → ∀ j, j < n → listedE ops.size listed j := by
    intro listed hsz hr n
    induction n with
    | zero => intro _ j hj; omega
    | succ n ih =>
      intro hn j hj
      by_cases hjn : j < n
      · exact ih (by omega) j hjn
      · have hje : j = n := by omega
        subst hje
        by_cases hl : listed.getD j true = false
        · exfalso
          have hm : j ∈ Region.ready .any ops listed := by
            rw [mem_ready]
            refine ⟨hl, ops[j]'(by omega), by simp [show j < ops.size by omega], fun e he hb => ?_⟩
            have := S.edge j _ e (by simp [show j < ops.size by omega]) he hb
            exact (ih (by omega) e.on this).2
          rw [hr] at hm; cases hm
        · refine ⟨by omega, ?_⟩
          have hlt : j < listed.size := by omega
          simp only [Array.getD_eq_getD_getElem?, Array.getElem?_eq_getElem hlt, Option.getD_some] at hl ⊢
          cases h : listed[j] <;> simp [h] at hl ⊢
  have fin : ∀ (listed : Array Bool) (a : Act) (w : World) (g : Gh) (e : Env) (m : Mem), listed.size = ops.size → Region.ready .any ops listed = [] → At rs wl eT mT (listedE ops.size listed) e m → St g w a e m fr → Goes c0 g0 w0 (clm g a e m) g w → Q .normal a w := by
    intro listed a w g e m hsz hr A hst hgo
    have hall := done listed hsz hr ops.size (Nat.le_refl _)
    have hm : m = mT rs.length := A.mem rs.length (Nat.le_refl _) fun j _ hj => ⟨fun _ => hj, fun _ => hall j (by rw [← S.len]; exact hj)⟩
    have he : e = eT rs.length := by
      have hl : e.length = (eT rs.length).length := by rw [A.len, text_len T rs.length (Nat.le_refl _)]
      apply List.ext_getElem hl
      intro t h1 h2
      have := A.env t rs.length (Nat.le_refl _) fun j r hj _ => ⟨fun _ => lt_of_get hj, fun _ => hall j (by rw [← S.len]; exact lt_of_get hj)⟩
      simpa [List.getD_eq_getElem?_getD, List.getElem?_eq_getElem h1, List.getElem?_eq_getElem h2] using this
    subst hm; subst he
    exact K a w g hst hgo
  -- one more is listed
  have step_cl : ∀ (listed : Array Bool) (i : Nat), listed.size = ops.size → i < ops.size → (∀ j k, Anc ops j k → listedE ops.size listed j → listedE ops.size listed k) → (∀ k, Anc ops i k → listedE ops.size listed k) →
      ∀ j k, Anc ops j k → listedE ops.size (listed.setIfInBounds i true) j → listedE ops.size (listed.setIfInBounds i true) k := by
    intro listed i hsz hilt hcl hi j k hA hj
    rw [listed_set hsz hilt] at hj ⊢
    rcases hj with hj | hj
    · exact .inl (hcl j k hA hj)
    · subst hj; exact .inl (hi k hA)
  have step_fewer : ∀ (listed : Array Bool) (i : Nat), listed.size = ops.size → i < ops.size → listed.getD i true = false → ((List.range ops.size).filter fun j => !(listed.setIfInBounds i true).getD j true).length < ((List.range ops.size).filter fun j => !listed.getD j true).length := by
    intro listed i hsz hilt hunl
    refine filter_lt (x := i) (fun j _ hj => ?_) (List.mem_range.2 hilt) (by rw [hunl]; rfl) ?_
    · simp only [Array.getD_eq_getD_getElem?, Array.getElem?_setIfInBounds] at hj ⊢
      by_cases hij : i = j
      · subst hij; simp [show i < listed.size by omega] at hj
      · simpa [hij] using hj
    · simp [Array.getD_eq_getD_getElem?, Array.getElem?_setIfInBounds, show i < listed.size by omega]
  have unl : ∀ (listed : Array Bool) (i : Nat), listed.size = ops.size → i < ops.size → (listed.getD i true = false ↔ ¬ listedE ops.size listed i) := by
    intro listed i hsz hilt
    have hlt : i < listed.size := by omega
    unfold listedE
    simp only [Array.getD_eq_getD_getElem?, Array.getElem?_eq_getElem hlt, Option.getD_some]
    cases listed[i] <;> simp [hilt]
  intro fuel
  induction fuel using Nat.strongRecOn with
  | _ fuel ihs =>
  cases fuel with
  | zero =>
    intro listed a w g e m hsz hcl hmE hcount A hst hgo
    have hr : Region.ready .any ops listed = [] := by
      unfold Region.ready
      have : (List.range ops.size).filter (fun i => !listed.getD i true) = [] := List.length_eq_zero_iff.1 (by omega)
      rw [List.filter_eq_nil_iff] at this ⊢
      intro i hi
      have := this i hi
      simp only [Bool.and_eq_true, not_and]
      intro h; exact absurd h this
    exact ⟨hr, fin listed a w g e m hsz hr A hst hgo⟩
  | succ fuel =>
    have ih := ihs fuel (Nat.lt_succ_self _)
    intro listed a w g e m hsz hcl hmE hcount A hst hgo
    refine ⟨fun hr => fin listed a w g e m hsz hr A hst hgo, fun i hi => ?_⟩
    obtain ⟨hunl, o, ho, hedges⟩ := mem_ready.1 hi
    have hilt : i < ops.size := (Array.getElem?_eq_some_iff.1 ho).1
    have hni : ¬ listedE ops.size listed i := (unl listed i hsz hilt).1 hunl
    obtain ⟨hrl, hget⟩ := convInsts_get hc
    obtain ⟨r, hr, hconv⟩ := hget i o (by simpa using ho)
    rw [Nat.zero_add] at hconv
    have hdirect : ∀ j, (∃ o' e', ops[i]? = some o' ∧ e' ∈ o'.after ∧ Region.binds .any e' = true ∧ e'.on = j) → listedE ops.size listed j := by
      rintro j ⟨o', e', h1, h2, h3, rfl⟩
      rw [ho] at h1; cases h1
      exact ⟨by have := S.edge i o e' ho h2 h3; omega, hedges e' h2 h3⟩
    have hanc : ∀ j k, Anc ops j k → j = i → listedE ops.size listed k := by
      intro j k hA
      induction hA with
      | edge ho' he hb hi' => intro hj; subst hj; exact hdirect _ ⟨_, _, ho', he, hb, hi'⟩
      | step h1 h2 ih1 ih2 => intro hj; exact hcl _ _ h2 (ih1 hj)
    obtain ⟨o0, o1, o2, o3, o4, o5, d, d1, d3, d4, f, sT, t5, x3, TO⟩ := tail_of hT
    have hn6 := TO.hn
    have hup : ∀ j, mt < j → j < ops.size → Anc ops j mt := by
      intro j h1 h2
      have e3 := TO.anc3
      have e1 := TO.anc1
      rcases (show j = mt + 1 ∨ j = mt + 2 ∨ j = mt + 3 ∨ j = mt + 4 ∨ j = mt + 5 by omega) with rfl | rfl | rfl | rfl | rfl
      · exact e1
      · obtain ⟨_, e, q1, q2, q3, q4⟩ := dep_of TO.dep2; exact .step (.edge q1 q2 q3 q4) e1
      · exact e3
      · obtain ⟨_, e, q1, q2, q3, q4⟩ := dep_of TO.dep4; exact .step (.edge q1 q2 q3 q4) e3
      · obtain ⟨_, e, q1, q2, q3, q4⟩ := dep_of TO.dep4
        obtain ⟨_, e', p1, p2, p3, p4⟩ := dep_of TO.dep5
        exact .step (.edge p1 p2 p3 p4) (.step (.edge q1 q2 q3 q4) e3)
    have hle : i ≤ mt := by
      refine Classical.byContradiction fun hgt => ?_
      exact hmE (hanc _ _ (hup i (by omega) hilt) rfl)
    by_cases hmi : i = mt
    · subst hmi
      have hE : ∀ j, j < ops.size → (listedE ops.size listed j ↔ j < i) := by
        intro j hj
        constructor
        · intro hl
          refine Classical.byContradiction fun hge => ?_
          rcases Nat.eq_or_lt_of_le (show i ≤ j by omega) with h6 | h6
          · subst h6; exact hni hl
          · exact hni (hcl _ _ (hup j h6 hj) hl)
        · intro hlt; exact hanc i j (TO.anc0 j hlt) rfl
      have hil : i < rs.length := by rw [S.len]; exact hilt
      have hsl := S.len
      have hee : e = eT i := by
        have hl : e.length = (eT i).length := by rw [A.len, text_len T i (by omega)]
        apply List.ext_getElem hl
        intro t h1 h2
        have := A.env t i (by omega) fun j rj hj _ => hE j (by rw [← S.len]; exact lt_of_get hj)
        simpa [List.getD_eq_getElem?_getD, List.getElem?_eq_getElem h1, List.getElem?_eq_getElem h2] using this
      have hmm : m = mT i := A.mem i (by omega) fun j _ hj => hE j (by rw [← S.len]; exact hj)
      subst hee; subst hmm
      have hc1 : convMac P (nk i) (tk i) ops i = some r := by simpa [convAt] using hconv
      obtain ⟨r1, hr1, hconv1⟩ := hget (i + 1) o1 (by simpa using TO.i1)
      obtain ⟨r2, hr2, hconv2⟩ := hget (i + 2) o2 (by simpa using TO.i2)
      obtain ⟨r3, hr3, hconv3⟩ := hget (i + 3) o3 (by simpa using TO.i3)
      obtain ⟨r4, hr4, hconv4⟩ := hget (i + 4) o4 (by simpa using TO.i4)
      obtain ⟨r5, hr5, hconv5⟩ := hget (i + 5) o5 (by simpa using TO.i5)
      rw [Nat.zero_add] at hconv1 hconv2 hconv3 hconv4 hconv5
      have c1 : convInst P (nk (i + 1)) (tk (i + 1)) ops o1 = some r1 := convI_run (by simpa [convAt] using hconv1) (convMac_guard hc1 (by simpa using TO.i1)) (T.step (i + 1) r1 hr1)
      have c3 : convInst P (nk (i + 3)) (tk (i + 3)) ops o3 = some r3 := convI_run (by simpa [convAt] using hconv3) (TO.g3) (T.step (i + 3) r3 hr3)
      have c4 : convInst P (nk (i + 4)) (tk (i + 4)) ops o4 = some r4 := convI_run (by simpa [convAt] using hconv4) (TO.g4) (T.step (i + 4) r4 hr4)
      have c5 : convInst P (nk (i + 5)) (tk (i + 5)) ops o5 = some r5 := convI_run (by simpa [convAt] using hconv5) (TO.g5) (T.step (i + 5) r5 hr5)
      have c2 : ∃ d1, o1.dst = some d1 ∧ r2 = ⟨none, .chk, [.t d1 false], none⟩ := by
        refine ⟨d1, TO.hd1, ?_⟩
        simp only [convAt, if_neg (show ¬ (i + 2 = i) by omega), if_true, TO.i1, TO.hd1, Option.some.injEq] at hconv2
        exact hconv2.symm
      have hcnt : 6 ≤ ((List.range ops.size).filter fun j => !listed.getD j true).length := by
        have hr6 : List.range ops.size = List.range' 0 i ++ List.range' (0 + i) 6 := by
          rw [List.range_eq_range', hn6, List.range'_append_1]
        rw [hr6, List.filter_append, List.length_append]
        have : ((List.range' (0 + i) 6).filter fun j => !listed.getD j true) = List.range' (0 + i) 6 := by
          rw [List.filter_eq_self]
          intro j hj
          rw [List.mem_range'_1] at hj
          have hjn : j < ops.size := by omega
          have := (unl listed j hsz hjn).2 (by rw [hE j hjn]; omega)
          rw [this]; rfl
        rw [this, List.length_range']; omega
      refine tail_sound hC TO.i0 TO.i1 TO.i2 TO.i3 TO.i4 TO.i5 hc1 c1 c2 c3 c4 c5 TO.hd TO.hd1 TO.h3 TO.hd3 TO.g3 TO.h4 TO.hd4 TO.g4 TO.h5 TO.hd5 TO.g5 TO.n1 TO.n2 TO.n3 TO.n4 TO.n5 TO.n6 TO.nx3 TO.nix TO.nx (T.step i r hr) (T.step (i + 1) r1 hr1) (T.step (i + 2) r2 hr2) (T.step (i + 3) r3 hr3) (T.step (i + 4) r4 hr4) (T.step (i + 5) r5 hr5) hst (fun a' w' g' s' G' => ?_) hn6 (fun k h1 h2 h3 => ?_) (fun k o' e' h1 h2 h3 => ⟨S.edge k o' e' h1 h2 h3, TO.back k o' e' h1 h2 h3⟩) (by omega) (by simpa using hsz) (fun k hk => ?_)
      · have hlast : i + 5 + 1 = rs.length := by rw [S.len, hn6]
        rw [hlast] at s' G'
        exact K a' w' g' s' (hgo.trans G')
      · rcases (show k = i + 2 ∨ k = i + 4 ∨ k = i + 5 by omega) with rfl | rfl | rfl
        · exact dep_of TO.dep2
        · exact dep_of TO.dep4
        · exact dep_of TO.dep5
      · have h1 := listed_set (listed := listed) hsz hilt (j := k)
        have h2 := hE k hk
        unfold listedE at h1 h2
        constructor
        · intro hq
          have := h1.1 ⟨hk, hq⟩
          rcases this with h3 | h3
          · have := h2.1 h3; omega
          · omega
        · intro hq
          by_cases hki : k = i
          · exact (h1.2 (.inr hki)).2
          · exact (h1.2 (.inl (h2.2 (by omega)))).2
    · have hlt : i < mt := by omega
      obtain ⟨e', m', hs, A'⟩ := at_step S T (hcl) A hlt hr hni (fun j hA => hanc i j hA rfl)
      have hconv' : convI P (nk i) (tk i) ops o = some r := by
        simpa only [convAt, if_neg hmi, if_neg (show ¬ (i = mt + 2) by omega)] using hconv
      refine inst_sound hC hconv' hs hst ho fun a' w' g' s' G' => ?_
      refine ih (listed.setIfInBounds i true) a' w' g' e' m' (by simpa using hsz) (step_cl listed i hsz hilt hcl fun k hA => hanc i k hA rfl) (fun hl => ?_) ?_ ?_ s' (hgo.trans G')
      · rw [listed_set hsz hilt] at hl
        rcases hl with hl | hl
        · exact hmE hl
        · omega
      · have := step_fewer listed i hsz hilt hunl
        omega
      · refine ⟨A'.len, fun t k hk hiff => A'.env t k hk fun j rj hj hw => ?_, fun k hk hiff => A'.mem k hk fun j hj hjl => ?_⟩
        · rw [← hiff j rj hj hw]; exact (listed_set hsz hilt).symm
        · rw [← hiff j hj hjl]; exact (listed_set hsz hilt).symm

/-- **A region that draws its order.** -/
theorem draw_sound_tail (hC : CallOk P Φ) (hm : P.follows .mixedOrders = true) {tk : Nat → List Bool} {mt : Nat} {ops : Array Oper} (hT : macTail ops mt = true) {id : Nat} {rs : List RInst} {wl : List Nat} {sx : List (Nat × List Nat)} {Q : Exit → Act → World → Prop} (hc : convInsts P nk tk (some mt) ops ops.toList 0 = some rs) (hd : drawOk ops rs wl sx mt = true)
    (hx : execDraw Φ wl sx rs rs 0 env mem = some (env', mem')) (h : St g w a env mem fr)
    (K : ∀ a' w' g', St g' w' a' env' mem' fr → Goes (clm g a env mem) g w (clm g' a' env' mem') g' w' → Q .normal a' w') : (Code.region id ops true).wp P Q a w := by
  obtain ⟨eT, mT, t1, t2, t3, t4, t5, t6, t7⟩ := text_of rs 0 env mem env' mem' hx
  have hl : rs.length = ops.size := by have := (convInsts_get hc).1; simpa using this
  have S := static_of hl hd
  have T : Text Φ rs wl sx eT mT := ⟨t5, fun k r hk hw => t6 k r hk (by rw [Nat.zero_add]; exact hw), fun k r hk l hl => t7 k r hk l (by rw [Nat.zero_add]; exact hl)⟩
  refine wp_region_any hm ?_
  have hs0 : ∀ j, ¬ listedE ops.size (Array.replicate ops.size false) j := by
    rintro j ⟨h1, h2⟩
    simp [Array.getD_eq_getD_getElem?, h1] at h2
  refine draw_tail (g0 := g) (w0 := w) (c0 := clm g a env mem) hC hT hc S T (fun a' w' g' s' G' => K a' w' g' (by rw [← t3, ← t4]; exact s') (by rw [← t3, ← t4]; exact G')) ops.size _ a { w with drawn := w.drawn + 1 } g env mem (by simp) (fun j i _ hj => absurd hj (hs0 j)) (hs0 mt) ?_ ⟨by rw [t1], fun t k hk hiff => ?_, fun k hk hiff => ?_⟩ ?_ ?_
  · refine Nat.le_trans (List.length_filter_le _ _) (by simp)
  · have : (eT k).getD t .junk = (eT 0).getD t .junk := text_same T k 0 (by omega) hk fun j r _ hjk hj hw => hs0 j ((hiff j r hj hw).2 hjk)
    rw [this, t1]
  · have : mT k = mT 0 := text_mem T k 0 (by omega) hk fun j _ hjk hjw => hs0 j ((hiff j hjw (by omega)).2 hjk)
    rw [this, t2]
  · exact ⟨h.inv.grow (w' := { w with drawn := w.drawn + 1 }) (g' := g) (Nat.le_refl _) rfl rfl (fun _ _ _ q => q) (fun _ _ => ⟨rfl, fun _ => rfl⟩) h.inv.persOk, h.defers⟩
  · exact ⟨⟨rfl, rfl, rfl, Nat.le_refl _, fun _ _ _ q => q, List.prefix_refl _, fun _ _ _ => ⟨rfl, fun _ => rfl⟩⟩, fun b hb => .inl hb⟩

def tailOk (ops : Array Oper) : Option Nat → Bool
  | some m => macTail ops m
  | none => false
 end
end Go.Eng
 end
