/- append of a variable's room, its address, and the store into it: three instructions as one.
   One instruction in its region; a region in the text's order.
   The last six of a region: append's macro, and the store of the row into a field, unordered beside each other.
   The tail: two chains beside each other.
   The tail of a region behind append's macro, in every order. -/
import Derived.Test.YtlgpcmklpknmcaaDoorEd
import Derived.Orders
 section
set_option linter.unusedVariables false
set_option linter.unusedSimpArgs false
namespace Go.Eng
 section
variable {P : Program} {g : Gh} {w : World} {vs : List Value} {ds : List AV} {mem mem' : Mem} {fr : List Nat} {d : AV}

theorem run_indexAt_some {t e : TypeId} (hu : P.underlying t = some (.slice e)) (hk : known P e = true) {A : Addr} {len c : Nat} {k : IntKind} {n : Int} (h0 : 0 ≤ n) (h1 : n < (len : Int)) :
    (Instr.indexAt t (.slice (some A) len c) (.int k n)).run P w = .ok (.pointer (some (A.add (n.toNat * szOf P e)))) w := by
  simp only [Instr.indexAt, Sem.run_bind, run_asIntOf, run_und hu, Result.andThen_ok, Sem.run_pure, if_pos (And.intro h0 h1), run_sizeOf hk]

theorem run_storeTail {t : TypeId} (hk : known P t = true) {b off : Nat} {us : List Value} {e : TypeId} {fz : Nat × Nat} (ho : w.heap[b]? = some (.cells ⟨us⟩ e fz)) {v : Value}
    (hsz : v.cells.toList.length = szOf P t) (hf : ∀ o, off ≤ o → o < off + szOf P t → ¬ (fz.1 ≤ o ∧ o < fz.2)) (hle : off + szOf P t ≤ us.length) (h1 : ∀ u ∈ v.cells.toList, oneCell u = true) :
    (storeVar t ⟨b, off, none⟩ v).run P w = .ok () (World.setBlk w b (.cells ⟨us.take off ++ v.cells.toList ++ us.drop (off + v.cells.toList.length)⟩ e fz)) := by
  unfold storeVar
  have : ¬ (v.cells.size ≠ szOf P t) := by simpa using hsz
  simp only [Sem.run_bind, run_sizeOf hk, Result.andThen_ok, Sem.run_ite, if_neg this]
  have := run_storeCells (P := P) (e := e) (fz := fz) (b := b) (off := off) v.cells.toList 0 us w ho (fun o a b => hf o (by omega) (by rw [hsz] at b; omega)) (by rw [hsz]; omega) h1
  simpa using this

theorem take_swap (C a b : List Value) (k : Nat) (hk : k ≤ C.length) (hl : a.length = b.length) (hr : k + a.length ≤ C.length) :
    (C.take k ++ a ++ C.drop (k + a.length)).take k ++ b ++ (C.take k ++ a ++ C.drop (k + a.length)).drop (k + b.length) = C.take k ++ b ++ C.drop (k + b.length) := by
  have hlen : (C.take k).length = k := by rw [List.length_take]; omega
  have e1 : (C.take k ++ a ++ C.drop (k + a.length)).take k = C.take k := by
    rw [List.append_assoc, List.take_append_of_le_length (by omega), List.take_of_length_le (by omega)]
  have h2 : (C.take k ++ a).length = k + b.length := by rw [List.length_append]; omega
  have e2 : (C.take k ++ a ++ C.drop (k + a.length)).drop (k + b.length) = C.drop (k + b.length) := by
    rw [List.drop_append_of_le_length (by omega), List.drop_of_length_le (by omega), List.nil_append, hl]
  rw [e1, e2]

theorem appendZ_core {s zs x : Value} {t u e : TypeId} {ag : Bool} (hk : known P e = true) (hzo : zeroOk P e = true) (ht : P.underlying t = some (.slice e)) {e' : TypeId} (hu : P.underlying u = some (.slice e')) {z1 : Nat} {xs : List AV} {y xd : AV} {q : Bool}
    (h : Inv g w [s, x] [.sl true z1 xs, xd] mem fr) (rz : Rep g.pers g.bl zs (.sl q (szOf P e) [y])) (hz1 : z1 = szOf P e ∨ z1 = 0) (hx : okElem (szOf P e) ag xd = true)
    (hz0 : 0 < szOf P e) (hfit : (2 * (xs.length + 1) + 1024) * bytesOf P e ≤ 140737488355328) (hsm : xs.length + 1 ≤ 4611686018427387904) (ty : TypeId) {k : IntKind} :
    ∃ v w1 A w2, (Builtin.append_ #[t, u] ty #[s, zs]).run P w = .ok v w1 ∧ (∀ W, (Instr.indexAt t v (.int k (xs.length : Int))).run P W = .ok (.pointer (some A)) W) ∧ (∃ R, w2 = World.setBlk w1 A.block R ∧ (∃ n c ad, v = .slice (some ad) n c ∧ ad.block = A.block) ∧ ∀ W : World, W.heap[A.block]? = w1.heap[A.block]? → (storeVar e A x).run P W = .ok () (World.setBlk W A.block R)) ∧
      Done g w [s, x] [.sl true z1 xs, xd] mem fr (.sl true (szOf P e) (xs ++ [xd.plain])) mem v w2 := by
  obtain ⟨i, z, hi, his, hib, hiz, hzs⟩ := info_all hk hzo
  have r1 : Rep g.pers g.bl s (.sl true z1 xs) := h.envRep.2 0 _ _ rfl rfl
  have rx : Rep g.pers g.bl x xd := h.envRep.2 1 _ _ rfl rfl
  obtain ⟨x1, x2, x3, x4⟩ := elem_cells rx hx
  have hnx : x.cells.toList.length = szOf P e := by simpa using x4
  obtain ⟨news, a1, a2, a3⟩ := source_sl (P := P) (w := w) hu h.persOk rz
  have hn0 : news.length = 1 * szOf P e := by have := a1.cnt; simpa using this
  have hs' : Source P w u i.size zs 1 news := by rw [his]; exact a1
  have hfx : flat [xd.plain] = xd.plain.cells := by simp [flat]
  obtain ⟨A, c, us, hv, hle, hzx, hus, hA, hsp, h00, h11, h22, hcell⟩ := rep_sl r1
  subst hv
  cases A with
  | none =>
    have hc0 := h00 rfl
    subst hc0
    have hx0 : xs = [] := List.length_eq_zero_iff.1 (by omega)
    subst hx0
    have hus0 : us = [] := by
      rcases hA with h | ⟨ad, h, _⟩
      · exact h
      · cases h
    have hrun := run_append_grow' (P := P) (w := w) (t := t) (u := u) (ty := ty) (z := z) ht hi hiz hs' (base := none) (sLen := 0) (sCap := 0) (olds := []) (by simp [Builtin.firstCells]) (by omega) (by omega)
      (growslice_fits (by omega) (by rw [hib]; simp only [List.length_nil, Nat.zero_add] at hfit ⊢; exact Nat.le_trans (Nat.mul_le_mul_right _ (by omega)) hfit))
    have hge := grownCap_ge w (0 + 1) 0 e
    generalize hcap : grownCap w (0 + 1) 0 e = cap at hrun hge
    generalize hZ : (Builtin.zeroCells z.cells (cap - (0 + 1))) = Z at hrun
    have hZl : Z.toList.length = (cap - 1) * szOf P e := by rw [← hZ]; simp [size_zeroCells, hzs]
    have hheap : (w.drew.alloc (.cells (⟨[]⟩ ++ ⟨news⟩ ++ Z) e)).heap = w.heap.push (.cells ⟨news ++ Z.toList⟩ e (0, 0)) := by
      show w.heap.push _ = _; congr 2; apply Array.ext'; simp
    have hget : (w.drew.alloc (.cells (⟨[]⟩ ++ ⟨news⟩ ++ Z) e)).heap[w.heap.size]? = some (.cells ⟨news ++ Z.toList⟩ e (0, 0)) := by rw [hheap]; simp
    have hfull : (news ++ Z.toList).length = cap * szOf P e := by
      rw [List.length_append, hn0, hZl, ← Nat.add_mul]; congr 1; omega
    have hst : ∀ W : World, W.heap[w.heap.size]? = (w.drew.alloc (.cells (⟨[]⟩ ++ ⟨news⟩ ++ Z) e)).heap[w.heap.size]? → _ := fun W hW => run_storeTail (P := P) (t := e) hk (b := w.heap.size) (off := 0) (hW.trans hget) hnx (fun o _ _ => by omega) (by rw [hfull]; have := Nat.mul_le_mul_right (szOf P e) hge; omega) x2
    refine ⟨_, _, ⟨w.heap.size, 0 * szOf P e, none⟩, _, hrun, fun W => ?_, ⟨_, rfl, ⟨_, _, _, rfl, rfl⟩, fun W hW => by rw [Nat.zero_mul]; exact hst W hW⟩, ?_⟩
    · have := run_indexAt_some (P := P) (w := W) ht hk (A := ⟨w.heap.size, 0, none⟩) (len := 0 + 1) (c := cap) (k := k) (n := 0) (by omega) (by omega)
      simpa [Addr.add] using this
    · have hC : (news ++ Z.toList).take 0 ++ x.cells.toList ++ (news ++ Z.toList).drop (0 + x.cells.toList.length) = x.cells.toList ++ Z.toList := by
        simp only [List.take_zero, List.nil_append, Nat.zero_add, hnx]
        rw [List.drop_append_of_le_length (by omega), List.drop_of_length_le (by omega), List.nil_append]
      rw [hC]
      have key := h.newRow (w' := World.setBlk (w.drew.alloc (.cells (⟨[]⟩ ++ ⟨news⟩ ++ Z) e)) w.heap.size (.cells ⟨x.cells.toList ++ Z.toList⟩ e (0, 0))) (e := e) (C := x.cells.toList ++ Z.toList) (fz := (0, 0))
        (by
          show (w.drew.alloc (.cells (⟨[]⟩ ++ ⟨news⟩ ++ Z) e)).heap.setIfInBounds _ _ = _
          rw [hheap]
          apply Array.ext'
          simp) rfl rfl rfl (n := 1) (c := cap) (z := szOf P e) (xs := [xd.plain]) (by simpa using x3) rfl (by omega)
        (by rw [List.length_append, hnx, hZl]; have : szOf P e + (cap - 1) * szOf P e = (1 + (cap - 1)) * szOf P e := by rw [Nat.add_mul, Nat.one_mul]
            rw [this]; exact Nat.mul_le_mul_right _ (by omega))
        (by rw [List.take_append_of_le_length (by omega), List.take_of_length_le (by omega), hfx]; exact x1)
        (fun o _ _ => by omega)
        (by rw [List.take_append_of_le_length (by omega), List.take_of_length_le (by omega)]; exact x2) hz0
      exact ⟨_, key⟩
  | some ad =>
    have hzz : z1 = szOf P e := by
      rcases hz1 with h | h
      · exact h
      · have := h22 h; cases this
    subst hzz
    have hsp' := hsp (.inl rfl) ad rfl
    by_cases hroom : xs.length + 1 ≤ c
    · have o1 : OwnOk w g.pers (.slice (some ad) xs.length c) (.sl true (szOf P e) xs) := h.envOwn 0 _ _ rfl rfl
      obtain ⟨cells0, e0, fz0, hC0, hfit0, htail⟩ : TailAt w g.pers ad xs.length c (szOf P e) := o1 (.slice (some ad) xs.length c, .sl true (szOf P e) xs) (by simp [leaves, leaves2])
      have hC0 : w.heap[ad.block]? = some (.cells ⟨cells0.toList⟩ e0 fz0) := hC0
      have hsum : xs.length * szOf P e + szOf P e ≤ c * szOf P e := by
        have := Nat.mul_le_mul_right (szOf P e) hroom
        rw [Nat.add_mul, Nat.one_mul] at this; exact this
      have hcl : cells0.toList.length = cells0.size := by simp
      have hst := run_storeCells (P := P) (b := ad.block) (off := ad.off + xs.length * szOf P e) (e := e0) (fz := fz0) news 0 cells0.toList w hC0 (fun o a b => (htail o (by omega) (by omega)).2) (by rw [hcl]; omega) hs'.one
      have hrun := run_append_room' (P := P) (w := w) (t := t) (u := u) (ty := ty) ht hi hs' (base := some ad) hroom (by rw [his]; simp only; rw [add_none hsp']; exact hst)
      have hlt : ad.block < w.heap.size := by
        rcases Nat.lt_or_ge ad.block w.heap.size with h | h
        · exact h
        · rw [Array.getElem?_eq_none h] at hC0; cases hC0
      have hget : (World.setBlk w ad.block (.cells ⟨cells0.toList.take (ad.off + xs.length * szOf P e + 0) ++ news ++ cells0.toList.drop (ad.off + xs.length * szOf P e + 0 + news.length)⟩ e0 fz0)).heap[ad.block]? = some (.cells ⟨cells0.toList.take (ad.off + xs.length * szOf P e + 0) ++ news ++ cells0.toList.drop (ad.off + xs.length * szOf P e + 0 + news.length)⟩ e0 fz0) := by
        show (w.heap.setIfInBounds _ _)[ad.block]? = _
        simp [hlt]
      have hst2 : ∀ W : World, W.heap[ad.block]? = _ → _ := fun W hW => run_storeTail (P := P) (t := e) hk (b := ad.block) (off := ad.off + xs.length * szOf P e) (w := W) (hW.trans hget) hnx (fun o a b => (htail o (by omega) (by omega)).2)
        (by simp only [List.length_append, List.length_take, List.length_drop, hcl]; omega) x2
      refine ⟨_, _, ⟨ad.block, ad.off + xs.length * szOf P e, none⟩, _, hrun, fun W => ?_, ⟨_, rfl, ⟨_, _, _, rfl, rfl⟩, hst2⟩, ?_⟩
      · have := run_indexAt_some (P := P) (w := W) ht hk (A := ad) (len := xs.length + 1) (c := c) (k := k) (n := (xs.length : Int)) (by omega) (by omega)
        rw [this, add_none hsp']; simp
      · rw [setBlk_setBlk]
        simp only [Nat.add_zero]
        rw [take_swap cells0.toList news x.cells.toList _ (by rw [hcl]; omega) (by omega) (by rw [hcl]; omega)]
        have key := h.growRow hC0 hzx (ys := [xd.plain]) (by simpa using x3) rfl (news := x.cells.toList) (by simp [hnx]) hroom (by rw [hfx]; exact x1) x2 hz0
        exact ⟨_, key⟩
    · have hc : ∀ (j : Nat) v, us[j]? = some v → w.cell? (ad.add j) = some v := by
        intro j v hj
        rcases hA with h' | ⟨ad', h', hh⟩
        · subst h'; simp at hj
        · cases h'; rw [add_none hh.1]; exact h.persOk _ _ _ (hh.2 j v hj)
      have hold : (Builtin.firstCells i.size xs.length (.slice (some ad) xs.length c)).run P w.drew = .ok ⟨us⟩ w.drew := by
        simp only [Builtin.firstCells, his, ← hus]; exact run_loadCells (w := w.drew) fun j v hj => hc j v hj
      have hrun := run_append_grow' (P := P) (w := w) (t := t) (u := u) (ty := ty) (z := z) ht hi hiz hs' (base := some ad) (sLen := xs.length) (sCap := c) hold (by omega) (by omega)
        (growslice_fits (by omega) (by rw [hib]; exact Nat.le_trans (Nat.mul_le_mul_right _ (by omega)) hfit))
      have hge := grownCap_ge w (xs.length + 1) c e
      generalize hcap : grownCap w (xs.length + 1) c e = cap at hrun hge
      generalize hZ : (Builtin.zeroCells z.cells (cap - (xs.length + 1))) = Z at hrun
      have hZl : Z.toList.length = (cap - (xs.length + 1)) * szOf P e := by rw [← hZ]; simp [size_zeroCells, hzs]
      have hheap : (w.drew.alloc (.cells (⟨us⟩ ++ ⟨news⟩ ++ Z) e)).heap = w.heap.push (.cells ⟨us ++ news ++ Z.toList⟩ e (0, 0)) := by
        show w.heap.push _ = _; congr 2; apply Array.ext'; simp
      have hget : (w.drew.alloc (.cells (⟨us⟩ ++ ⟨news⟩ ++ Z) e)).heap[w.heap.size]? = some (.cells ⟨us ++ news ++ Z.toList⟩ e (0, 0)) := by rw [hheap]; simp
      have hcapm : (xs.length + 1) * szOf P e ≤ cap * szOf P e := Nat.mul_le_mul_right _ hge
      have hn1 : (xs.length + 1) * szOf P e = xs.length * szOf P e + szOf P e := by rw [Nat.add_mul, Nat.one_mul]
      have hst : ∀ W : World, W.heap[w.heap.size]? = _ → _ := fun W hW => run_storeTail (P := P) (t := e) hk (b := w.heap.size) (off := xs.length * szOf P e) (w := W) (hW.trans hget) hnx (fun o _ _ => by omega) (by simp only [List.length_append, hus, hn0, hZl]; omega) x2
      refine ⟨_, _, ⟨w.heap.size, xs.length * szOf P e, none⟩, _, hrun, fun W => ?_, ⟨_, rfl, ⟨_, _, _, rfl, rfl⟩, hst⟩, ?_⟩
      · have := run_indexAt_some (P := P) (w := W) ht hk (A := ⟨w.heap.size, 0, none⟩) (len := xs.length + 1) (c := cap) (k := k) (n := (xs.length : Int)) (by omega) (by omega)
        rw [this, add_none rfl]; simp
      · have hC : (us ++ news ++ Z.toList).take (xs.length * szOf P e) ++ x.cells.toList ++ (us ++ news ++ Z.toList).drop (xs.length * szOf P e + x.cells.toList.length) = us ++ x.cells.toList ++ Z.toList := by
          have e1 : (us ++ news ++ Z.toList).take (xs.length * szOf P e) = us := by
            rw [List.append_assoc, List.take_append_of_le_length (by omega), List.take_of_length_le (by omega)]
          have e2 : (us ++ news ++ Z.toList).drop (xs.length * szOf P e + x.cells.toList.length) = Z.toList := by
            have hl : (us ++ news).length = xs.length * szOf P e + x.cells.toList.length := by rw [List.length_append, hus, hn0, hnx]; omega
            rw [List.drop_append_of_le_length (by omega), List.drop_of_length_le (by omega), List.nil_append]
          rw [e1, e2]
        rw [hC]
        have hlen : (us ++ x.cells.toList).length = (xs.length + 1) * szOf P e := by rw [List.length_append, hus, hnx]; omega
        have key := h.newRow (w' := World.setBlk (w.drew.alloc (.cells (⟨us⟩ ++ ⟨news⟩ ++ Z) e)) w.heap.size (.cells ⟨us ++ x.cells.toList ++ Z.toList⟩ e (0, 0))) (e := e) (C := us ++ x.cells.toList ++ Z.toList) (fz := (0, 0))
          (by
            show (w.drew.alloc (.cells (⟨us⟩ ++ ⟨news⟩ ++ Z) e)).heap.setIfInBounds _ _ = _
            rw [hheap]
            apply Array.ext'
            simp) rfl rfl rfl (n := xs.length + 1) (c := cap) (z := szOf P e) (xs := xs ++ [xd.plain]) (fun y hy => (List.mem_append.1 hy).elim (hzx y) (fun hy => by simp at hy; subst hy; exact x3)) (by simp) (by omega)
          (by
            rw [List.length_append, hlen, hZl, ← Nat.add_mul]; exact Nat.mul_le_mul_right _ (by omega))
          (by
            rw [List.take_append_of_le_length (by omega), List.take_of_length_le (by omega), flat_append, hfx]
            have hrx : RepL g.pers [] us (flat xs) := ⟨by rw [hus, flat_len hzx], hcell⟩
            refine ⟨by simp [hrx.1, x1.1], fun j v d a b => ?_⟩
            rcases Nat.lt_or_ge j us.length with hj | hj
            · rw [List.getElem?_append_left hj] at a
              rw [List.getElem?_append_left (by rw [← hrx.1]; exact hj)] at b
              exact hcell j v d a b
            · rw [List.getElem?_append_right hj] at a
              rw [List.getElem?_append_right (by rw [← hrx.1]; exact hj), ← hrx.1] at b
              exact x1.2 _ v d a b)
          (fun o _ _ => by omega)
          (by
            rw [List.take_append_of_le_length (by omega), List.take_of_length_le (by omega)]
            exact fun v hv => (List.mem_append.1 hv).elim (h11 v) (x2 v)) hz0
        exact ⟨_, key⟩
 end
end Go.Eng
 end

 section
set_option linter.unusedVariables false
set_option linter.unusedSimpArgs false
namespace Go.Eng

def convGuard (ops : Array Oper) : Option (Nat × Bool) → Option (Option (Nat × Bool))
  | none => some none
  | some (j, want) => match ops[j]? with
    | some o => match o.dst with
      | some t => some (some (t, want))
      | none => none
    | none => none
def convInst (P : Program) (nz : List Nat) (ts : List Bool) (ops : Array Oper) (o : Oper) : Option RInst :=
  match convOp P nz ts o with
  | some (k, xs) => match conOpds nz xs ts, convGuard ops o.guard with
    | some ys, some gd => some ⟨o.dst, k, ys, gd⟩
    | _, _ => none
  | none => none

/-- The same; what isn't taken stops the run. -/
def convI (P : Program) (nz : List Nat) (ts : List Bool) (ops : Array Oper) (o : Oper) : Option RInst :=
  match convInst P nz ts ops o with
  | some r => some r
  | none => match convGuard ops o.guard with
    | some gd => some ⟨o.dst, .bad, [], gd⟩
    | none => none
theorem convI_cases {P : Program} {nz : List Nat} {ts : List Bool} {ops : Array Oper} {o : Oper} {r : RInst} (h : convI P nz ts ops o = some r) : convInst P nz ts ops o = some r ∨ ∃ gd, convGuard ops o.guard = some gd ∧ r = ⟨o.dst, .bad, [], gd⟩ := by
  unfold convI at h
  split at h
  · rename_i r' hr; cases h; exact .inl hr
  · split at h
    · rename_i gd hgd; cases h; exact .inr ⟨gd, hgd, rfl⟩
    · cases h
theorem convI_run {P : Program} {nz : List Nat} {ts : List Bool} {ops : Array Oper} {o : Oper} {r : RInst} (h : convI P nz ts ops o = some r) (hg : o.guard = none) {Φ : Oracle} {e : Env} {m : Mem} {x : Env × Mem} (hs : stepInst Φ r e m = some x) : convInst P nz ts ops o = some r := by
  rcases convI_cases h with h | ⟨gd, hgd, rfl⟩
  · exact h
  · rw [hg] at hgd
    cases hgd
    cases hs

/-- The state of a frame, and what it claims. -/
structure St (g : Gh) (w : World) (a : Act) (env : Env) (mem : Mem) (fr : List Nat) : Prop where
  inv : Inv g w a.tmps.toList env mem fr
  defers : a.defers = []
def clm (g : Gh) (a : Act) (env : Env) (mem : Mem) : List Nat := claims g a.tmps.toList env mem

 section
variable {P : Program} {nz : List Nat} {nk : Nat → List Nat} {g : Gh} {w : World} {mem mem' : Mem} {fr : List Nat} {d : AV} {env env' : Env} {a : Act} {Φ : Oracle}

theorem put_toList {dst : Option Nat} {v : Value} : (a.put dst v).tmps.toList = (match dst with | some i => a.tmps.toList.set i v | none => a.tmps.toList) ∧ (a.put dst v).defers = a.defers := by
  cases dst with
  | none => exact ⟨rfl, rfl⟩
  | some i => exact ⟨by simp [Act.put], rfl⟩

theorem St.put {g' : Gh} {w' : World} {dst : Option Nat} {v : Value} (hl : a.tmps.toList.length = env.length) (hdf : a.defers = []) (h : Inv g' w' (a.tmps.toList ++ [v]) (env ++ [d]) mem' fr) :
    St g' w' (a.put dst v) (putDst env dst d) mem' fr ∧ ∀ b ∈ clm g' (a.put dst v) (putDst env dst d) mem', b ∈ claims g' (a.tmps.toList ++ [v]) (env ++ [d]) mem' := by
  obtain ⟨p1, p2⟩ := put_toList (a := a) (dst := dst) (v := v)
  have e : ownL [v] [d] = own v d := by simp [ownL]
  cases dst with
  | none =>
    simp only at p1
    refine ⟨⟨by rw [p1]; exact h.left hl, by rw [p2]; exact hdf⟩, fun b hb => ?_⟩
    unfold clm at hb
    rw [p1] at hb
    rw [mem_count, claims_append hl]
    have := mem_count.1 hb
    simp only [putDst] at this
    omega
  | some i =>
    simp only at p1
    refine ⟨⟨by rw [p1]; exact h.settle hl i, by rw [p2]; exact hdf⟩, fun b hb => ?_⟩
    unfold clm at hb
    rw [p1] at hb
    rw [mem_count, claims_append hl, e]
    rcases claims_put_sub hl i hb with h1 | h1
    · have := mem_count.1 h1; omega
    · have := mem_count.1 h1; omega

/-- One instruction that is carried out. -/
theorem go_sound (hΦ : CallOk P Φ) {o : Oper} {ts : List Bool} {ops : Array Oper} {r : RInst} (hc : convInst P nz ts ops o = some r) (hs : stepGo Φ r env mem = some (env', mem')) (h : St g w a env mem fr) :
    OpPost P (execOp a.eval o) w (fun v w' => ∃ g', St g' w' (a.put o.dst v) env' mem' fr ∧ Goes (clm g a env mem) g w (clm g' (a.put o.dst v) env' mem') g' w') := by
  unfold convInst at hc
  split at hc
  · rename_i k xs hop
    split at hc
    · rename_i ys gd hys hgd
      cases hc
      unfold stepGo at hs
      simp only at hs
      split at hs
      · rename_i d m hd
        cases hs
        have hl := h.inv.envRep.1
        have htk := take_all (g := g) (w := w) (mem := mem) (fr := fr) (a := a) (vals := a.tmps.toList) rfl (vs := []) (ds := []) hl hys (by simpa using h.inv)
        simp only [List.nil_append, List.append_nil] at htk
        obtain ⟨k1, k2, k3⟩ := htk
        have hl2 : a.tmps.toList.length = (evs env ys).2.length := by rw [k2]; exact hl
        have hop2 := op_done hΦ hop (k1.right hl2) hd
        refine hop2.mono fun v w' ⟨g', q1, q2⟩ => ?_
        obtain ⟨f1, f2⟩ := Inv.frame hl2 k1 q1 q2
        obtain ⟨s1, s2⟩ := St.put (a := a) (dst := o.dst) (v := v) hl2 h.defers f1
        refine ⟨g', s1, ?_⟩
        refine ⟨(f2.mono fun b hb => ?_).ext, fun b hb => ?_⟩
        · rw [mem_count]; have := mem_count.1 hb; have := k3 b; unfold clm; omega
        · rcases f2.sub b (s2 b hb) with h1 | h1
          · left; rw [mem_count]; have := mem_count.1 h1; have := k3 b; unfold clm; omega
          · exact .inr h1
      · cases hs
    · cases hc
  · cases hc

theorem guard_sound {o : Oper} {ops : Array Oper} {gd : Option (Nat × Bool)} (hc : convGuard ops o.guard = some gd) (h : St g w a env mem fr) :
    (gd = none ∧ Region.wanted o (yielded ops a.tmps) = true) ∨ (∃ s want, gd = some (s, want) ∧ ∀ q, gOk want (env.getD s .junk) = some q → Region.wanted o (yielded ops a.tmps) = q) := by
  unfold convGuard at hc
  split at hc
  · rename_i hg
    cases hc
    exact .inl ⟨rfl, by simp [Region.wanted, hg]⟩
  · rename_i j want hg
    split at hc
    · rename_i oj hj
      split at hc
      · rename_i t ht
        cases hc
        refine .inr ⟨t, want, rfl, fun q hq => ?_⟩
        have hget : env[t]? = some (env.getD t .junk) := by
          rw [List.getD_eq_getElem?_getD]
          cases he : env[t]? with
          | none => rw [List.getD_eq_getElem?_getD, he] at hq; cases hq
          | some d => simp
        obtain ⟨v, hv⟩ := get_of_len h.inv.envRep.1 hget
        have hrep := h.inv.envRep.2 t v _ hv hget
        unfold gOk at hq
        split at hq
        · rename_i b hb
          rw [hb] at hrep
          have hvb := rep_bool hrep
          have hv' : a.tmps[t]? = some (.bool b) := by rw [← hvb, ← hv]; simp
          have hy : yielded ops a.tmps j = some b := by
            unfold yielded
            rw [hj]
            simp only [Option.bind_some, ht, hv']
          unfold Region.wanted
          rw [hg]
          simp only [hy]
          cases hq
          cases b <;> cases want <;> rfl
        · rename_i hb
          rw [hb] at hrep
          obtain ⟨us, hvu, hl⟩ := rep_tup hrep
          have hu : us = [] := List.length_eq_zero_iff.1 hl.1
          subst hu
          have hv' : a.tmps[t]? = some (.tuple ⟨[]⟩) := by rw [← hvu, ← hv]; simp
          have hy : yielded ops a.tmps j = none := by
            unfold yielded
            rw [hj]
            simp only [Option.bind_some, ht, hv']
          unfold Region.wanted
          rw [hg]
          simp only [hy]
          cases hq
          cases want <;> rfl
        · cases hq
      · cases hc
    · cases hc

/-- One instruction, carried out or passed by. -/
theorem inst_sound (hΦ : CallOk P Φ) {o : Oper} {ts : List Bool} {ops : Array Oper} {r : RInst} (hc : convI P nz ts ops o = some r) (hs : stepInst Φ r env mem = some (env', mem')) (h : St g w a env mem fr)
    {Q : Exit → Act → World → Prop} {i : Nat} {K0 : Act → World → Prop} (hi : ops[i]? = some o)
    (K : ∀ a' w' g', St g' w' a' env' mem' fr → Goes (clm g a env mem) g w (clm g' a' env' mem') g' w' → K0 a' w') : wpOp P ops Q i K0 a w := by
  have hrd : r.dst = o.dst ∧ convGuard ops o.guard = some r.guard := by
    rcases convI_cases hc with hc | ⟨gd, hgd, rfl⟩
    · unfold convInst at hc
      split at hc
      · split at hc
        · rename_i ys gd _ hgd; cases hc; exact ⟨rfl, hgd⟩
        · cases hc
      · cases hc
    · exact ⟨rfl, hgd⟩
  have run : stepGo Φ r env mem = some (env', mem') → Region.wanted o (yielded ops a.tmps) = true → wpOp P ops Q i K0 a w := by
    intro hgo hw
    unfold wpOp
    simp only [hi, hw, if_true]
    left
    have hc : convInst P nz ts ops o = some r := by
      rcases convI_cases hc with hc | ⟨gd, hgd, rfl⟩
      · exact hc
      · cases hgo
    have hp := go_sound hΦ hc hgo h
    unfold Oper.wp
    unfold OpPost at hp
    split at hp
    · rename_i v w' hr
      rw [hr]
      obtain ⟨g', s1, s2⟩ := hp
      exact K _ _ g' s1 s2
    · rename_i w' hr
      rw [hr]
      obtain ⟨g', s1, s2⟩ := hp
      exact K _ _ g' s1 s2
    · rename_i f args w' hr
      rw [hr]
      simp only [Oper.upon]
      refine hp.mono fun e w'' ⟨v, he, g', s1, s2⟩ => ?_
      subst he
      exact K _ _ g' s1 s2
    · exact hp.elim
  unfold stepInst at hs
  rcases guard_sound hrd.2 h with ⟨hg, hw⟩ | ⟨s, want, hg, hw⟩
  · rw [hg] at hs
    exact run hs hw
  · rw [hg] at hs
    simp only at hs
    split at hs
    · rename_i hq
      exact run hs (hw true hq)
    · rename_i hq
      cases hs
      unfold wpOp
      have : Region.wanted o (yielded ops a.tmps) = false := hw false hq
      simp only [hi, this, Bool.false_eq_true, if_false]
      have hl := h.inv.envRep.1
      have hx : Inv g w (a.tmps.toList ++ [undef]) (env ++ [.tup []]) mem fr := h.inv.extend (.tup [] [] rfl (fun i v d a b => by simp at a)) (noOwn_ok rfl) (fun t => by rw [noOwn_own rfl]; have := nd_count h.inv t; simp; omega)
      obtain ⟨s1, s2⟩ := St.put (a := a) (dst := o.dst) (v := undef) hl h.defers hx
      rw [hrd.1] at K
      refine K _ _ g s1 ⟨.refl _ _ _, fun b hb => .inl ?_⟩
      have := mem_count.1 (s2 b hb)
      rw [claims_append hl] at this
      have e : ownL [undef] [.tup []] = [] := by simp [ownL, noOwn_own (d := .tup []) rfl]
      rw [e] at this
      unfold clm; rw [mem_count]; simpa using this
    · cases hs

def notTmp (o : Operand) (d : Nat) : Bool := match o with
  | .tmp i => i != d
  | _ => true
def isTmp (o : Operand) (d : Nat) : Bool := match o with
  | .tmp i => i == d
  | _ => false

/-- append of a variable's room, its address, the store into it: the first of the three. -/
def convMac (P : Program) (nz : List Nat) (ts : List Bool) (ops : Array Oper) (m : Nat) : Option RInst :=
  match ops[m]?, ops[m + 1]?, ops[m + 2]? with
  | some o, some o1, some o2 => match o.op, o1.op, o2.op with
    | .call c, .indexAddr t1 x1 i, .store t2 x2 x => match c.callee, c.args.toList, c.argTypes.toList with
      | .builtin .append, [s, zs], [t, u] => match o.dst, o1.dst, P.underlying t, P.underlying u with
        | some d, some d1, some (.slice e), some (.slice _) =>
          if (o.guard.isNone && o1.guard.isNone && o2.guard.isNone && o2.dst.isNone && t1 == t && t2 == e && isTmp x1 d && isTmp x2 d1 && d != d1 && notTmp i d && notTmp x d && notTmp x d1 && known P e && zeroOk P e) = true then
            match conOpd nz zs false, conOpd nz i false, conOpds nz [s, x] ts with
            | some z', some i', some ys => some ⟨some d, .appendZ (szOf P e) (bytesOf P e) (aggT P e), z' :: i' :: ys, none⟩
            | _, _, _ => none
          else none
        | _, _, _, _ => none
      | _, _, _ => none
    | _, _, _ => none
  | _, _, _ => none

theorem eval_put {d : Nat} {v : Value} {x : Operand} (h : notTmp x d = true) : (a.put (some d) v).eval x = a.eval x := by
  cases x <;> try rfl
  rename_i i
  have hne : i ≠ d := by simpa [notTmp] using h
  show (a.tmps.setIfInBounds d v).getD i undef = a.tmps.getD i undef
  simp [Array.getD_eq_getD_getElem?, Array.getElem?_setIfInBounds, Ne.symm hne]
theorem eval_put_same {d : Nat} {v : Value} (h : d < a.tmps.toList.length) : (a.put (some d) v).eval (.tmp d) = v := by
  have h : d < a.tmps.size := by simpa using h
  show (a.tmps.setIfInBounds d v).getD d undef = v
  simp [Array.getD_eq_getD_getElem?, Array.getElem?_setIfInBounds, h]
theorem eval_isTmp {x : Operand} {d : Nat} (h : isTmp x d = true) : x = .tmp d := by
  cases x <;> simp [isTmp] at h
  rw [h]

theorem wpOp_value {ops : Array Oper} {Q : Exit → Act → World → Prop} {i : Nat} {K0 : Act → World → Prop} {o : Oper} {v : Value} {w' : World} (hi : ops[i]? = some o) (hg : o.guard = none) (hr : (execOp a.eval o).run P w = .ok (.value v) w') (hk : K0 (a.put o.dst v) w') : wpOp P ops Q i K0 a w := by
  unfold wpOp
  have : Region.wanted o (yielded ops a.tmps) = true := by simp [Region.wanted, hg]
  simp only [hi, this, if_true]
  left; unfold Oper.wp; rw [hr]; exact hk
theorem wpOp_skip {ops : Array Oper} {Q : Exit → Act → World → Prop} {i : Nat} {K0 : Act → World → Prop} {o : Oper} {w' : World} (hi : ops[i]? = some o) (hg : o.guard = none) (hr : (execOp a.eval o).run P w = .ok .skip w') (hk : K0 (a.put o.dst undef) w') : wpOp P ops Q i K0 a w := by
  unfold wpOp
  have : Region.wanted o (yielded ops a.tmps) = true := by simp [Region.wanted, hg]
  simp only [hi, this, if_true]
  left; unfold Oper.wp; rw [hr]; exact hk

theorem evs_plain {o : Operand} {z : Opd} (hz : conOpd nz o false = some z) (env : Env) : z.clr env = env := by
  cases o <;> simp [conOpd] at hz
  · subst hz; rfl
  · obtain ⟨d, _, rfl⟩ := hz; rfl
  · subst hz; rfl

/-- The three of append's macro. -/
theorem mac_sound {nz1 : List Nat} {ts ts1 : List Bool} {ops : Array Oper} {m : Nat} {r r1 r2 : RInst} {o1 : Oper} {d1 : Nat} (hc : convMac P nz ts ops m = some r) (ho1 : ops[m + 1]? = some o1) (hc1 : convI P nz1 ts1 ops o1 = some r1) (hd1 : o1.dst = some d1) (hr2 : r2 = ⟨none, .chk, [.t d1 false], none⟩)
    {env1 env2 env3 : Env} {mem1 mem2 mem3 : Mem} (hs : stepInst Φ r env mem = some (env1, mem1)) (hs1 : stepInst Φ r1 env1 mem1 = some (env2, mem2)) (hs2 : stepInst Φ r2 env2 mem2 = some (env3, mem3)) (h : St g w a env mem fr)
    {Q : Exit → Act → World → Prop} {K0 : Act → World → Prop} (hΦ : CallOk P Φ)
    (K : ∀ a' w' g', St g' w' a' env3 mem3 fr → Goes (clm g a env mem) g w (clm g' a' env3 mem3) g' w' → K0 a' w') :
    wpOp P ops Q m (fun a1 w1 => wpOp P ops Q (m + 1) (fun a2 w2 => wpOp P ops Q (m + 2) K0 a2 w2) a1 w1) a w := by
  unfold convMac at hc
  split at hc
  rotate_left
  · cases hc
  rename_i o o1' o2 hm hm1 hm2
  rw [ho1] at hm1; cases hm1
  split at hc
  rotate_left
  · cases hc
  rename_i c t1 x1 ix t2 x2 x hop hop1 hop2
  split at hc
  rotate_left
  · cases hc
  rename_i s zs t u hcal hargs hts
  split at hc
  rotate_left
  · cases hc
  rename_i d d1' e e' hd hd1' hut huu
  rw [hd1] at hd1'; cases hd1'
  split at hc
  rotate_left
  · cases hc
  rename_i hcond
  simp only [Bool.and_eq_true, Option.isNone_iff_eq_none, beq_iff_eq, bne_iff_ne, ne_eq] at hcond
  obtain ⟨⟨⟨⟨⟨⟨⟨⟨⟨⟨⟨⟨⟨hg, hg1⟩, hg2⟩, hdn⟩, rfl⟩, rfl⟩, hx1⟩, hx2⟩, hne⟩, hni⟩, hnx⟩, hnx1⟩, hk⟩, hzo⟩ := hcond
  split at hc
  rotate_left
  · cases hc
  rename_i z' i' ys hz' hi' hys
  cases hc
  replace hc1 := convI_run hc1 hg1 hs1
  have hl := h.inv.envRep.1
  -- the macro's values
  simp only [stepInst, stepGo] at hs
  split at hs
  rotate_left
  · cases hs
  rename_i dv m' hd0
  cases hs
  have hev : evs env (z' :: i' :: ys) = (z'.ev env :: i'.ev env :: (evs env ys).1, (evs env ys).2) := by
    simp only [evs, evs_plain hz', evs_plain hi']
  rw [hev] at hd0 hs1
  simp only [opA] at hd0
  split at hd0
  rotate_left
  · cases hd0
  rename_i dv' hdv
  cases hd0
  have rep_of : ∀ {o : Operand} {z : Opd}, conOpd nz o false = some z → Rep g.pers g.bl (a.eval o) (z.ev env) := by
    intro o z hz
    have htk := take_one (g := g) (w := w) (mem := mem) (fr := fr) (vs := []) (ds := []) hl (by simpa using h.inv) hz (a := a) rfl
    simp only [List.nil_append] at htk
    exact htk.1.envRep.2 a.tmps.toList.length _ _ (by simp) (by rw [hl, ← htk.2.1]; simp)
  have rz := rep_of hz'
  have ri := rep_of hi'
  have htk := take_all (g := g) (w := w) (mem := mem) (fr := fr) (a := a) (vals := a.tmps.toList) rfl (vs := []) (ds := []) hl hys (by simpa using h.inv)
  simp only [List.nil_append, List.append_nil, List.map_cons, List.map_nil] at htk
  obtain ⟨k1, k2, k3⟩ := htk
  have hl2 : a.tmps.toList.length = (evs env ys).2.length := by rw [k2]; exact hl
  have hR := k1.right hl2
  obtain ⟨e1, e2, he12, r1', r2'⟩ := two hR.envRep
  rw [he12] at hdv
  unfold appendZA at hdv
  split at hdv
  rotate_left
  · cases hdv
  rename_i q z2 y kk n z1 xs xd hq
  simp only [List.cons.injEq, and_true] at hq
  obtain ⟨hq1, hq2, rfl, rfl⟩ := hq
  simp only [Option.ite_none_right_eq_some, Option.some.injEq] at hdv
  obtain ⟨⟨hn, hz0, hz1, rfl, hxe, hfit, hsm⟩, rfl⟩ := hdv
  rw [hq1] at rz
  rw [hq2] at ri
  rw [he12] at hR k1 k3
  obtain ⟨v, w1, A, w2, p1, p2, ⟨R0, hw2, hvA, p3'⟩, p4⟩ := appendZ_core (ag := aggT P t2) hk hzo hut huu hR rz hz1 hxe hz0 hfit hsm o.type (k := kk)
  have p3 : (storeVar t2 A (a.eval x)).run P w1 = .ok () w2 := by rw [hw2]; exact p3' w1 rfl
  obtain ⟨g', q1, q2⟩ := p4
  obtain ⟨f1, f2⟩ := Inv.frame hl2 k1 q1 q2
  obtain ⟨s1, s2⟩ := St.put (a := a) (dst := some d) (v := v) hl2 h.defers f1
  -- the slot is there
  have hx1' := eval_isTmp hx1
  have hx2' := eval_isTmp hx2
  subst hx1'; subst hx2'
  -- the address
  have hc1' := hc1
  unfold convInst at hc1'
  split at hc1'
  rotate_left
  · cases hc1'
  rename_i k' xs' hop'
  split at hc1'
  rotate_left
  · cases hc1'
  rename_i ys1 gd1 hys1 hgd1
  cases hc1'
  rw [hg1] at hgd1
  cases hgd1
  have hcp : convPure P o1 = some (.iaddr (szOf P t2), [.tmp d, ix]) := by
    unfold convPure; rw [hop1]; simp only [hut]; rw [if_pos hk]
  have hkx : k' = .pure (.iaddr (szOf P t2)) ∧ xs' = [.tmp d, ix] := by
    unfold convOp at hop'
    rw [hop1] at hop'
    simp only [hcp, Option.map_some, Option.some.injEq, Prod.mk.injEq] at hop'
    exact ⟨hop'.1.symm, hop'.2.symm⟩
  obtain ⟨rfl, rfl⟩ := hkx
  have hnd : d < a.tmps.toList.length := by
    rcases Nat.lt_or_ge d a.tmps.toList.length with hlt | hge
    · exact hlt
    · exfalso
      simp only [stepInst, stepGo] at hs1
      split at hs1
      · rename_i dd mm hdd
        simp only [opA] at hdd
        split at hdd
        · rename_i d3 hd3
          -- the slot's value is junk
          cases ys1 with
          | nil => simp [conOpds] at hys1; split at hys1 <;> cases hys1
          | cons y1 ys1 =>
            simp only [conOpds] at hys1
            split at hys1
            · rename_i y1' ys1' hy1 hys1'
              cases hys1
              have hy : y1 = .t d (ts1.headD false) := by simpa [conOpd] using hy1.symm
              subst hy
              have hj : (putDst (evs env ys).2 (some d) (.sl true (szOf P t2) (xs ++ [e2.plain]))).getD d .junk = .junk := by
                simp only [putDst, List.getD_eq_getElem?_getD]
                rw [List.getElem?_eq_none (by simp; rw [← hl2]; omega)]; rfl
              have hev1 : (Opd.t d (ts1.headD false)).ev (putDst (evs env ys).2 (some d) (.sl true (szOf P t2) (xs ++ [e2.plain]))) = .junk := by
                cases ts1.headD false
                · simp only [Opd.ev, hj]; rfl
                · simp only [Opd.ev, hj]
              simp only [evs, hev1] at hd3
              cases hzz : (evs ((Opd.t d (ts1.headD false)).clr (putDst (evs env ys).2 (some d) (.sl true (szOf P t2) (xs ++ [e2.plain])))) ys1).1 with
              | nil => rw [hzz] at hd3; simp [pureOp] at hd3
              | cons b bs => rw [hzz] at hd3; cases bs <;> simp [pureOp] at hd3
            · cases hys1
        · cases hdd
      · cases hs1
  have hev1 : ∀ W, (execOp (a.put (some d) v).eval o1).run P W = .ok (.value (.pointer (some A))) W := by
    intro W
    have hr : (Instr.indexAt t1 ((a.put (some d) v).eval (.tmp d)) ((a.put (some d) v).eval ix)).run P W = .ok (.pointer (some A)) W := by
      rw [eval_put_same hnd, eval_put hni, rep_int ri, hn]; exact p2 W
    unfold execOp; rw [hop1]
    exact run_value hr
  -- behind the address, in the world of the store
  have hgo1 := go_sound (Φ := Φ) hΦ hc1 (env := putDst (evs env ys).2 (some d) (.sl true (szOf P t2) (xs ++ [e2.plain]))) (env' := env2) (mem' := mem2) (by simpa only [stepInst] using hs1) s1
  unfold OpPost at hgo1
  rw [hev1 w2] at hgo1
  obtain ⟨g2, s3, G3⟩ := hgo1
  rw [hd1] at s3 G3
  -- the check
  subst hr2
  simp only [stepInst, stepGo] at hs2
  split at hs2
  rotate_left
  · cases hs2
  rename_i dd mm hdd
  have hmm : dd = .junk ∧ mm = mem2 ∧ ∃ cs, (env2.getD d1 .junk).plain = .pel cs := by
    simp only [opA, evs, Opd.ev] at hdd
    split at hdd
    · rename_i cs hcs
      cases hdd
      simp only [List.cons.injEq, and_true] at hcs
      exact ⟨rfl, rfl, cs, hcs⟩
    · cases hdd
  obtain ⟨rfl, rfl, cs, hcs⟩ := hmm
  cases hs2
  have hnd1 : d1 < ((a.put (some d) v).put (some d1) (.pointer (some A))).tmps.toList.length := by
    have hl3 := s3.inv.envRep.1
    rw [hl3]
    rcases Nat.lt_or_ge d1 env2.length with hlt | hge
    · exact hlt
    · rw [List.getD_eq_getElem?_getD, List.getElem?_eq_none hge] at hcs; cases hcs
  have hnd1' : d1 < (a.put (some d) v).tmps.toList.length := by
    rw [(put_toList (a := a.put (some d) v) (dst := some d1) (v := .pointer (some A))).1] at hnd1
    simpa using hnd1
  have hst : (execOp ((a.put (some d) v).put (some d1) (.pointer (some A))).eval o2).run P w1 = .ok .skip w2 := by
    unfold execOp; rw [hop2]
    simp only [Instr.storeAt, eval_put_same hnd1', eval_put hnx1, eval_put hnx, Sem.run_bind, run_sure, Result.andThen_ok, p3, Sem.run_pure]
  have happ : (execOp a.eval o).run P w = .ok (.value v) w1 := by
    have ha : c.argTypes = #[t1, u] := by apply Array.ext'; simpa using hts
    have hb : c.args = #[s, zs] := by apply Array.ext'; simpa using hargs
    unfold execOp; rw [hop]
    simp only [resolve, hcal, invoke, builtin, ha, hb, List.map_toArray, List.map_cons, List.map_nil, Sem.run_bind, Sem.run_pure, Result.andThen_ok, p1]
  refine wpOp_value hm hg happ ?_
  rw [hd]
  refine wpOp_value ho1 hg1 (hev1 w1) ?_
  rw [hd1]
  refine wpOp_skip hm2 hg2 hst ?_
  rw [hdn]
  refine K _ _ g2 s3 ?_
  refine Goes.trans (A1 := clm g' (a.put (some d) v) (putDst (evs env ys).2 (some d) (.sl true (szOf P t2) (xs ++ [e2.plain]))) mem) (g1 := g') (w1 := w2) ?_ G3
  refine ⟨(f2.mono fun b hb => ?_).ext, fun b hb => ?_⟩
  · rw [mem_count]; have := mem_count.1 hb; have := k3 b; unfold clm; omega
  · rcases f2.sub b (s2 b hb) with h1 | h1
    · left; rw [mem_count]; have := mem_count.1 h1; have := k3 b; unfold clm; omega
    · exact .inr h1

/-- The instruction at a place of a region; at 'mac' append's macro begins. -/
def convAt (P : Program) (nk : Nat → List Nat) (tk : Nat → List Bool) (mac : Option Nat) (ops : Array Oper) (j : Nat) (o : Oper) : Option RInst :=
  match mac with
  | none => convI P (nk j) (tk j) ops o
  | some m => if j = m then convMac P (nk j) (tk j) ops m else if j = m + 2 then (match ops[m + 1]? with
    | some o1 => (match o1.dst with
      | some d1 => some ⟨none, .chk, [.t d1 false], none⟩
      | none => none)
    | none => none) else convI P (nk j) (tk j) ops o
def convInsts (P : Program) (nk : Nat → List Nat) (tk : Nat → List Bool) (mac : Option Nat) (ops : Array Oper) : List Oper → Nat → Option (List RInst)
  | [], _ => some []
  | o :: os, i => match convAt P nk tk mac ops i o, convInsts P nk tk mac ops os (i + 1) with
    | some r, some rs => some (r :: rs)
    | _, _ => none

theorem convMac_some {ts : List Bool} {ops : Array Oper} {m : Nat} {r : RInst} (h : convMac P nz ts ops m = some r) : ∃ o1 o2 d1, ops[m + 1]? = some o1 ∧ ops[m + 2]? = some o2 ∧ o1.dst = some d1 := by
  unfold convMac at h
  split at h
  · rename_i o o1 o2 h0 h1 h2
    split at h
    · split at h
      · split at h
        · rename_i d d1 e e' hd hd1 _ _
          exact ⟨o1, o2, d1, h1, h2, hd1⟩
        · cases h
      · cases h
    · cases h
  · cases h

theorem convMac_guard {ts : List Bool} {ops : Array Oper} {m : Nat} {r : RInst} (h : convMac P nz ts ops m = some r) {o1 : Oper} (ho : ops[m + 1]? = some o1) : o1.guard = none := by
  unfold convMac at h
  split at h
  · rename_i o o1' o2 h0 h1 h2
    rw [ho] at h1; cases h1
    split at h
    · split at h
      · split at h
        · split at h
          · rename_i hc
            simp only [Bool.and_eq_true, Option.isNone_iff_eq_none] at hc
            exact hc.1.1.1.1.1.1.1.1.1.1.1.1.2
          · cases h
        · cases h
      · cases h
    · cases h
  · cases h

theorem convInsts_get {tk : Nat → List Bool} {mac : Option Nat} {ops : Array Oper} : ∀ {os : List Oper} {k : Nat} {rs : List RInst}, convInsts P nk tk mac ops os k = some rs → rs.length = os.length ∧ ∀ (j : Nat) o, os[j]? = some o → ∃ r, rs[j]? = some r ∧ convAt P nk tk mac ops (k + j) o = some r
  | [], k, rs, h => by cases h; exact ⟨rfl, fun j o h => by simp at h⟩
  | o :: os, k, rs, h => by
    unfold convInsts at h
    split at h
    · rename_i r rs' h1 h2
      cases h
      obtain ⟨l1, l2⟩ := convInsts_get h2
      refine ⟨by simp [l1], fun j o' hj => ?_⟩
      cases j with
      | zero => simp at hj; subst hj; exact ⟨r, rfl, h1⟩
      | succ j =>
        obtain ⟨r', a1, a2⟩ := l2 j o' (by simpa using hj)
        exact ⟨r', by simpa using a1, by rw [show k + (j + 1) = k + 1 + j by omega]; exact a2⟩
    · cases h

theorem ops_sound (hΦ : CallOk P Φ) {tk : Nat → List Bool} {mac : Option Nat} {ops : Array Oper} {Q : Exit → Act → World → Prop} : ∀ (n : Nat) (os : List Oper) (k : Nat) (rs : List RInst) (env : Env) (mem : Mem) (g : Gh) (w : World) (a : Act), os.length ≤ n → (∀ m, mac = some m → k ≤ m ∨ m + 3 ≤ k) → (∀ j : Nat, os[j]? = ops[k + j]?) → convInsts P nk tk mac ops os k = some rs →
    execOps Φ rs env mem = some (env', mem') → St g w a env mem fr →
    (∀ a' w' g', St g' w' a' env' mem' fr → Goes (clm g a env mem) g w (clm g' a' env' mem') g' w' → Q .normal a' w') → wpOps P ops Q (List.range' k os.length) a w
  | _, [], k, rs, env, mem, g, w, a, hn, hm, hj, hc, hx, h, K => by
    cases hc
    simp only [execOps, Option.some.injEq, Prod.mk.injEq] at hx
    obtain ⟨rfl, rfl⟩ := hx
    exact K a w g h (.refl _ _ _)
  | 0, o :: os, k, rs, env, mem, g, w, a, hn, hm, hj, hc, hx, h, K => by simp at hn
  | n + 1, o :: os, k, rs, env, mem, g, w, a, hn, hm, hj, hc, hx, h, K => by
    have ho : ops[k]? = some o := by have := hj 0; simpa using this.symm
    have hj' : ∀ j : Nat, os[j]? = ops[k + 1 + j]? := fun j => by have := hj (j + 1); simpa [Nat.add_assoc, Nat.add_comm 1 j] using this
    have hc0 := hc
    unfold convInsts at hc
    split at hc
    · rename_i r rs' h1 h2
      cases hc
      unfold execOps at hx
      split at hx
      · rename_i env1 mem1 hs
        simp only [List.length_cons, List.range'_succ]
        rw [wpOps_cons]
        by_cases hmk : mac = some k
        · -- the macro
          subst hmk
          have h1' : convMac P (nk k) (tk k) ops k = some r := by simpa [convAt] using h1
          obtain ⟨o1, o2, d1, g1, g2, gd⟩ := convMac_some h1'
          match os, hj', h2, hn with
          | [], hj', _, _ => rw [← show ([] : List Oper)[0]? = ops[k + 1]? from by simpa using hj' 0] at g1; simp at g1
          | [_], hj', _, _ => have := hj' 1; rw [show k + 1 + 1 = k + 2 by omega, g2] at this; simp at this
          | p1 :: p2 :: os, hj', h2, hn =>
            have e1 : p1 = o1 := by have := hj' 0; simp only [Nat.add_zero, List.getElem?_cons_zero] at this; rw [g1] at this; exact Option.some.inj this
            have e2 : p2 = o2 := by have := hj' 1; rw [show k + 1 + 1 = k + 2 by omega, g2] at this; simpa using this
            subst e1; subst e2
            unfold convInsts at h2
            split at h2
            · rename_i r1 rs1 c1 h3
              cases h2
              unfold convInsts at h3
              split at h3
              · rename_i r2 rs2 c2 h4
                cases h3
                have c1' : convI P (nk (k + 1)) (tk (k + 1)) ops p1 = some r1 := by simpa [convAt] using c1
                have c2' : r2 = ⟨none, .chk, [.t d1 false], none⟩ := by
                  have : k + 1 + 1 = k + 2 := by omega
                  simp only [convAt, this, if_neg (show ¬ (k + 2 = k) by omega), if_true, g1, gd, Option.some.injEq] at c2
                  exact c2.symm
                unfold execOps at hx
                split at hx
                · rename_i env2 mem2 hs1
                  unfold execOps at hx
                  split at hx
                  · rename_i env3 mem3 hs2
                    have hlen : (p1 :: p2 :: os).length = os.length + 1 + 1 := rfl
                    rw [hlen, List.range'_succ, List.range'_succ]
                    have := mac_sound (Q := Q) (K0 := wpOps P ops Q (List.range' (k + 1 + 1 + 1) os.length)) h1' g1 c1' gd c2' hs hs1 hs2 h hΦ fun a1 w1 g1 s1 G1 => ops_sound hΦ n os (k + 1 + 1 + 1) rs2 env3 mem3 g1 w1 a1 (by simp at hn; omega) (fun m hm => by cases hm; exact .inr (by omega)) (fun j => by have := hj' (j + 2); rw [show k + 1 + 1 + 1 + j = k + 1 + (j + 2) by omega]; simpa using this) h4 hx s1 fun a2 w2 g2 s2 G2 => K a2 w2 g2 s2 (G1.trans G2)
                    refine cast ?_ this
                    congr 1
                  · cases hx
                · cases hx
              · cases h3
            · cases h2
        · have h1' : convI P (nk k) (tk k) ops o = some r := by
            cases mac with
            | none => exact h1
            | some m =>
              have := hm m rfl
              have hne : k ≠ m := fun e => hmk (by rw [e])
              simp only [convAt, if_neg hne, if_neg (show ¬ (k = m + 2) by omega)] at h1
              exact h1
          refine inst_sound hΦ h1' hs h ho fun a1 w1 g1 s1 G1 => ?_
          refine ops_sound hΦ n os (k + 1) rs' env1 mem1 g1 w1 a1 (by simp at hn; omega) (fun m hm' => ?_) hj' h2 hx s1 fun a2 w2 g2 s2 G2 => K a2 w2 g2 s2 (G1.trans G2)
          have := hm m hm'
          have hne : k ≠ m := fun e => hmk (by rw [e]; exact hm')
          omega
      · cases hx
    · cases hc

/-- A region in the text's order. -/
theorem region_sound (hΦ : CallOk P Φ) {tk : Nat → List Bool} {mac : Option Nat} {ops : Array Oper} {id : Nat} {rs : List RInst} {Q : Exit → Act → World → Prop} (hc : convInsts P nk tk mac ops ops.toList 0 = some rs) (hx : execOps Φ rs env mem = some (env', mem')) (h : St g w a env mem fr)
    (K : ∀ a' w' g', St g' w' a' env' mem' fr → Goes (clm g a env mem) g w (clm g' a' env' mem') g' w' → Q .normal a' w') : (Code.region id ops false).wp P Q a w := by
  refine wp_region ?_
  have := ops_sound hΦ ops.toList.length ops.toList 0 rs env mem g w a (Nat.le_refl _) (fun m _ => .inl (Nat.zero_le m)) (fun j => by simp) hc hx h K
  rw [List.range_eq_range']
  simpa using this
 end
end Go.Eng
 end

 section
set_option linter.unusedVariables false
set_option linter.unusedSimpArgs false
namespace Go.Eng
 section
variable {P : Program} {nz : List Nat} {nk : Nat → List Nat} {g : Gh} {w : World} {mem mem' : Mem} {fr : List Nat} {env env' : Env} {a : Act} {Φ : Oracle}

/-- What append's macro does, piece by piece. -/
structure MacRun (P : Program) (w : World) (a : Act) (o o1 o2 : Oper) (d d1 : Nat) (ix x : Operand) (v : Value) (w1 : World) (A : Addr) (R : Obj) : Prop where
  g0 : o.guard = none
  g1 : o1.guard = none
  g2 : o2.guard = none
  dst : o.dst = some d
  dst1 : o1.dst = some d1
  dst2 : o2.dst = none
  ne : d ≠ d1
  op1 : ∃ t, o1.op = .indexAddr t (.tmp d) ix
  op2 : ∃ t, o2.op = .store t (.tmp d1) x
  hix : notTmp ix d = true
  hx : notTmp x d = true ∧ notTmp x d1 = true
  row : ∃ n c ad, v = .slice (some ad) n c ∧ ad.block = A.block
  run0 : (execOp a.eval o).run P w = .ok (.value v) w1
  run1 : ∀ (b : Act) (W : World), b.eval (.tmp d) = v → b.eval ix = a.eval ix → (execOp b.eval o1).run P W = .ok (.value (.pointer (some A))) W
  run2 : ∀ (b : Act) (W : World), b.eval (.tmp d1) = .pointer (some A) → b.eval x = a.eval x → W.heap[A.block]? = w1.heap[A.block]? → (execOp b.eval o2).run P W = .ok .skip (World.setBlk W A.block R)

theorem mac_core {ts : List Bool} {ops : Array Oper} {m : Nat} {r : RInst} {o o1 o2 : Oper} (hc : convMac P nz ts ops m = some r) (ho0 : ops[m]? = some o) (ho1 : ops[m + 1]? = some o1) (ho2 : ops[m + 2]? = some o2)
    {env1 : Env} {mem1 : Mem} (hs : stepInst Φ r env mem = some (env1, mem1)) (h : St g w a env mem fr) :
    ∃ d d1 ix x v w1 A R g' z xs, MacRun P w a o o1 o2 d d1 ix x v w1 A R ∧ St g' (World.setBlk w1 A.block R) (a.put (some d) v) env1 mem1 fr ∧
      Goes (clm g a env mem) g w (clm g' (a.put (some d) v) env1 mem1) g' (World.setBlk w1 A.block R) ∧ (d < a.tmps.toList.length → env1[d]? = some (.sl true z xs)) := by
  unfold convMac at hc
  split at hc
  rotate_left
  · cases hc
  rename_i o' o1' o2' hm hm1 hm2
  rw [ho1] at hm1; cases hm1
  rw [ho0] at hm; cases hm
  rw [ho2] at hm2; cases hm2
  split at hc
  rotate_left
  · cases hc
  rename_i c t1 x1 ix t2 x2 x hop hop1 hop2
  split at hc
  rotate_left
  · cases hc
  rename_i s zs t u hcal hargs hts
  split at hc
  rotate_left
  · cases hc
  rename_i d d1 e e' hd hd1 hut huu
  split at hc
  rotate_left
  · cases hc
  rename_i hcond
  simp only [Bool.and_eq_true, Option.isNone_iff_eq_none, beq_iff_eq, bne_iff_ne, ne_eq] at hcond
  obtain ⟨⟨⟨⟨⟨⟨⟨⟨⟨⟨⟨⟨⟨hg, hg1⟩, hg2⟩, hdn⟩, rfl⟩, rfl⟩, hx1⟩, hx2⟩, hne⟩, hni⟩, hnx⟩, hnx1⟩, hk⟩, hzo⟩ := hcond
  split at hc
  rotate_left
  · cases hc
  rename_i z' i' ys hz' hi' hys
  cases hc
  have hl := h.inv.envRep.1
  -- the macro's values
  simp only [stepInst, stepGo] at hs
  split at hs
  rotate_left
  · cases hs
  rename_i dv m' hd0
  cases hs
  have hev : evs env (z' :: i' :: ys) = (z'.ev env :: i'.ev env :: (evs env ys).1, (evs env ys).2) := by
    simp only [evs, evs_plain hz', evs_plain hi']
  rw [hev] at hd0
  simp only [opA] at hd0
  split at hd0
  rotate_left
  · cases hd0
  rename_i dv' hdv
  cases hd0
  have rep_of : ∀ {o : Operand} {z : Opd}, conOpd nz o false = some z → Rep g.pers g.bl (a.eval o) (z.ev env) := by
    intro o z hz
    have htk := take_one (g := g) (w := w) (mem := mem) (fr := fr) (vs := []) (ds := []) hl (by simpa using h.inv) hz (a := a) rfl
    simp only [List.nil_append] at htk
    exact htk.1.envRep.2 a.tmps.toList.length _ _ (by simp) (by rw [hl, ← htk.2.1]; simp)
  have rz := rep_of hz'
  have ri := rep_of hi'
  have htk := take_all (g := g) (w := w) (mem := mem) (fr := fr) (a := a) (vals := a.tmps.toList) rfl (vs := []) (ds := []) hl hys (by simpa using h.inv)
  simp only [List.nil_append, List.append_nil, List.map_cons, List.map_nil] at htk
  obtain ⟨k1, k2, k3⟩ := htk
  have hl2 : a.tmps.toList.length = (evs env ys).2.length := by rw [k2]; exact hl
  have hR := k1.right hl2
  obtain ⟨e1, e2, he12, r1', r2'⟩ := two hR.envRep
  rw [he12] at hdv
  unfold appendZA at hdv
  split at hdv
  rotate_left
  · cases hdv
  rename_i q z2 y kk n z1 xs xd hq
  simp only [List.cons.injEq, and_true] at hq
  obtain ⟨hq1, hq2, rfl, rfl⟩ := hq
  simp only [Option.ite_none_right_eq_some, Option.some.injEq] at hdv
  obtain ⟨⟨hn, hz0, hz1, rfl, hxe, hfit, hsm⟩, rfl⟩ := hdv
  rw [hq1] at rz
  rw [hq2] at ri
  rw [he12] at hR k1 k3
  obtain ⟨v, w1, A, w2, p1, p2, ⟨R0, hw2, hvA, p3'⟩, p4⟩ := appendZ_core (ag := aggT P t2) hk hzo hut huu hR rz hz1 hxe hz0 hfit hsm o.type (k := kk)
  have p3 : (storeVar t2 A (a.eval x)).run P w1 = .ok () w2 := by rw [hw2]; exact p3' w1 rfl
  obtain ⟨g', q1, q2⟩ := p4
  obtain ⟨f1, f2⟩ := Inv.frame hl2 k1 q1 q2
  obtain ⟨s1, s2⟩ := St.put (a := a) (dst := some d) (v := v) hl2 h.defers f1
  have hx1' := eval_isTmp hx1
  have hx2' := eval_isTmp hx2
  subst hx1'; subst hx2'
  have happ : (execOp a.eval o).run P w = .ok (.value v) w1 := by
    have ha : c.argTypes = #[t1, u] := by apply Array.ext'; simpa using hts
    have hb : c.args = #[s, zs] := by apply Array.ext'; simpa using hargs
    unfold execOp; rw [hop]
    simp only [resolve, hcal, invoke, builtin, ha, hb, List.map_toArray, List.map_cons, List.map_nil, Sem.run_bind, Sem.run_pure, Result.andThen_ok, p1]
  subst hw2
  simp only [hev]
  refine ⟨d, d1, ix, x, v, w1, A, R0, g', szOf P t2, xs ++ [e2.plain], ⟨hg, hg1, hg2, hd, hd1, hdn, hne, ⟨_, hop1⟩, ⟨_, hop2⟩, hni, ⟨hnx, hnx1⟩, hvA, happ, fun b W e1 e3 => ?_, fun b W e1 e3 e4 => ?_⟩, s1, ?_, fun hlt => ?_⟩
  · have hr : (Instr.indexAt t1 (b.eval (.tmp d)) (b.eval ix)).run P W = .ok (.pointer (some A)) W := by
      rw [e1, e3, rep_int ri, hn]; exact p2 W
    unfold execOp; rw [hop1]
    exact run_value hr
  · unfold execOp; rw [hop2]
    simp only [Instr.storeAt, e1, e3, Sem.run_bind, run_sure, Result.andThen_ok, p3' W e4, Sem.run_pure]
  · refine ⟨(f2.mono fun b hb => ?_).ext, fun b hb => ?_⟩
    · rw [mem_count]; have := mem_count.1 hb; have := k3 b; unfold clm; omega
    · rcases f2.sub b (s2 b hb) with h1 | h1
      · left; rw [mem_count]; have := mem_count.1 h1; have := k3 b; unfold clm; omega
      · exact .inr h1
  · simp only [putDst]
    rw [List.getElem?_set_self (by rw [← hl2]; exact hlt)]

theorem put_comm {x y : Nat} (h : x ≠ y) (u v : Value) : (a.put (some x) u).put (some y) v = (a.put (some y) v).put (some x) u := by
  unfold Act.put
  simp only
  congr 1
  apply Array.ext_getElem?
  intro i
  simp only [Array.getElem?_setIfInBounds, Array.size_setIfInBounds]
  split <;> split <;> simp_all
theorem setBlk_comm {x y : Nat} (h : x ≠ y) (u v : Obj) : World.setBlk (World.setBlk w x u) y v = World.setBlk (World.setBlk w y v) x u := by
  unfold World.setBlk
  congr 1
  apply Array.ext_getElem?
  intro i
  simp only [Array.getElem?_setIfInBounds, Array.size_setIfInBounds]
  split <;> split <;> simp_all
 end
end Go.Eng
 end

 section
set_option linter.unusedVariables false
set_option linter.unusedSimpArgs false
namespace Go.Eng

/-- Two chains of instructions, states on a grid: every order comes to the same. -/
theorem grid_any {P : Program} {ops : Array Oper} {Q : Exit → Act → World → Prop} {m na nb : Nat} {aG : Nat → Nat → Act} {wG : Nat → Nat → World}
    (hn : ops.size = m + 1 + na + nb)
    (stepA : ∀ i j (K0 : Act → World → Prop), i < na → j ≤ nb → K0 (aG (i + 1) j) (wG (i + 1) j) → wpOp P ops Q (m + 1 + i) K0 (aG i j) (wG i j))
    (stepB : ∀ i j (K0 : Act → World → Prop), i ≤ na → j < nb → K0 (aG i (j + 1)) (wG i (j + 1)) → wpOp P ops Q (m + 1 + na + j) K0 (aG i j) (wG i j))
    (fin : Q .normal (aG na nb) (wG na nb))
    (hdep : ∀ k, m + 1 < k → k < ops.size → k ≠ m + 1 + na → ∃ o e, ops[k]? = some o ∧ e ∈ o.after ∧ Region.binds .any e = true ∧ e.on = k - 1)
    (hback : ∀ (k : Nat) o e, ops[k]? = some o → e ∈ o.after → Region.binds .any e = true → e.on < k ∧ (m + 1 + na ≤ k → e.on ≤ m ∨ m + 1 + na ≤ e.on)) :
    ∀ (fuel i j : Nat) (listed : Array Bool), listed.size = ops.size → i ≤ na → j ≤ nb → (∀ k, k < ops.size → (listed.getD k false = true ↔ (k < m + 1 + i ∨ (m + 1 + na ≤ k ∧ k < m + 1 + na + j)))) → (na - i) + (nb - j) ≤ fuel →
      wpAny P .any ops Q fuel listed (aG i j) (wG i j) := by
  have key : ∀ (i j : Nat) (listed : Array Bool), listed.size = ops.size → i ≤ na → j ≤ nb → (∀ k, k < ops.size → (listed.getD k false = true ↔ (k < m + 1 + i ∨ (m + 1 + na ≤ k ∧ k < m + 1 + na + j)))) →
      (∀ k, k ∈ Region.ready .any ops listed → (k = m + 1 + i ∧ i < na) ∨ (k = m + 1 + na + j ∧ j < nb)) ∧ (Region.ready .any ops listed = [] → i = na ∧ j = nb) := by
    intro i j listed hsz hi hj hL
    have hunl : ∀ k, k < ops.size → (listed.getD k true = false ↔ ¬ (k < m + 1 + i ∨ (m + 1 + na ≤ k ∧ k < m + 1 + na + j))) := by
      intro k hk
      rw [← hL k hk]
      have hlt : k < listed.size := by omega
      simp only [Array.getD_eq_getD_getElem?, Array.getElem?_eq_getElem hlt, Option.getD_some]
      cases listed[k] <;> simp
    constructor
    · intro k hk
      obtain ⟨h1, o, ho, hall⟩ := mem_ready.1 hk
      have hks : k < ops.size := (Array.getElem?_eq_some_iff.1 ho).1
      have h2 := (hunl k hks).1 h1
      by_cases hA : k < m + 1 + na
      · left
        by_cases he : k = m + 1 + i
        · exact ⟨he, by omega⟩
        · exfalso
          obtain ⟨o', e, ho', hm, hb, hon⟩ := hdep k (by omega) hks (by omega)
          rw [ho] at ho'; cases ho'
          have := hall e hm hb
          rw [hon, hL _ (by omega)] at this
          omega
      · right
        by_cases he : k = m + 1 + na + j
        · exact ⟨he, by omega⟩
        · exfalso
          obtain ⟨o', e, ho', hm, hb, hon⟩ := hdep k (by omega) hks (by omega)
          rw [ho] at ho'; cases ho'
          have := hall e hm hb
          rw [hon, hL _ (by omega)] at this
          omega
    · intro hr
      refine Classical.byContradiction fun hne => ?_
      by_cases hiA : i < na
      · have hks : m + 1 + i < ops.size := by omega
        have hm : m + 1 + i ∈ Region.ready .any ops listed := by
          rw [mem_ready]
          refine ⟨(hunl _ hks).2 (by omega), _, Array.getElem?_eq_getElem hks, fun e he hb => ?_⟩
          have := (hback _ _ e (Array.getElem?_eq_getElem hks) he hb).1
          rw [hL _ (by omega)]; omega
        rw [hr] at hm; cases hm
      · have hks : m + 1 + na + j < ops.size := by omega
        have hm : m + 1 + na + j ∈ Region.ready .any ops listed := by
          rw [mem_ready]
          refine ⟨(hunl _ hks).2 (by omega), _, Array.getElem?_eq_getElem hks, fun e he hb => ?_⟩
          have := hback _ _ e (Array.getElem?_eq_getElem hks) he hb
          rw [hL _ (by omega)]; omega
        rw [hr] at hm; cases hm
  intro fuel
  induction fuel with
  | zero =>
    intro i j listed hsz hi hj hL hf
    have hij : i = na ∧ j = nb := by omega
    obtain ⟨rfl, rfl⟩ := hij
    refine ⟨?_, fin⟩
    have k1 := (key i j listed hsz hi hj hL).1
    rw [List.eq_nil_iff_forall_not_mem]
    intro k hk
    have := k1 k hk
    omega
  | succ fuel ih =>
    intro i j listed hsz hi hj hL hf
    obtain ⟨k1, k2⟩ := key i j listed hsz hi hj hL
    refine ⟨fun hr => ?_, fun k hk => ?_⟩
    · obtain ⟨rfl, rfl⟩ := k2 hr
      exact fin
    · have hset : ∀ k', k' < ops.size → ∀ q, q < ops.size → ((listed.setIfInBounds k' true).getD q false = true ↔ (listed.getD q false = true ∨ q = k')) := by
        intro k' hk' q hq
        have h1 : k' < listed.size := by omega
        by_cases hqk : q = k'
        · subst hqk; simp [Array.getD_eq_getD_getElem?, h1]
        · simp [Array.getD_eq_getD_getElem?, Array.getElem?_setIfInBounds, Ne.symm hqk, hqk]
      rcases k1 k hk with ⟨rfl, hlt⟩ | ⟨rfl, hlt⟩
      · refine stepA i j _ hlt hj (ih (i + 1) j _ (by simpa using hsz) (by omega) hj (fun q hq => ?_) (by omega))
        rw [hset _ (by omega) q hq, hL q hq]; omega
      · refine stepB i j _ hi hlt (ih i (j + 1) _ (by simpa using hsz) hi (by omega) (fun q hq => ?_) (by omega))
        rw [hset _ (by omega) q hq, hL q hq]; omega
end Go.Eng
 end

 section
set_option linter.unusedVariables false
set_option linter.unusedSimpArgs false
namespace Go.Eng
 section
variable {P : Program} {nz : List Nat} {nk : Nat → List Nat} {g : Gh} {w : World} {mem mem' : Mem} {fr : List Nat} {env env' : Env} {a : Act} {Φ : Oracle}

theorem inst_go {ts : List Bool} {ops : Array Oper} {o : Oper} {r : RInst} (hc : convInst P nz ts ops o = some r) (hg : o.guard = none) (e : Env) (m : Mem) : stepInst Φ r e m = stepGo Φ r e m := by
  unfold convInst at hc
  split at hc
  · split at hc
    · rename_i ys gd _ hgd
      cases hc
      rw [hg] at hgd
      cases hgd
      rfl
    · cases hc
  · cases hc

/-- One step whose run is known. -/
theorem go_known (hΦ : CallOk P Φ) {o : Oper} {ts : List Bool} {ops : Array Oper} {r : RInst} (hc : convInst P nz ts ops o = some r) (hg : o.guard = none) {env1 : Env} {mem1 : Mem} (hs : stepInst Φ r env mem = some (env1, mem1)) (h : St g w a env mem fr) {v : Value} {w' : World}
    (hr : (execOp a.eval o).run P w = .ok (.value v) w') : ∃ g', St g' w' (a.put o.dst v) env1 mem1 fr ∧ Goes (clm g a env mem) g w (clm g' (a.put o.dst v) env1 mem1) g' w' := by
  rw [inst_go hc hg] at hs
  have := go_sound hΦ hc hs h
  unfold OpPost at this
  rw [hr] at this
  exact this
theorem go_known_skip (hΦ : CallOk P Φ) {o : Oper} {ts : List Bool} {ops : Array Oper} {r : RInst} (hc : convInst P nz ts ops o = some r) (hg : o.guard = none) {env1 : Env} {mem1 : Mem} (hs : stepInst Φ r env mem = some (env1, mem1)) (h : St g w a env mem fr) {w' : World}
    (hr : (execOp a.eval o).run P w = .ok .skip w') : ∃ g', St g' w' (a.put o.dst undef) env1 mem1 fr ∧ Goes (clm g a env mem) g w (clm g' (a.put o.dst undef) env1 mem1) g' w' := by
  rw [inst_go hc hg] at hs
  have := go_sound hΦ hc hs h
  unfold OpPost at this
  rw [hr] at this
  exact this

theorem run_nilCheck {o : Oper} {x : Operand} {ρ : Operand → Value} {ad : Addr} (hop : o.op = .nilCheck x) (hx : ρ x = .pointer (some ad)) : (execOp ρ o).run P w = .ok (.value (.pointer (some ad))) w := by
  unfold execOp; rw [hop]; simp only [hx]; rfl
theorem run_fieldAddr {o : Oper} {x : Operand} {ρ : Operand → Value} {ad : Addr} {s : TypeId} {f off n : Nat} {ag : Bool} (hop : o.op = .fieldAddr s x f) (hq : fieldOf P s f = some (off, n, ag)) (hn : n ≠ 0) (hx : ρ x = .pointer (some ad)) :
    (execOp ρ o).run P w = .ok (.value (.pointer (some (ad.add off)))) w := by
  unfold fieldOf at hq
  split at hq
  · rename_i fs hu
    split at hq
    · rename_i fd hfd
      simp only [Option.ite_none_right_eq_some, Option.some.injEq, Prod.mk.injEq] at hq
      obtain ⟨hk, rfl, rfl, rfl⟩ := hq
      have key : (Instr.fieldAt s (.pointer (some ad)) f).run P w = .ok (.pointer (some (ad.add fd.offset))) w := by
        simp only [Instr.fieldAt, Sem.run_bind, run_und hu, Result.andThen_ok, hfd, run_sure, fieldPlace, run_sizeOf hk, if_neg hn]; rfl
      unfold execOp; rw [hop]
      simp only [hx]
      exact run_value key
    · cases hq
  · cases hq

theorem pure1 {e e1 : Env} {m m1 : Mem} {d : Nat} {q : POp} {y : Opd} (h : stepInst Φ ⟨some d, .pure q, [y], none⟩ e m = some (e1, m1)) : ∃ r, pureOp q [y.ev e] = some r ∧ e1 = (y.clr e).set d r.plain ∧ m1 = m := by
  simp only [stepInst, stepGo, evs, opA] at h
  split at h
  · rename_i d0 m0 hd
    split at hd
    · rename_i r hr
      cases hd; cases h
      exact ⟨r, hr, rfl, rfl⟩
    · cases hd
  · cases h

theorem conv1 {ts : List Bool} {ops : Array Oper} {o : Oper} {r : RInst} {q : POp} {x : Operand} (hc : convInst P nz ts ops o = some r) (hg : o.guard = none) (hop : convOp P nz ts o = some (.pure q, [x])) : ∃ y, conOpd nz x (ts.headD false) = some y ∧ r = ⟨o.dst, .pure q, [y], none⟩ := by
  unfold convInst at hc
  rw [hop] at hc
  simp only [hg, convGuard, conOpds] at hc
  cases hy : conOpd nz x (ts.headD false) with
  | none => rw [hy] at hc; simp at hc
  | some y => rw [hy] at hc; simp at hc; exact ⟨y, rfl, hc.symm⟩
theorem conv2 {ts : List Bool} {ops : Array Oper} {o : Oper} {r : RInst} {k : OpK} {x y : Operand} (hc : convInst P nz ts ops o = some r) (hg : o.guard = none) (hop : convOp P nz ts o = some (k, [x, y])) : ∃ x' y', conOpd nz x (ts.headD false) = some x' ∧ conOpd nz y (ts.tail.headD false) = some y' ∧ r = ⟨o.dst, k, [x', y'], none⟩ := by
  unfold convInst at hc
  rw [hop] at hc
  simp only [hg, convGuard, conOpds] at hc
  cases hx : conOpd nz x (ts.headD false) with
  | none => rw [hx] at hc; simp at hc
  | some x' =>
    cases hy : conOpd nz y (ts.tail.headD false) with
    | none => rw [hx, hy] at hc; simp at hc
    | some y' => rw [hx, hy] at hc; simp at hc; exact ⟨x', y', rfl, rfl, hc.symm⟩
theorem conTmp {d : Nat} {tk : Bool} {y : Opd} (h : conOpd nz (.tmp d) tk = some y) : y = .t d tk := by
  simpa [conOpd] using h.symm
theorem ev_tmp {e : Env} {d : Nat} {tk : Bool} : (Opd.t d tk).ev e = e.getD d .junk ∨ (Opd.t d tk).ev e = (e.getD d .junk).plain := by
  cases tk
  · exact .inr rfl
  · exact .inl rfl

 end
end Go.Eng
 end
