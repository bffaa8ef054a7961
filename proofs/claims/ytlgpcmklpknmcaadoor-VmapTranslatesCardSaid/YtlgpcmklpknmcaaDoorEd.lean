/- Rows of the call's own: made anew, and appended to.
   append, slice literals, struct values: done.
   append, slice literals, struct values as operations; and one theorem over all operations.
   Calls, one instruction, a region in the text's order, and code. -/
import Derived.Test.YtlgpcmklpknmcaaDoorEc
import Derived.Lib.ConvBytes
import Derived.Laws.BytesArg
import Derived.Laws.IdiomStrings
 section
set_option linter.unusedVariables false
set_option linter.unusedSimpArgs false
namespace Go.Eng

def persNew (p : Pers) (b off : Nat) (us : List Value) : Pers := fun b' o => if b' = b ∧ off ≤ o ∧ o < off + us.length then us[o - off]? else p b' o

theorem persNew_old {p : Pers} {b off : Nat} {us : List Value} {b' o : Nat} (h : b' ≠ b ∨ o < off ∨ off + us.length ≤ o) : persNew p b off us b' o = p b' o := by
  unfold persNew; rw [if_neg (by omega)]
theorem persNew_at {p : Pers} {b off : Nat} {us : List Value} {i : Nat} {v : Value} (h : us[i]? = some v) : persNew p b off us b (off + i) = some v := by
  unfold persNew; rw [if_pos ⟨rfl, by omega, by have := lt_of_get h; omega⟩]
  rw [show off + i - off = i by omega]; exact h
theorem persNew_mono {p : Pers} {b off : Nat} {us : List Value} (hf : ∀ o, off ≤ o → o < off + us.length → p b o = none) : ∀ b' o v, p b' o = some v → persNew p b off us b' o = some v := by
  intro b' o v h
  rw [persNew_old ?_]; · exact h
  by_cases hb : b' = b
  · subst hb
    by_cases h1 : o < off
    · exact .inr (.inl h1)
    · by_cases h2 : off + us.length ≤ o
      · exact .inr (.inr h2)
      · rw [hf o (by omega) (by omega)] at h; cases h
  · exact .inl hb

 section
variable {P : Program} {g : Gh} {w : World} {vs : List Value} {ds : List AV} {mem mem' : Mem} {fr : List Nat} {d : AV}

/-- A slice's own leaf. -/
theorem own_sl {ad : Addr} {n c : Nat} {q : Bool} {z : Nat} {xs : List AV} : own (.slice (some ad) n c) (.sl q z xs) = if q then [ad.block] else [] := by
  cases q <;> rfl
theorem ok_sl {p : Pers} {ad : Addr} {n c z : Nat} {xs : List AV} (h : TailAt w p ad n c z) : OwnOk w p (.slice (some ad) n c) (.sl true z xs) := by
  intro x hx
  simp [leaves, leaves2] at hx; subst hx; exact h

/-- A new row: its first cells are known for good. -/
theorem Inv.newRow (h : Inv g w vs ds mem fr) {w' : World} {e : TypeId} {C : List Value} {fz : Nat × Nat} (hw : w'.heap = w.heap.push (.cells ⟨C⟩ e fz)) (ho : w'.os = w.os) (hta : w'.tape = w.tape) (hou : w'.output = w.output)
    {n c z : Nat} {xs : List AV} (hz : ∀ x ∈ xs, x.cells.length = z) (hn : n = xs.length) (hc : n ≤ c) (hC : c * z ≤ C.length) (hr : RepL g.pers [] (C.take (n * z)) (flat xs))
    (hf : ∀ o, n * z ≤ o → o < c * z → ¬ (fz.1 ≤ o ∧ o < fz.2)) (h1c : ∀ v ∈ C.take (n * z), oneCell v = true) (hzp : 0 < z) :
    let v : Value := .slice (some ⟨w.heap.size, 0, none⟩) n c
    let g' : Gh := { g with pers := persNew g.pers w.heap.size 0 (C.take (n * z)) }
    Inv g' w' [v] [.sl true z xs] mem fr ∧ Goes (claims g vs ds mem) g w (claims g' [v] [.sl true z xs] mem) g' w' := by
  intro v g'
  have hsz : w'.heap.size = w.heap.size + 1 := by rw [hw]; simp
  have hnz : n * z ≤ C.length := Nat.le_trans (Nat.mul_le_mul_right _ hc) hC
  have hlen : (C.take (n * z)).length = n * z := by rw [List.length_take]; omega
  have fresh : ∀ o, g.pers w.heap.size o = none := fun o => by
    cases hq : g.pers w.heap.size o with
    | none => rfl
    | some u => exact absurd (pers_lt h hq) (Nat.lt_irrefl _)
  have hmono := persNew_mono (p := g.pers) (b := w.heap.size) (off := 0) (us := C.take (n * z)) fun o _ _ => fresh o
  have keep : ∀ b, b < w.heap.size → w'.heap[b]? = w.heap[b]? ∧ ∀ o, g'.pers b o = g.pers b o := fun b hb =>
    ⟨by rw [hw]; exact push_get hb, fun o => persNew_old (.inl (Nat.ne_of_lt hb))⟩
  have hnew : w'.heap[w.heap.size]? = some (.cells ⟨C⟩ e fz) := by rw [hw]; exact push_new
  have hown : own v (.sl true z xs) = [w.heap.size] := rfl
  have e1 : ownL [v] [.sl true z xs] = [w.heap.size] := by simp [ownL, hown]
  have hpc : ∀ b o u, g'.pers b o = some u → w'.cell? ⟨b, o, none⟩ = some u := by
    intro b o u hp
    by_cases hb : b = w.heap.size
    · subst hb
      have hp : persNew g.pers w.heap.size 0 (C.take (n * z)) w.heap.size o = some u := hp
      unfold persNew at hp
      split at hp
      · rw [cell_of_blk hnew]
        rw [Nat.sub_zero, List.getElem?_take] at hp
        split at hp
        · exact hp
        · cases hp
      · rw [fresh] at hp; cases hp
    · have hp : g.pers b o = some u := by
        have : persNew g.pers w.heap.size 0 (C.take (n * z)) b o = some u := hp
        rwa [persNew_old (.inl hb)] at this
      have hlt := pers_lt h hp
      have := h.persOk b o u hp
      unfold World.cell? at this ⊢
      simp only at this ⊢
      rw [(keep b hlt).1]; exact this
  have hrep : Rep g'.pers g'.bl v (.sl true z xs) := by
    refine .sl _ n c true z xs (C.take (n * z)) hz hn hc hlen ?_ (fun _ ad had => by cases had; rfl) (fun hh => by cases hh) h1c (fun h => by omega) fun i u f a b => (hr.2 i u f a b).mono hmono (List.prefix_refl _)
    refine .inr ⟨_, rfl, rfl, fun i u hu => ?_⟩
    exact persNew_at hu
  have hok : OwnOk w' g'.pers v (.sl true z xs) := by
    refine ok_sl ⟨⟨C⟩, e, fz, hnew, by simpa using hC, fun o a b => ⟨?_, hf o (by simpa using a) (by simpa using b)⟩⟩
    show persNew g.pers w.heap.size 0 (C.take (n * z)) w.heap.size o = none
    simp only [Nat.zero_add] at a
    rw [persNew_old (.inr (.inr (by rw [hlen]; omega)))]; exact fresh o
  have h0 : Inv g' w' vs ds mem fr := h.grow (by omega) rfl rfl hmono keep hpc
  have hcl : ∀ t, (claims g' [v] [.sl true z xs] mem).count t = g.bl.count t + [w.heap.size].count t + (ownM g.mv mem).count t := by
    intro t; rw [count_claims, e1]
  refine ⟨⟨repL_mk hrep repL_nil, fun i u f a b => ?_, h0.blLen, h0.mvLen, h0.persOk, h0.memOk, ?_, h0.frLt, h0.memPtr⟩, ⟨ho, hta, hou, by omega, hmono, List.prefix_refl _, fun b hb _ => keep b hb⟩, fun t ht => ?_⟩
  · cases i with
    | zero => simp at a b; subst a; subst b; exact hok
    | succ i => simp at a
  · rw [List.nodup_iff_count]; intro t
    rw [List.count_append, hcl]
    have h1 := nd_count h t
    rw [count_claims] at h1
    by_cases ht : t = w.heap.size
    · have h2 : t ∉ claims g vs ds mem := fun hm => by have := h.claims_lt hm; omega
      have h3 : t ∉ fr := fun hm => by have := h.frLt t hm; omega
      rw [mem_count, count_claims] at h2
      rw [mem_count] at h3
      have : [w.heap.size].count t = 1 := by rw [ht]; simp
      omega
    · have : [w.heap.size].count t = 0 := by rw [List.count_eq_zero]; simpa using ht
      omega
  · rw [mem_count, hcl] at ht
    by_cases hc : 0 < (claims g vs ds mem).count t
    · exact .inl (mem_count.2 hc)
    · right
      rw [count_claims] at hc
      have : 0 < [w.heap.size].count t := by omega
      have := mem_count.2 this
      simp at this; omega

/-- A row of the call's own grows in place. -/
theorem Inv.growRow {ad : Addr} {n c z : Nat} {xs ys : List AV} {xv : Value} {xd : AV} (h : Inv g w [.slice (some ad) n c, xv] [.sl true z xs, xd] mem fr) {C : List Value} {e : TypeId} {fz : Nat × Nat}
    (hC : w.heap[ad.block]? = some (.cells ⟨C⟩ e fz)) (hzx : ∀ x ∈ xs, x.cells.length = z) (hzy : ∀ x ∈ ys, x.cells.length = z) (hn : n = xs.length)
    {news : List Value} (hlen : news.length = ys.length * z) (hroom : n + ys.length ≤ c) (hr : RepL g.pers [] news (flat ys)) (h1n : ∀ v ∈ news, oneCell v = true) (hzp : 0 < z) :
    let C' := C.take (ad.off + n * z) ++ news ++ C.drop (ad.off + n * z + news.length)
    let w' := World.setBlk w ad.block (.cells ⟨C'⟩ e fz)
    let v : Value := .slice (some ad) (n + ys.length) c
    let g' : Gh := { g with pers := persNew g.pers ad.block (ad.off + n * z) news }
    Inv g' w' [v] [.sl true z (xs ++ ys)] mem fr ∧ Goes (claims g [.slice (some ad) n c, xv] [.sl true z xs, xd] mem) g w (claims g' [v] [.sl true z (xs ++ ys)] mem) g' w' := by
  intro C' w' v g'
  have r1 : Rep g.pers g.bl (.slice (some ad) n c) (.sl true z xs) := h.envRep.2 0 _ _ rfl rfl
  have o1 : OwnOk w g.pers (.slice (some ad) n c) (.sl true z xs) := h.envOwn 0 _ _ rfl rfl
  obtain ⟨cells0, e0, fz0, hC0, hfit, htail⟩ : TailAt w g.pers ad n c z := o1 (.slice (some ad) n c, .sl true z xs) (by simp [leaves, leaves2])
  rw [hC] at hC0; cases hC0
  have hblt := (Array.getElem?_eq_some_iff.1 hC).1
  have hfit : ad.off + c * z ≤ C.length := by simpa using hfit
  have hsum : n * z + news.length ≤ c * z := by
    rw [hlen, ← Nat.add_mul]; exact Nat.mul_le_mul_right _ hroom
  obtain ⟨A, c', us, hv, hle, hz', hus, hA, hsp, h00, h11, h22, hcell⟩ := rep_sl r1
  injection hv with ha2 hb2 hc2
  subst ha2; subst hc2
  have hadn : ad.spot = none := hsp (.inl rfl) ad rfl
  have hmono := persNew_mono (p := g.pers) (b := ad.block) (off := ad.off + n * z) (us := news) fun o a b => (htail o a (by omega)).1
  have e2 : ownL [.slice (some ad) n c, xv] [.sl true z xs, xd] = ad.block :: own xv xd := by simp [ownL, own_sl]
  have e3 : ownL [v] [.sl true z (xs ++ ys)] = [ad.block] := by simp [ownL, v, own_sl]
  have hnd := nd_count h
  have hlenC' : C'.length = C.length := by
    simp only [C', List.length_append, List.length_take, List.length_drop]; omega
  have hnew : w'.heap[ad.block]? = some (.cells ⟨C'⟩ e fz) := by simp only [w']; rw [getElem?_setBlk hblt, if_pos rfl]
  have keep : ∀ b, b ≠ ad.block → w'.heap[b]? = w.heap[b]? ∧ ∀ o, g'.pers b o = g.pers b o := fun b hb =>
    ⟨by simp only [w']; rw [getElem?_setBlk hblt, if_neg (Ne.symm hb)], fun o => persNew_old (.inl hb)⟩
  have hnot : ∀ t, t = ad.block → g.bl.count t = 0 ∧ (ownM g.mv mem).count t = 0 ∧ fr.count t = 0 := by
    rintro t rfl
    have := hnd ad.block
    rw [count_claims, e2, List.count_cons_self] at this
    omega
  have hpc : ∀ b o u, g'.pers b o = some u → w'.cell? ⟨b, o, none⟩ = some u := by
    intro b o u hp
    by_cases hb : b = ad.block
    · subst hb
      rw [cell_of_blk hnew]
      have hp : persNew g.pers ad.block (ad.off + n * z) news ad.block o = some u := hp
      unfold persNew at hp
      split at hp
      · rename_i hin
        simp only [C']
        rw [List.append_assoc, List.getElem?_append_right (by rw [List.length_take]; omega), List.getElem?_append_left (by rw [List.length_take]; omega)]
        rw [List.length_take, Nat.min_eq_left (by omega)]; exact hp
      · rename_i hin
        have h1 := h.persOk ad.block o u hp
        rw [cell_of_blk hC] at h1
        have : o < ad.off + n * z ∨ ad.off + n * z + news.length ≤ o := by omega
        simp only [C']
        rcases this with hlt | hge
        · rw [List.append_assoc, List.getElem?_append_left (by rw [List.length_take]; have := lt_of_get h1; omega), List.getElem?_take, if_pos hlt]; exact h1
        · rw [List.getElem?_append_right (by simp only [List.length_append, List.length_take]; omega), List.getElem?_drop]
          simp only [List.length_append, List.length_take]
          rw [Nat.min_eq_left (by omega), show ad.off + n * z + news.length + (o - (ad.off + n * z + news.length)) = o by omega]; exact h1
    · have hp : g.pers b o = some u := by
        have : persNew g.pers ad.block (ad.off + n * z) news b o = some u := hp
        rwa [persNew_old (.inl hb)] at this
      have := h.persOk b o u hp
      unfold World.cell? at this ⊢
      simp only at this ⊢
      rw [(keep b hb).1]; exact this
  have hrep : Rep g'.pers g'.bl v (.sl true z (xs ++ ys)) := by
    have hrx : RepL g.pers [] us (flat xs) := ⟨by rw [hus, flat_len hz'], hcell⟩
    refine .sl _ _ c true z (xs ++ ys) (us ++ news) (fun x hx => ?_) (by simp [hn]) (by omega) ?_ ?_ (fun _ a ha => by cases ha; exact hadn) (fun hh => by cases hh) (fun u hu => (List.mem_append.1 hu).elim (h11 u) (h1n u)) (fun h => by omega) fun i u f a b => ?_
    · rcases List.mem_append.1 hx with hx | hx
      · exact hzx x hx
      · exact hzy x hx
    · simp only [List.length_append, hus, hlen, Nat.add_mul, hn]
    · refine .inr ⟨ad, rfl, hadn, fun i u hu => ?_⟩
      rcases Nat.lt_or_ge i us.length with hi | hi
      · rw [List.getElem?_append_left hi] at hu
        rcases hA with rfl | ⟨ad', ha', hh⟩
        · simp at hi
        · cases ha'; exact hmono _ _ _ (hh.2 i u hu)
      · rw [List.getElem?_append_right hi] at hu
        have := persNew_at (p := g.pers) (b := ad.block) (off := ad.off + n * z) hu
        rw [hus] at this hi
        show persNew g.pers ad.block (ad.off + n * z) news ad.block (ad.off + i) = some u
        rw [← this]; congr 1; rw [hn]; omega
    · rw [flat_append] at b
      rcases Nat.lt_or_ge i us.length with hi | hi
      · rw [List.getElem?_append_left hi] at a
        rw [List.getElem?_append_left (by rw [← hrx.1]; exact hi)] at b
        exact (hcell i u f a b).mono hmono (List.prefix_refl _)
      · rw [List.getElem?_append_right hi] at a
        rw [List.getElem?_append_right (by rw [← hrx.1]; exact hi), ← hrx.1] at b
        exact (hr.2 _ u f a b).mono hmono (List.prefix_refl _)
  have hok : OwnOk w' g'.pers v (.sl true z (xs ++ ys)) := by
    refine ok_sl ⟨⟨C'⟩, e, fz, hnew, by simpa [hlenC'] using hfit, fun o a b => ?_⟩
    rw [Nat.add_mul, ← hlen] at a
    have := htail o (by omega) b
    refine ⟨?_, this.2⟩
    show persNew g.pers ad.block (ad.off + n * z) news ad.block o = none
    rw [persNew_old (.inr (.inr (by omega)))]; exact this.1
  have hcl : ∀ t, (claims g' [v] [.sl true z (xs ++ ys)] mem).count t = g.bl.count t + [ad.block].count t + (ownM g.mv mem).count t := by
    intro t; rw [count_claims, e3]
  have hle2 : ∀ t, (claims g' [v] [.sl true z (xs ++ ys)] mem).count t ≤ (claims g [.slice (some ad) n c, xv] [.sl true z xs, xd] mem).count t := by
    intro t
    rw [hcl, count_claims, e2]
    have : (ad.block :: own xv xd).count t = [ad.block].count t + (own xv xd).count t := by
      rw [← List.singleton_append, List.count_append]
    omega
  refine ⟨⟨repL_mk hrep repL_nil, fun i u f a b => ?_, h.blLen, h.mvLen, hpc, fun i b us2 cs2 k1 k2 k3 => ?_, ?_, fun t ht => by simp only [w']; rw [setBlk_size]; exact h.frLt t ht, h.memPtr⟩, ⟨rfl, rfl, rfl, by simp only [w']; rw [setBlk_size]; exact Nat.le_refl _, hmono, List.prefix_refl _, fun b hb hA => keep b ?_⟩, fun t ht => .inl ?_⟩
  · cases i with
    | zero => simp at a b; subst a; subst b; exact hok
    | succ i => simp at a
  · have k1 : g.bl[i]? = some b := k1
    have k2 : g.mv[i]? = some us2 := k2
    have m := h.memOk i b us2 cs2 k1 k2 k3
    have hne : b ≠ ad.block := fun hb => by
      have := (hnot b hb).1
      have := mem_count.1 (List.mem_of_getElem? k1); omega
    obtain ⟨e4, fz4, q1, q2⟩ := m.obj
    refine ⟨⟨e4, fz4, (keep b hne).1.trans q1, q2⟩, fun o => ((keep b hne).2 o).trans (m.free o), m.rep.mono hmono (List.prefix_refl _), fun j u f p q => (m.own j u f p q).keep fun t ht => keep t fun htb => ?_, m.bld.keep fun t ht => (keep t fun htb => ?_).1⟩
    rotate_left
    · rcases ht with rfl | ht
      · exact hne htb
      · have h1 := (hnot t htb).2.1
        have : t ∈ ownM g.mv mem := List.mem_flatMap.2 ⟨(us2, cs2), List.mem_of_getElem? (zip_get k2 k3), ht⟩
        have := mem_count.1 this; omega
    have h1 := (hnot t htb).2.1
    have : t ∈ ownM g.mv mem := List.mem_flatMap.2 ⟨(us2, cs2), List.mem_of_getElem? (zip_get k2 k3), mem_ownL p q ht⟩
    have := mem_count.1 this; omega
  · rw [List.nodup_iff_count]; intro t
    have := hnd t; have := hle2 t
    rw [List.count_append]; omega
  · rintro rfl
    exact hA (by rw [mem_count, count_claims, e2, List.count_cons_self]; omega)
  · have := mem_count.1 ht; have := hle2 t
    rw [mem_count]; omega
 end
end Go.Eng
 end

 section
set_option linter.unusedVariables false
set_option linter.unusedSimpArgs false
namespace Go.Eng
 section
variable {P : Program} {g : Gh} {w : World} {vs : List Value} {ds : List AV} {mem mem' : Mem} {fr : List Nat} {d : AV}

theorem cell_drew {w : World} (a : Addr) : w.drew.cell? a = w.cell? a := rfl

theorem source_sl {u e' : TypeId} (hu : P.underlying u = some (.slice e')) {p : Pers} {bl : List Nat} (hp : ∀ b o v, p b o = some v → w.cell? ⟨b, o, none⟩ = some v) {x : Value} {q : Bool} {z : Nat} {ys : List AV} (hr : Rep p bl x (.sl q z ys)) :
    ∃ news, Source P w u z x ys.length news ∧ RepL p [] news (flat ys) ∧ (∀ y ∈ ys, y.cells.length = z) := by
  obtain ⟨A, c, us, hv, hle, hz, hus, hA, hsp, h00, h11, h22, hcell⟩ := rep_sl hr
  subst hv
  refine ⟨us, ⟨.inl ⟨e', hu⟩, fun W => by simp [Builtin.lenOf], ?_, hus, h11⟩, ⟨by rw [hus, flat_len hz], hcell⟩, hz⟩
  cases A with
  | none =>
    have h0 := h00 rfl
    have : us = [] := by
      rcases hA with h | ⟨ad, h, _⟩
      · exact h
      · cases h
    subst this
    exact ⟨by simp [Builtin.firstCells], by simp [Builtin.firstCells]⟩
  | some ad =>
    have hc : ∀ (j : Nat) v, us[j]? = some v → w.cell? (ad.add j) = some v := by
      intro j v hj
      rcases hA with h | ⟨ad', h, hh⟩
      · subst h; simp at hj
      · cases h; rw [add_none hh.1]; exact hp _ _ _ (hh.2 j v hj)
    constructor
    · simp only [Builtin.firstCells, ← hus]; exact run_loadCells hc
    · simp only [Builtin.firstCells, ← hus]; exact run_loadCells (w := w.drew) fun j v hj => hc j v hj

theorem flat_bytes : ∀ (l : List UInt8), flat (l.map byte) = l.map byte
  | [] => rfl
  | b :: l => by
    have := flat_bytes l
    simp only [flat, List.map_cons, List.flatMap_cons] at *
    rw [this]; rfl

theorem source_str {u : TypeId} (hu : P.underlying u = some .string) {p : Pers} {bl : List Nat} {l : List UInt8} :
    Source P w u 1 (.string ⟨⟨l⟩⟩) (l.map byte).length (l.map fun b => .int .u8 (b.toNat : Int)) ∧ RepL p bl (l.map fun b => .int .u8 (b.toNat : Int)) (flat (l.map byte)) ∧ (∀ y ∈ l.map byte, y.cells.length = 1) := by
  refine ⟨⟨.inr hu, fun W => by simp [Builtin.lenOf, str_size], ?_, by simp, fun v hv => ?_⟩, ?_, fun y hy => ?_⟩
  · have : ∀ W, (Builtin.firstCells 1 (l.map byte).length (.string ⟨⟨l⟩⟩)).run P W = .ok ⟨l.map fun b => .int .u8 (b.toNat : Int)⟩ W := by
      intro W
      simp only [Builtin.firstCells, str_extract, List.length_map, List.take_length, List.drop_zero, Sem.run_pure]
      congr 1; apply Array.ext'; simp
    exact ⟨this _, this _⟩
  · obtain ⟨b, _, rfl⟩ := List.mem_map.1 hv; rfl
  · rw [flat_bytes]
    refine ⟨by simp, fun i v d a b => ?_⟩
    obtain ⟨x, hx, rfl⟩ := getElem?_map_some a
    obtain ⟨y, hy, rfl⟩ := getElem?_map_some b
    rw [hx] at hy; cases hy
    exact .int ..
  · obtain ⟨b, _, rfl⟩ := List.mem_map.1 hy; rfl

theorem info_all {e : TypeId} (hk : known P e = true) (hz : zeroOk P e = true) : ∃ i z, P.info? e = some i ∧ i.size = szOf P e ∧ i.bytes = bytesOf P e ∧ i.zero = some z ∧ z.cells.size = szOf P e := by
  obtain ⟨i, hi, hs⟩ := info_of_known hk
  unfold zeroOk at hz
  rw [hi] at hz
  simp only at hz
  split at hz
  · rename_i v hv
    exact ⟨i, v, hi, hs, by simp [bytesOf, hi], hv, by rw [← hs]; simpa using hz⟩
  · cases hz

theorem row_pushed {w : World} {A : Array Value} {e : TypeId} : ∃ C fz, (w.drew.alloc (.cells A e)).heap[w.heap.size]? = some (.cells C e fz) :=
  ⟨A, (0, 0), by show (w.heap.push _)[w.heap.size]? = _; simp⟩

/-- A row that grew out of one of elements e is one of elements e. -/
def RowTy (e : TypeId) (w : World) (s : Value) (w' : World) (v : Value) : Prop :=
  ∀ ad n c, v = .slice (some ad) n c → (∀ ad0 n0 c0, s = .slice (some ad0) n0 c0 → ad0.off = 0 ∧ c0 ≠ 0 ∧ ∃ C fz, w.heap[ad0.block]? = some (.cells C e fz)) → ad.off = 0 ∧ c ≠ 0 ∧ ∃ C fz, w'.heap[ad.block]? = some (.cells C e fz)

/-- The heart of append, both ways. -/
theorem append_core' {s x : Value} {t u e : TypeId} (hk : known P e = true) (hzo : zeroOk P e = true) (ht : P.underlying t = some (.slice e)) {z1 : Nat} {xs ys : List AV} {xd : AV}
    (h : Inv g w [s, x] [.sl true z1 xs, xd] mem fr) (hz1 : z1 = szOf P e ∨ z1 = 0) {news : List Value} (hs : Source P w u (szOf P e) x ys.length news) (hr : RepL g.pers [] news (flat ys)) (hzy : ∀ y ∈ ys, y.cells.length = szOf P e)
    (hz0 : 0 < szOf P e) (hfit : (2 * (xs.length + ys.length) + 1024) * bytesOf P e ≤ 140737488355328) (hsm : xs.length + ys.length ≤ 4611686018427387904) (ty : TypeId) :
    ∃ v w', (Builtin.append_ #[t, u] ty #[s, x]).run P w = .ok v w' ∧ Done g w [s, x] [.sl true z1 xs, xd] mem fr (.sl true (szOf P e) (xs ++ ys)) mem v w' ∧ RowTy e w s w' v := by
  obtain ⟨i, z, hi, his, hib, hiz, hzs⟩ := info_all hk hzo
  have r1 : Rep g.pers g.bl s (.sl true z1 xs) := h.envRep.2 0 _ _ rfl rfl
  obtain ⟨A, c, us, hv, hle, hzx, hus, hA, hsp, h00, h11, h22, hcell⟩ := rep_sl r1
  have hs' : Source P w u i.size x ys.length news := by rw [his]; exact hs
  subst hv
  cases A with
  | none =>
    have hc0 := h00 rfl
    subst hc0
    have hx0 : xs = [] := List.length_eq_zero_iff.1 (by omega)
    subst hx0
    have hus0 : us = [] := by
      rcases hA with h | ⟨ad, h, _⟩
      · exact h
      · cases h
    by_cases hy0 : ys.length = 0
    · -- nothing to nothing
      have hy : ys = [] := List.length_eq_zero_iff.1 hy0
      subst hy
      refine ⟨.slice none 0 0, w, ?_, ⟨g, h.one ?_ ?_ ?_⟩, fun ad n c hq => by cases hq⟩
      · have := run_append_room' (P := P) (w := w) (t := t) (u := u) (ty := ty) ht hi hs' (base := none) (sLen := 0) (sCap := 0) (by simp) (w' := w) (by simp)
        simpa using this
      · exact .sl none 0 0 true _ [] [] (fun y hy => by cases hy) rfl (Nat.le_refl _) (by simp) (.inl rfl) (fun _ ad h => by cases h) (fun _ => rfl) (fun u h => by cases h) (fun _ => rfl) (fun i v d h => by simp at h)
      · intro y hy; simp [leaves, leaves2] at hy; subst hy; trivial
      · intro t; simp [own, leaves, leaves2, own1]
    · -- a first row
      have hrun := run_append_grow' (P := P) (w := w) (t := t) (u := u) (ty := ty) (z := z) ht hi hiz hs' (base := none) (sLen := 0) (sCap := 0) (olds := []) (by simp [Builtin.firstCells]) (by omega) (by omega)
        (growslice_fits (by omega) (by rw [hib]; simp only [List.length_nil, Nat.zero_add] at hfit ⊢; exact Nat.le_trans (Nat.mul_le_mul_right _ (by omega)) hfit))
      refine ⟨_, _, hrun, ?_⟩
      have hge := grownCap_ge w (0 + ys.length) 0 e
      have key := h.newRow (w' := w.drew.alloc (.cells (⟨[]⟩ ++ ⟨news⟩ ++ Builtin.zeroCells z.cells (grownCap w (0 + ys.length) 0 e - (0 + ys.length))) e)) (e := e) (C := news ++ (Builtin.zeroCells z.cells (grownCap w (0 + ys.length) 0 e - (0 + ys.length))).toList) (fz := (0, 0))
        (by show w.heap.push _ = _; congr 2; apply Array.ext'; simp) rfl rfl rfl (n := ys.length) (c := grownCap w (0 + ys.length) 0 e) (z := szOf P e) (xs := ys) hzy rfl (by omega)
        (by
          simp only [List.length_append, Array.length_toList, size_zeroCells, hzs, hs.cnt]
          rw [← Nat.add_mul]; exact Nat.mul_le_mul_right _ (by omega))
        (by rw [List.take_append_of_le_length (by rw [hs.cnt]; exact Nat.le_refl _), List.take_of_length_le (by rw [hs.cnt]; exact Nat.le_refl _)]; exact hr)
        (fun o _ _ => by omega)
        (by rw [List.take_append_of_le_length (by rw [hs.cnt]; exact Nat.le_refl _), List.take_of_length_le (by rw [hs.cnt]; exact Nat.le_refl _)]; exact hs.one) hz0
      have e0 : 0 + ys.length = ys.length := by omega
      rw [show ([] : List AV).length = 0 from rfl] at *
      simp only [e0] at key ⊢
      refine ⟨⟨_, key⟩, fun ad n c hq _ => ?_⟩
      cases hq
      refine ⟨rfl, fun h0 => ?_, row_pushed⟩
      first | (rw [h0] at hge; omega) | (simp only [e0] at *; rw [h0] at hge; omega)
  | some ad =>
    have hzz : z1 = szOf P e := by
      rcases hz1 with h | h
      · exact h
      · have := h22 h; cases this
    subst hzz
    by_cases hroom : xs.length + ys.length ≤ c
    · have o1 : OwnOk w g.pers (.slice (some ad) xs.length c) (.sl true (szOf P e) xs) := h.envOwn 0 _ _ rfl rfl
      obtain ⟨cells0, e0, fz0, hC0, hfit0, htail⟩ : TailAt w g.pers ad xs.length c (szOf P e) := o1 (.slice (some ad) xs.length c, .sl true (szOf P e) xs) (by simp [leaves, leaves2])
      have hC0 : w.heap[ad.block]? = some (.cells ⟨cells0.toList⟩ e0 fz0) := hC0
      have hsum : xs.length * szOf P e + news.length ≤ c * szOf P e := by
        rw [hs.cnt, ← Nat.add_mul]; exact Nat.mul_le_mul_right _ hroom
      have hst := run_storeCells (P := P) (b := ad.block) (off := ad.off + xs.length * szOf P e) (e := e0) (fz := fz0) news 0 cells0.toList w hC0 (fun o a b => (htail o (by omega) (by omega)).2) (by simp; omega) hs.one
      have hrun := run_append_room' (P := P) (w := w) (t := t) (u := u) (ty := ty) ht hi hs' (base := some ad) hroom (by rw [his]; simp only; rw [add_none (hsp (.inl rfl) ad rfl)]; exact hst)
      refine ⟨_, _, hrun, ?_⟩
      have key := h.growRow hC0 hzx hzy rfl hs.cnt hroom hr hs.one hz0
      simp only [Nat.add_zero] at key ⊢
      refine ⟨⟨_, key⟩, fun ad' n c' hq hs0 => ?_⟩
      cases hq
      obtain ⟨h00', hc00, C, fz, hC⟩ := hs0 ad _ _ rfl
      rw [hC0] at hC
      cases hC
      have hlt := (Array.getElem?_eq_some_iff.1 hC0).1
      exact ⟨h00', hc00, _, _, by rw [getElem?_setBlk hlt, if_pos rfl]⟩
    · have hc : ∀ (j : Nat) v, us[j]? = some v → w.cell? (ad.add j) = some v := by
        intro j v hj
        rcases hA with h' | ⟨ad', h', hh⟩
        · subst h'; simp at hj
        · cases h'; rw [add_none hh.1]; exact h.persOk _ _ _ (hh.2 j v hj)
      have hold : (Builtin.firstCells i.size xs.length (.slice (some ad) xs.length c)).run P w.drew = .ok ⟨us⟩ w.drew := by
        simp only [Builtin.firstCells, his, ← hus]; exact run_loadCells (w := w.drew) fun j v hj => hc j v hj
      have hrun := run_append_grow' (P := P) (w := w) (t := t) (u := u) (ty := ty) (z := z) ht hi hiz hs' (base := some ad) (sLen := xs.length) (sCap := c) hold (by omega) (by omega)
        (growslice_fits (by omega) (by rw [hib]; exact Nat.le_trans (Nat.mul_le_mul_right _ (by omega)) hfit))
      refine ⟨_, _, hrun, ?_⟩
      have hge := grownCap_ge w (xs.length + ys.length) c e
      have hlen : (us ++ news).length = (xs.length + ys.length) * szOf P e := by rw [List.length_append, hus, hs.cnt, Nat.add_mul]
      have key := h.newRow (w' := w.drew.alloc (.cells (⟨us⟩ ++ ⟨news⟩ ++ Builtin.zeroCells z.cells (grownCap w (xs.length + ys.length) c e - (xs.length + ys.length))) e)) (e := e) (C := us ++ news ++ (Builtin.zeroCells z.cells (grownCap w (xs.length + ys.length) c e - (xs.length + ys.length))).toList) (fz := (0, 0))
        (by show w.heap.push _ = _; congr 2; apply Array.ext'; simp) rfl rfl rfl (n := xs.length + ys.length) (c := grownCap w (xs.length + ys.length) c e) (z := szOf P e) (xs := xs ++ ys) (fun y hy => (List.mem_append.1 hy).elim (hzx y) (hzy y)) (by simp) (by omega)
        (by
          rw [List.length_append, hlen]
          simp only [Array.length_toList, size_zeroCells, hzs]
          rw [← Nat.add_mul]; exact Nat.mul_le_mul_right _ (by omega))
        (by
          rw [List.take_append_of_le_length (by rw [hlen]; exact Nat.le_refl _), List.take_of_length_le (by rw [hlen]; exact Nat.le_refl _), flat_append]
          have hrx : RepL g.pers [] us (flat xs) := ⟨by rw [hus, flat_len hzx], hcell⟩
          refine ⟨by simp [hrx.1, hr.1], fun j v d a b => ?_⟩
          rcases Nat.lt_or_ge j us.length with hj | hj
          · rw [List.getElem?_append_left hj] at a
            rw [List.getElem?_append_left (by rw [← hrx.1]; exact hj)] at b
            exact hcell j v d a b
          · rw [List.getElem?_append_right hj] at a
            rw [List.getElem?_append_right (by rw [← hrx.1]; exact hj), ← hrx.1] at b
            exact hr.2 _ v d a b)
        (fun o _ _ => by omega)
        (by
          rw [List.take_append_of_le_length (by rw [hlen]; exact Nat.le_refl _), List.take_of_length_le (by rw [hlen]; exact Nat.le_refl _)]
          exact fun v hv => (List.mem_append.1 hv).elim (h11 v) (hs.one v)) hz0
      refine ⟨⟨_, key⟩, fun ad' n c' hq _ => ?_⟩
      cases hq
      refine ⟨rfl, fun h0 => ?_, row_pushed⟩
      first | (rw [h0] at hge; omega) | (simp only [e0] at *; rw [h0] at hge; omega)

theorem append_core {s x : Value} {t u e : TypeId} (hk : known P e = true) (hzo : zeroOk P e = true) (ht : P.underlying t = some (.slice e)) {z1 : Nat} {xs ys : List AV} {xd : AV}
    (h : Inv g w [s, x] [.sl true z1 xs, xd] mem fr) (hz1 : z1 = szOf P e ∨ z1 = 0) {news : List Value} (hs : Source P w u (szOf P e) x ys.length news) (hr : RepL g.pers [] news (flat ys)) (hzy : ∀ y ∈ ys, y.cells.length = szOf P e)
    (hz0 : 0 < szOf P e) (hfit : (2 * (xs.length + ys.length) + 1024) * bytesOf P e ≤ 140737488355328) (hsm : xs.length + ys.length ≤ 4611686018427387904) (ty : TypeId) :
    ∃ v w', (Builtin.append_ #[t, u] ty #[s, x]).run P w = .ok v w' ∧ Done g w [s, x] [.sl true z1 xs, xd] mem fr (.sl true (szOf P e) (xs ++ ys)) mem v w' := by
  obtain ⟨v, w', h1, h2, _⟩ := append_core' hk hzo ht h hz1 hs hr hzy hz0 hfit hsm ty
  exact ⟨v, w', h1, h2⟩
 end
end Go.Eng
 end

 section
set_option linter.unusedVariables false
set_option linter.unusedSimpArgs false
namespace Go.Eng
 section
variable {P : Program} {g : Gh} {w : World} {vs : List Value} {ds : List AV} {mem mem' : Mem} {fr : List Nat} {d : AV}

theorem append_done {o : Oper} {c : Call} {s x : Operand} {t u e : TypeId} {ρ : Operand → Value} {Φ : Oracle} (hop : o.op = .call c) (hcal : c.callee = .builtin .append) (hargs : c.args.toList = [s, x]) (hts : c.argTypes.toList = [t, u])
    (hk : known P e = true) (hzo : zeroOk P e = true) (ht : P.underlying t = some (.slice e)) {str : Bool} (hu : (str = false ∧ ∃ e', P.underlying u = some (.slice e')) ∨ (str = true ∧ P.underlying u = some .string ∧ szOf P e = 1)) (h : Inv g w [ρ s, ρ x] ds mem fr)
    (hd : opA Φ (.append (szOf P e) (bytesOf P e) str) ds mem = some (d, mem')) : OpPost P (execOp ρ o) w (Done g w [ρ s, ρ x] ds mem fr d mem') := by
  obtain ⟨e1, e2, rfl, r1, r2⟩ := two h.envRep
  have ha : c.argTypes = #[t, u] := by apply Array.ext'; simpa using hts
  have hb : c.args = #[s, x] := by apply Array.ext'; simpa using hargs
  have hex : ∀ {v : Value} {w' : World}, (Builtin.append_ #[t, u] o.type #[ρ s, ρ x]).run P w = .ok v w' → (execOp ρ o).run P w = .ok (.value v) w' := by
    intro v w' hr
    unfold execOp; rw [hop]
    simp only [resolve, hcal, invoke, builtin, ha, hb, List.map_toArray, List.map_cons, List.map_nil, Sem.run_bind, Sem.run_pure, Result.andThen_ok, hr]
  simp only [opA] at hd
  split at hd
  · rename_i d0 hd0
    cases hd
    unfold appendA at hd0
    split at hd0
    · rename_i z1 xs q z2 ys
      simp only [Option.ite_none_right_eq_some, Option.some.injEq] at hd0
      obtain ⟨⟨hst, h0, h1, h2, h3, h4⟩, rfl⟩ := hd0
      rcases hu with ⟨_, e', hu⟩ | ⟨hu, _⟩
      · obtain ⟨news, a1, a2, a3⟩ := source_sl (P := P) (w := w) hu h.persOk r2
        have hzy : ∀ y ∈ ys, y.cells.length = szOf P e := by
          rcases h2 with rfl | rfl
          · exact a3
          · intro y hy; cases hy
        have a1' : Source P w u (szOf P e) (ρ x) ys.length news := by
          rcases h2 with rfl | rfl
          · exact a1
          · have hn : news = [] := List.length_eq_zero_iff.1 (by rw [a1.cnt]; simp)
            subst hn
            refine ⟨a1.typ, a1.len, ?_, by simp, a1.one⟩
            obtain ⟨A, c', us, hv, hle, hz, hus, hA, hsp, h00, h11, h22, hcell⟩ := rep_sl r2
            rw [hv]
            cases A <;> simp [Builtin.firstCells, loadCells, loadCellsFrom]
        obtain ⟨v, w', g1, g2⟩ := append_core hk hzo ht h h1 a1' a2 hzy h0 h3 h4 o.type
        exact .value (hex g1) g2
      · rw [hst] at hu; cases hu
    · rename_i z1 xs l
      simp only [Option.ite_none_right_eq_some, Option.some.injEq] at hd0
      obtain ⟨⟨hst, h0, h1, h3, h4⟩, rfl⟩ := hd0
      rcases hu with ⟨hu, _⟩ | ⟨_, hu, hs1⟩
      · rw [hst] at hu; cases hu
      · have hx := rep_str r2
        obtain ⟨a1, a2, a3⟩ := source_str (P := P) (w := w) hu (p := g.pers) (bl := []) (l := l)
        rw [← hs1] at a1 a3
        rw [← hx] at a1
        obtain ⟨v, w', g1, g2⟩ := append_core hk hzo ht h h1 a1 a2 a3 (by omega) (by simpa using h3) (by simpa using h4) o.type
        exact .value (hex g1) g2
    · cases hd0
  · cases hd

theorem zip_map_plain (w : World) (p : Pers) : ∀ (vs : List Value) (ds : List AV), ownL vs (ds.map AV.plain) = []
  | [], ds => by simp [ownL]
  | v :: vs, [] => by simp [ownL]
  | v :: vs, d :: ds => by
    have := zip_map_plain w p vs ds
    unfold ownL at *
    simp only [List.map_cons, List.zip_cons_cons, List.flatMap_cons, own_plain, List.nil_append]; exact this

/-- The cells of one element of a slice literal. -/
theorem elem_cells {p : Pers} {bl : List Nat} {v : Value} {z : Nat} {ag : Bool} (h : Rep p bl v d) (hk : okElem z ag d = true) :
    RepL p [] v.cells.toList d.plain.cells ∧ (∀ u ∈ v.cells.toList, oneCell u = true) ∧ d.plain.cells.length = z ∧ v.cells.size = z := by
  unfold okElem at hk
  rw [Bool.and_eq_true] at hk
  obtain ⟨hnp, hk⟩ := hk
  replace h : Rep p [] v d := h.free hnp
  split at hk
  · split at hk
    · rename_i cs
      simp only [Bool.and_eq_true, beq_iff_eq] at hk
      obtain ⟨vs, rfl, hl⟩ := rep_agg h
      have hc := cells_of_rep h (by simpa [AV.cells] using hk.2)
      have hp : AV.plain (.agg cs) = .agg (cs.map AV.plain1) := rfl
      rw [hp]
      refine ⟨⟨by simp [Value.cells, AV.cells, hl.1], fun i u c a b => ?_⟩, hc.2.1, by simp [AV.cells, hk.1], by simp [Value.cells, hl.1, hk.1]⟩
      obtain ⟨c', hc', rfl⟩ := getElem?_map_some b
      exact (hl.2 i u c' a hc').plain1
    · cases hk
  · simp only [Bool.and_eq_true, beq_iff_eq] at hk
    obtain ⟨rfl, hcell⟩ := hk
    have ho := isCell_one h hcell
    have hv : v.cells = #[v] := by cases v <;> first | rfl | simp [oneCell] at ho
    have hd : d.plain.cells = [d.plain] := by cases d <;> first | rfl | simp [AV.isCell] at hcell
    rw [hv, hd]
    exact ⟨repL_mk h.plain repL_nil, fun u hu => by simp at hu; subst hu; exact ho, rfl, rfl⟩

/-- All elements' cells, one behind the other. -/
theorem lits_cells {p : Pers} {bl : List Nat} {z : Nat} {ag : Bool} : ∀ {vs : List Value} {ds : List AV}, RepL p bl vs ds → ds.all (okElem z ag) = true →
    RepL p [] (vs.flatMap fun v => v.cells.toList) (flat (ds.map AV.plain)) ∧ (∀ u ∈ vs.flatMap fun v => v.cells.toList, oneCell u = true) ∧ (∀ x ∈ ds.map AV.plain, x.cells.length = z) ∧ (∀ v ∈ vs, v.cells.size = z)
  | [], [], h, _ => ⟨repL_nil, by simp, by simp, by simp⟩
  | [], d :: ds, h, _ => absurd h.1 (by simp)
  | v :: vs, [], h, _ => absurd h.1 (by simp)
  | v :: vs, d :: ds, h, ha => by
    simp only [List.all_cons, Bool.and_eq_true] at ha
    obtain ⟨a1, a2, a3, a4⟩ := elem_cells (repL_cons h).1 ha.1
    obtain ⟨b1, b2, b3, b4⟩ := lits_cells (repL_cons h).2 ha.2
    simp only [List.map_cons, List.flatMap_cons, flat]
    refine ⟨⟨by rw [List.length_append, List.length_append, a1.1]; congr 1; exact b1.1, fun i u c p q => ?_⟩, fun u hu => (List.mem_append.1 hu).elim (a2 u) (b2 u), fun x hx => ?_, fun x hx => ?_⟩
    · rcases Nat.lt_or_ge i v.cells.toList.length with hi | hi
      · rw [List.getElem?_append_left hi] at p
        rw [List.getElem?_append_left (by rw [← a1.1]; exact hi)] at q
        exact a1.2 i u c p q
      · rw [List.getElem?_append_right hi] at p
        rw [List.getElem?_append_right (by rw [← a1.1]; exact hi), ← a1.1] at q
        exact b1.2 _ u c p q
    · rcases List.mem_cons.1 hx with rfl | hx
      · exact a3
      · exact b3 x hx
    · rcases List.mem_cons.1 hx with rfl | hx
      · exact a4
      · exact b4 x hx

theorem fold_set {off : Nat} : ∀ (us : List Value) (j : Nat) (A B C : List Value), A.length = off + j → B.length = us.length →
    (us.zipIdx j).foldl (fun (cs : Array Value) (x : Value × Nat) => cs.setIfInBounds (off + x.2) x.1) ⟨A ++ B ++ C⟩ = ⟨A ++ us ++ C⟩
  | [], j, A, B, C, hA, hB => by
    have : B = [] := List.length_eq_zero_iff.1 hB
    subst this; simp
  | u :: us, j, A, [], C, hA, hB => by simp at hB
  | u :: us, j, A, b :: B, C, hA, hB => by
    have ih := fold_set (off := off) us (j + 1) (A ++ [u]) B C (by simp; omega) (by simpa using hB)
    simp only [List.zipIdx_cons, List.foldl_cons]
    have : (⟨A ++ b :: B ++ C⟩ : Array Value).setIfInBounds (off + j) u = ⟨A ++ [u] ++ B ++ C⟩ := by
      apply Array.ext'
      simp only [Array.toList_setIfInBounds]
      rw [← hA]
      simp
    rw [this, ih]; simp

theorem fold_cells {off : Nat} {v : Value} {A B C : List Value} (hA : A.length = off) (hB : B.length = v.cells.size) :
    (v.cells.zipIdx.foldl (fun (cs : Array Value) (x : Value × Nat) => cs.setIfInBounds (off + x.2) x.1) ⟨A ++ B ++ C⟩) = ⟨A ++ v.cells.toList ++ C⟩ := by
  rw [← Array.foldl_toList, Array.toList_zipIdx]
  exact fold_set v.cells.toList 0 A B C (by omega) (by simpa using hB)

/-- Filling a literal, element by element. -/
theorem fill_lits {z N : Nat} (place : Nat → Option (Nat × Nat)) (hpl : ∀ i, i < N → place i = some (i * z, z)) : ∀ (vs : List Value) (k : Nat) (done rest : List Value), done.length = k * z → rest.length = vs.length * z → (∀ v ∈ vs, v.cells.size = z) → k + vs.length ≤ N →
    Instr.fill place ⟨done ++ rest⟩ ((List.range' k vs.length).zip vs) = some ⟨done ++ vs.flatMap fun v => v.cells.toList⟩
  | [], k, done, rest, hd, hr, _, _ => by
    have : rest = [] := List.length_eq_zero_iff.1 (by simpa using hr)
    subst this; simp [Instr.fill]
  | v :: vs, k, done, rest, hd, hr, hv, hN => by
    have hvz := hv v List.mem_cons_self
    simp only [List.length_cons] at hr hN
    have hsplit : rest = rest.take z ++ rest.drop z := (List.take_append_drop z rest).symm
    have hrz : z ≤ rest.length := by rw [hr, Nat.add_mul]; omega
    simp only [List.length_cons, List.range'_succ, List.zip_cons_cons, Instr.fill]
    rw [hpl k (by omega)]
    simp only
    rw [if_neg (by simp; omega)]
    have hfold : (v.cells.zipIdx.foldl (fun (cs : Array Value) (x : Value × Nat) => cs.setIfInBounds (k * z + x.2) x.1) ⟨done ++ rest⟩) = ⟨(done ++ v.cells.toList) ++ rest.drop z⟩ := by
      have := fold_cells (off := k * z) (v := v) (A := done) (B := rest.take z) (C := rest.drop z) hd (by rw [List.length_take, hvz]; omega)
      rwa [List.append_assoc, ← hsplit] at this
    have ih := fill_lits place hpl vs (k + 1) (done ++ v.cells.toList) (rest.drop z) (by simp [hd, hvz, Nat.add_mul]) (by simp [hr, Nat.add_mul]) (fun u hu => hv u (List.mem_cons_of_mem _ hu)) (by omega)
    rw [hfold, ih]
    simp

theorem bslice_done {o : Oper} {t e : TypeId} {len : Nat} {parts : Array (Nat × Operand)} {ρ : Operand → Value} {Φ : Oracle} (hop : o.op = .buildSlice t len parts) (hk : known P e = true) (hzo : zeroOk P e = true) (ht : P.underlying t = some (.slice e))
    (hix : parts.toList.map (·.1) = List.range len) (h : Inv g w ((parts.toList.map (·.2)).map ρ) ds mem fr)
    (hd : opA Φ (.bslice (szOf P e) (aggT P e) len) ds mem = some (d, mem')) : OpPost P (execOp ρ o) w (Done g w ((parts.toList.map (·.2)).map ρ) ds mem fr d mem') := by
  obtain ⟨i, zv, hi, his, hib, hiz, hzs⟩ := info_all hk hzo
  simp only [opA, Option.ite_none_right_eq_some, Option.some.injEq, Prod.mk.injEq] at hd
  obtain ⟨⟨hlen, hz0, hbig, hall⟩, rfl, rfl⟩ := hd
  obtain ⟨c1, c2, c3, c4⟩ := lits_cells h.envRep hall
  generalize hV : (parts.toList.map (·.2)).map ρ = V at *
  have hVl : V.length = len := by rw [h.envRep.1, hlen]
  have hparts : (parts.map fun x => (x.1, ρ x.2)).toList = (List.range' 0 V.length).zip V := by
    rw [Array.toList_map, ← List.range_eq_range', hVl, ← hix, ← hV, List.map_map]
    generalize parts.toList = L
    clear hix hV
    induction L with
    | nil => rfl
    | cons a L ih => simp at ih ⊢; exact ih
  have hzc : zv.cells.size ≠ 0 := by omega
  obtain ⟨zeros, hzeros, hzl⟩ : ∃ zeros : List Value, ((Array.range (len * szOf P e)).map (fun j => zv.cells[j % zv.cells.size]!)) = ⟨zeros⟩ ∧ zeros.length = len * szOf P e := by
    refine ⟨((Array.range (len * szOf P e)).map (fun j => zv.cells[j % zv.cells.size]!)).toList, rfl, by simp⟩
  have hfill := fill_lits (z := szOf P e) (N := len) (fun i => some (i * szOf P e, szOf P e)) (fun i _ => rfl) V 0 [] zeros (by simp) (by rw [hzl, hVl]) c4 (by omega)
  simp only [List.nil_append] at hfill
  have hrun : (Instr.buildSlice t len (parts.map fun x => (x.1, ρ x.2))).run P w = .ok (.slice (some ⟨w.heap.size, 0, none⟩) len len) { w with heap := w.heap.push (.cells ⟨V.flatMap fun v => v.cells.toList⟩ e) } := by
    have hb : ¬ (2 ^ 24 < len * szOf P e) := by omega
    have hb' : ¬ (len * szOf P e > 2 ^ 24) := hb
    unfold Instr.buildSlice
    by_cases hl0 : len * szOf P e = 0
    · have : zeros = [] := List.length_eq_zero_iff.1 (by rw [hzl, hl0])
      subst this
      simp only [Sem.run_bind, run_und ht, Result.andThen_ok, run_sizeOf hk, Sem.run_ite, if_neg hb', hl0, if_true, Sem.run_pure]
      rw [hparts]
      rw [hl0] at hzeros
      have hz2 : (Array.map (fun j => (#[] : Array Value)[j % (#[] : Array Value).size]!) (Array.range 0)) = ⟨[]⟩ := by apply Array.ext'; simp
      rw [hz2, hfill]
      simp [newRow, run_newObj]
    · simp only [Sem.run_bind, run_und ht, Result.andThen_ok, run_sizeOf hk, Sem.run_ite, if_neg hb', if_neg hl0, zeroValue, typeInfo, run_program, hi, Sem.run_pure, hiz]
      rw [hparts]
      have : (fun x : Nat => zv.cells[x % zv.cells.size]!) = fun j => zv.cells[j % zv.cells.size]! := rfl
      rw [hzeros, hfill]
      simp [newRow, run_newObj]
  have hex : (execOp ρ o).run P w = .ok (.value (.slice (some ⟨w.heap.size, 0, none⟩) len len)) { w with heap := w.heap.push (.cells ⟨V.flatMap fun v => v.cells.toList⟩ e) } := by
    unfold execOp; rw [hop]; exact run_value hrun
  have hCl : (V.flatMap fun v => v.cells.toList).length = len * szOf P e := by rw [c1.1, flat_len c3]; simp [hlen]
  have htk : (V.flatMap fun v => v.cells.toList).take (len * szOf P e) = V.flatMap fun v => v.cells.toList := List.take_of_length_le (by omega)
  have key := h.newRow (w' := { w with heap := w.heap.push (.cells ⟨V.flatMap fun v => v.cells.toList⟩ e) }) (e := e) (C := V.flatMap fun v => v.cells.toList) (fz := (0, 0)) rfl rfl rfl rfl (n := len) (c := len) (z := szOf P e) (xs := ds.map AV.plain) c3 (by simp [hlen]) (Nat.le_refl _) (by omega) (by rw [htk]; exact c1) (fun o a b => by omega) (by rw [htk]; exact c2) hz0
  exact .value hex ⟨_, key⟩

/-! ### Bytes and texts -/
theorem cvBS_done {o : Oper} {t d0 e : TypeId} {x : Operand} {ρ : Operand → Value} {Φ : Oracle} (hop : o.op = .convert t d0 x) (ht : P.underlying t = some (.slice e)) (hd0 : P.underlying d0 = some .string) (he : P.underlying e = some (.int .u8))
    (h : Inv g w ([x].map ρ) ds mem fr) (hd : opA Φ .cvBS ds mem = some (d, mem')) : OpPost P (execOp ρ o) w (Done g w ([x].map ρ) ds mem fr d mem') := by
  simp only [opA] at hd
  split at hd
  · rename_i q z xs
    simp only [Option.ite_none_right_eq_some] at hd
    obtain ⟨⟨hz, hl⟩, hd⟩ := hd
    split at hd
    · rename_i l hb
      cases hd
      have hxs := bytesL_eq hb
      subst hxs
      have r1 : Rep g.pers g.bl (ρ x) (.sl q z (l.map byte)) := h.envRep.2 0 _ _ rfl rfl
      obtain ⟨A, c, us, hv, hle, hzx, hus, hA, hsp, h00, h11, h22, hcell⟩ := rep_sl r1
      rw [flat_bytes] at hcell
      have hul : us.length = l.length := by rw [hus, hz]; simp
      have hu : ∀ (j : Nat) (hj : j < l.length), us[j]? = some (.int .u8 (l[j].toNat : Int)) := fun j hj => by
        have h1 : us[j]? = some (us[j]'(by omega)) := List.getElem?_eq_getElem (by omega)
        have h2 : (l.map byte)[j]? = some (byte l[j]) := by rw [List.getElem?_map, List.getElem?_eq_getElem hj]; rfl
        have := rep_int (hcell j _ _ h1 h2)
        rw [h1, this]
      have hr : (execOp ρ o).run P w = .ok (.value (.string ⟨⟨l⟩⟩)) w := by
        unfold execOp; rw [hop]
        refine run_value ?_
        rw [hv]
        cases A with
        | none =>
          have : l = [] := by
            have := h00 rfl
            cases l with
            | nil => rfl
            | cons b l => simp at hle; omega
          subst this
          exact run_convert_bytes_nil w t e ht he _ _ d0 hd0
        | some ad =>
          rw [List.length_map]
          refine run_convert_bytes_back w t d0 e ad c l ht he hd0 fun j hj => ?_
          rcases hA with h0 | ⟨ad', e1, hh⟩
          · rw [h0] at hul; simp at hul; omega
          · cases e1
            rw [add_none hh.1]
            exact h.persOk _ _ _ (hh.2 j _ (hu j hj))
      exact .value hr (done_pure h (.str l))
    · cases hd
  · cases hd
theorem bytesWorld_heap (w : World) (e : TypeId) (s : ByteArray) : (Lib.bytesWorld w e s).heap = w.heap.push (.cells (Lib.bytesCells w e s) e ((Lib.bytesCells w e s).size, (Lib.bytesCells w e s).size + 1)) := by
  apply Array.ext_getElem?
  intro i
  rcases Nat.lt_trichotomy i w.heap.size with hi | hi | hi
  · rw [Lib.bytesWorld_at_old w e s i hi, Array.getElem?_push, if_neg (by omega)]
  · subst hi; rw [Lib.bytesWorld_at_new]; simp
  · rw [Array.getElem?_eq_none (by rw [Lib.bytesWorld_size]; omega), Array.getElem?_eq_none (by simp; omega)]
theorem cvSB_done {o : Oper} {t d0 e : TypeId} {x : Operand} {ρ : Operand → Value} {Φ : Oracle} (hop : o.op = .convert t d0 x) (ht : P.underlying t = some .string) (hd0 : P.underlying d0 = some (.slice e)) (he : P.underlying e = some (.int .u8))
    (h : Inv g w ([x].map ρ) ds mem fr) (hd : opA Φ .cvSB ds mem = some (d, mem')) : OpPost P (execOp ρ o) w (Done g w ([x].map ρ) ds mem fr d mem') := by
  simp only [opA] at hd
  split at hd
  · rename_i s
    simp only [Option.ite_none_right_eq_some, Option.some.injEq, Prod.mk.injEq] at hd
    obtain ⟨hl, rfl, rfl⟩ := hd
    have r1 : Rep g.pers g.bl (ρ x) (.str s) := h.envRep.2 0 _ _ rfl rfl
    have hv := rep_str r1
    have hr : (execOp ρ o).run P w = .ok (.value (.slice (some ⟨w.heap.size, 0, none⟩) s.length (grownCap w s.length 0 e))) (Lib.bytesWorld w e ⟨⟨s⟩⟩) := by
      unfold execOp; rw [hop]
      refine run_value ?_
      rw [hv]
      exact Lib.run_convert_string_bytes w t d0 e ⟨⟨s⟩⟩ ht hd0 he
    have hge := grownCap_ge w s.length 0 e
    generalize hcap : grownCap w s.length 0 e = cap at hr hge
    have hC : (Lib.bytesCells w e ⟨⟨s⟩⟩).toList = (s.map fun b => Value.int .u8 (b.toNat : Int)) ++ List.replicate (cap - s.length) (.int .u8 0) := by
      unfold Lib.bytesCells
      have : (⟨⟨s⟩⟩ : ByteArray).size = s.length := str_size s
      rw [this, hcap]
      simp
    have hsz : (Lib.bytesCells w e ⟨⟨s⟩⟩).size = cap := by
      rw [← Array.length_toList, hC]; simp; omega
    have hml : (s.map fun b => Value.int .u8 (b.toNat : Int)).length = s.length := by simp
    have htk : ((Lib.bytesCells w e ⟨⟨s⟩⟩).toList).take (s.length * 1) = s.map fun b => Value.int .u8 (b.toNat : Int) := by
      rw [hC, Nat.mul_one, List.take_append_of_le_length (by omega), List.take_of_length_le (by omega)]
    have key := h.newRow (w' := Lib.bytesWorld w e ⟨⟨s⟩⟩) (e := e) (C := (Lib.bytesCells w e ⟨⟨s⟩⟩).toList) (fz := (cap, cap + 1)) (by rw [bytesWorld_heap, hsz]) rfl rfl rfl (n := s.length) (c := cap) (z := 1) (xs := s.map byte)
      (fun y hy => by obtain ⟨b, _, rfl⟩ := List.mem_map.1 hy; rfl) (by simp) hge (by rw [Array.length_toList, hsz]; omega)
      (by
        rw [htk, flat_bytes]
        refine ⟨by simp, fun i v d hv hd => ?_⟩
        rw [List.getElem?_map] at hv hd
        cases hs : s[i]? with
        | none => rw [hs] at hv; cases hv
        | some b => rw [hs] at hv hd; cases hv; cases hd; exact .int ..)
      (fun o _ _ => by omega)
      (by rw [htk]; intro v hv; obtain ⟨b, _, rfl⟩ := List.mem_map.1 hv; rfl) (by omega)
    exact .value hr ⟨_, key⟩
  · cases hd

/-! ### Struct values -/
theorem fill_struct {fs : Array Field} {w : World} {p : Pers} {bl : List Nat} : ∀ {is : List Nat} {offs : List (Nat × Nat)} {vs : List Value} {ds : List AV} {C : List Value} {cs cs' : List AV}, fieldsOf P fs is = some offs → is.length = vs.length → fillA cs offs ds = some cs' →
    RepL p bl vs ds → (∀ (j : Nat) v d, vs[j]? = some v → ds[j]? = some d → OwnOk w p v d) → RepL p bl C cs → cs.all AV.isCell = true → (∀ (j : Nat) v d, C[j]? = some v → cs[j]? = some d → OwnOk w p v d) →
    ∃ C', Instr.fill ((fs.map fun f => (f.offset, szOf P f.type))[·]?) ⟨C⟩ (is.zip vs) = some ⟨C'⟩ ∧ RepL p bl C' cs' ∧ cs'.all AV.isCell = true ∧ (∀ (j : Nat) v d, C'[j]? = some v → cs'[j]? = some d → OwnOk w p v d) ∧
      ∀ t, (ownL C' cs').count t ≤ (ownL C cs).count t + (ownL vs ds).count t
  | [], offs, vs, ds, C, cs, cs', hf, hl, hA, hr, ho, hC, hcell, hoC => by
    cases hf
    have hv : vs = [] := List.length_eq_zero_iff.1 hl.symm
    subst hv
    have hd : ds = [] := List.length_eq_zero_iff.1 hr.1.symm
    subst hd
    simp only [fillA, Option.some.injEq] at hA
    subst hA
    exact ⟨C, by simp [Instr.fill], hC, hcell, hoC, fun t => by simp [ownL]⟩
  | i :: is, offs, [], ds, C, cs, cs', hf, hl, hA, hr, ho, hC, hcell, hoC => by simp at hl
  | i :: is, offs, v :: vs, [], C, cs, cs', hf, hl, hA, hr, ho, hC, hcell, hoC => absurd hr.1 (by simp)
  | i :: is, offs, v :: vs, d :: ds, C, cs, cs', hf, hl, hA, hr, ho, hC, hcell, hoC => by
    unfold fieldsOf at hf
    split at hf
    · rename_i f r hfi hrest
      simp only [Option.ite_none_right_eq_some, Option.some.injEq] at hf
      obtain ⟨hk, rfl⟩ := hf
      simp only [fillA, Option.ite_none_right_eq_some] at hA
      obtain ⟨⟨hn, hle, hall⟩, hA⟩ := hA
      obtain ⟨a1, a2, a3, a4⟩ := cells_of_rep (repL_cons hr).1 hall
      have hsz : v.cells.size = szOf P f.type := by have := a1.1; simp at this; omega
      have hCl : C.length = cs.length := hC.1
      have hlc : v.cells.toList.length = d.cells.length := a1.1
      have hC2 : RepL p bl (C.take f.offset ++ v.cells.toList ++ C.drop (f.offset + v.cells.toList.length)) (splice cs f.offset d.cells) :=
        ⟨by rw [splice_len (by omega)]; simp only [List.length_append, List.length_take, List.length_drop]; omega, splice_get hC.1 a1.1 hC.2 a1.2⟩
      have hcell2 : (splice cs f.offset d.cells).all AV.isCell = true := by
        rw [List.all_eq_true] at hcell hall ⊢
        unfold splice
        intro x hx
        simp only [List.mem_append] at hx
        rcases hx with (hx | hx) | hx
        · exact hcell x (List.mem_of_mem_take hx)
        · exact hall x hx
        · exact hcell x (List.mem_of_mem_drop hx)
      obtain ⟨C', b1, b2, b3, b4, b5⟩ := fill_struct (C := C.take f.offset ++ v.cells.toList ++ C.drop (f.offset + v.cells.toList.length)) hrest (by simpa using hl) hA (repL_cons hr).2 (fun j u e p q => ho (j + 1) u e (by simpa using p) (by simpa using q)) hC2 hcell2
        (splice_get hC.1 a1.1 hoC (a4 w (ho 0 v d rfl rfl)))
      refine ⟨C', ?_, b2, b3, b4, fun t => ?_⟩
      · simp only [List.zip_cons_cons, Instr.fill]
        have : (fs.map fun f => (f.offset, szOf P f.type))[i]? = some (f.offset, szOf P f.type) := by simp [hfi]
        rw [this]
        simp only
        rw [if_neg (by simp; omega)]
        have hsplit : C = C.take f.offset ++ (C.drop f.offset).take v.cells.size ++ C.drop (f.offset + v.cells.size) := by
          rw [List.append_assoc, ← List.drop_drop, List.take_append_drop, List.take_append_drop]
        have hfold := fold_cells (off := f.offset) (v := v) (A := C.take f.offset) (B := (C.drop f.offset).take v.cells.size) (C := C.drop (f.offset + v.cells.size)) (by simp; omega) (by simp; omega)
        rw [← hsplit] at hfold
        rw [hfold]
        simpa using b1
      · have h1 := b5 t
        have h2 := splice_own (us := C) (us' := v.cells.toList) (cs := cs) (cs' := d.cells) (off := f.offset) hC.1 a1.1 t
        rw [a3] at h2
        have h3 : ownL (v :: vs) (d :: ds) = own v d ++ ownL vs ds := by simp [ownL]
        rw [h3, List.count_append]; omega
    · cases hf

theorem run_mapM_sizes {fs : List Field} (h : ∀ f ∈ fs, known P f.type = true) : (fs.mapM fun f => (do pure (f.offset, ← sizeOf f.type) : Sem (Nat × Nat))).run P w = .ok (fs.map fun f => (f.offset, szOf P f.type)) w := by
  induction fs with
  | nil => simp
  | cons f fs ih =>
    rw [List.mapM_cons]
    have := ih fun g hg => h g (List.mem_cons_of_mem _ hg)
    simp only [Sem.run_bind, run_sizeOf (h f List.mem_cons_self), Result.andThen_ok, Sem.run_pure, this, List.map_cons]

theorem cellsAV_cells : ∀ {nz : List Nat} {vs : List Value} {ds : List AV}, cellsAV nz vs = some ds → ds.all AV.isCell = true
  | nz, [], ds, h => by cases nz <;> (cases h; rfl)
  | nz, v :: vs, ds, h => by
    unfold cellsAV at h
    split at h
    · rename_i x xs h1 h2
      cases h
      simp only [List.all_cons, Bool.and_eq_true]
      refine ⟨?_, cellsAV_cells h2⟩
      unfold constAV at h1
      split at h1 <;> cases h1 <;> rfl
    · cases h

theorem build_done {nz : List Nat} {o : Oper} {t : TypeId} {fs : Array Field} {parts : Array (Nat × Operand)} {ρ : Operand → Value} {Φ : Oracle} {zs : List AV} {offs : List (Nat × Nat)} (hop : o.op = .build t parts) (ht : P.underlying t = some (.struct fs)) (hzv : zeroAV P nz t = some (.agg zs))
    (hall : fs.toList.all (fun f => known P f.type) = true) (hf : fieldsOf P fs (parts.toList.map (·.1)) = some offs) (h : Inv g w ((parts.toList.map (·.2)).map ρ) ds mem fr)
    (hd : opA Φ (.build zs offs) ds mem = some (d, mem')) : OpPost P (execOp ρ o) w (Done g w ((parts.toList.map (·.2)).map ρ) ds mem fr d mem') := by
  simp only [opA, Option.ite_none_right_eq_some] at hd
  obtain ⟨_, hd⟩ := hd
  split at hd
  · rename_i cs' hcs
    cases hd
    unfold zeroAV at hzv
    split at hzv
    · rename_i i hi
      split at hzv
      · rename_i zv hz
        obtain ⟨c1, c2, c3⟩ := constAgg_rep (p := g.pers) (bl := g.bl) hzv
        obtain ⟨Z, hZ, hl⟩ := rep_agg c1
        -- the zero value's cells are cells
        have hzcell : zs.all AV.isCell = true := by
          rw [hZ] at hzv
          have hzv : (match cellsAV nz Z with | some ds => some (AV.agg ds) | none => none) = some (.agg zs) := hzv
          cases hq : cellsAV nz Z with
          | none => rw [hq] at hzv; cases hzv
          | some dd => rw [hq] at hzv; cases hzv; exact cellsAV_cells hq
        have hzo : ∀ (j : Nat) v d, Z[j]? = some v → zs[j]? = some d → OwnOk w g.pers v d := by
          rw [hZ] at c3 c1
          exact (cells_of_rep c1 (by simpa [AV.cells] using hzcell)).2.2.2 w (c3 w)
        have hzown : ownL Z zs = [] := by
          rw [hZ] at c1 c2
          have := (cells_of_rep c1 (by simpa [AV.cells] using hzcell)).2.2.1
          rw [c2] at this; exact this
        generalize hV : (parts.toList.map (·.2)).map ρ = V at *
        have hVl : parts.toList.length = V.length := by rw [← hV]; simp
        obtain ⟨C', b1, b2, b3, b4, b5⟩ := fill_struct (P := P) (w := w) hf (by simpa using hVl) hcs h.envRep h.envOwn hl hzcell hzo
        have hparts : (parts.map fun x => (x.1, ρ x.2)).toList = (parts.toList.map (·.1)).zip V := by
          rw [Array.toList_map, ← hV, List.map_map]
          generalize parts.toList = L
          clear hf hV hVl b1
          induction L with
          | nil => rfl
          | cons a L ih => simp at ih ⊢; exact ih
        have hsizes := run_mapM_sizes (P := P) (w := w) (fs := fs.toList) (fun f hf => List.all_eq_true.1 hall f hf)
        have hrun : (Instr.build t (parts.map fun x => (x.1, ρ x.2))).run P w = .ok (.agg ⟨C'⟩) w := by
          unfold Instr.build
          have hm : (fs.mapM fun f => (do pure (f.offset, ← sizeOf f.type) : Sem (Nat × Nat))).run P w = .ok (fs.map fun f => (f.offset, szOf P f.type)) w := by
            rw [Array.mapM_eq_mapM_toList]
            simp only [Sem.run_map, hsizes, Result.andThen_ok]
            congr 1; apply Array.ext'; simp
          simp only [zeroValue, typeInfo, Sem.run_bind, run_program, Result.andThen_ok, hi, Sem.run_pure, hz, run_und ht, hm]
          rw [hparts, hZ]
          simp only [Value.cells]
          rw [b1]; rfl
        have hex : (execOp ρ o).run P w = .ok (.value (.agg ⟨C'⟩)) w := by unfold execOp; rw [hop]; exact run_value hrun
        have hrep : Rep g.pers g.bl (.agg ⟨C'⟩) (.agg cs') := .agg C' cs' b2.1 b2.2
        obtain ⟨k1, k2, k3, k4⟩ := cells_of_rep hrep (by simpa [AV.cells] using b3)
        refine .value hex ⟨g, h.one hrep (fun x hx => ?_) fun t => ?_⟩
        · have hx : x ∈ C'.zip cs' := by simpa [leaves, leaves2] using hx
          obtain ⟨j, hj⟩ := List.getElem?_of_mem hx
          rw [List.getElem?_zip_eq_some] at hj
          have hcj := List.all_eq_true.1 b3 x.2 (List.mem_of_getElem? hj.2)
          refine b4 j x.1 x.2 hj.1 hj.2 x ?_
          obtain ⟨xv, xd⟩ := x
          cases xd <;> cases xv <;> first | (simp [leaves, leaves2]; done) | (simp [AV.isCell] at hcj)
        · have := b5 t
          rw [hzown] at this
          have e : own (.agg ⟨C'⟩) (.agg cs') = ownL C' cs' := k3.symm
          rw [e]; simpa using this
      · cases hzv
    · cases hzv
  · cases hd
 end
end Go.Eng
 end

 section
set_option linter.unusedVariables false
set_option linter.unusedSimpArgs false
namespace Go.Eng

/-- What the oracle tells of calls is so. -/
def CallOk (P : Program) (Φ : Oracle) : Prop :=
  ∀ f ds mem d mem', Φ.call f ds mem = some (d, mem') → ∀ g w vs fr, Inv g w vs ds mem fr → OpPost P (callFunc f ⟨vs⟩) w (Done g w vs ds mem fr d mem')

 section
variable {P : Program} {g : Gh} {w : World} {vs : List Value} {ds : List AV} {mem mem' : Mem} {fr : List Nat} {d : AV}

theorem Goes.mono {A B A' : List Nat} {g' : Gh} {w' : World} (h : Goes A g w A' g' w') (hs : ∀ b ∈ A, b ∈ B) : Goes B g w A' g' w' :=
  ⟨⟨h.ext.os, h.ext.tape, h.ext.output, h.ext.size, h.ext.pers, h.ext.bl, fun b hb hn => h.ext.same b hb fun hm => hn (hs b hm)⟩, fun b hb => (h.sub b hb).imp (hs b) id⟩

theorem OpPost.mono {s : Sem Next} {R R' : Value → World → Prop} (h : OpPost P s w R) (hr : ∀ v w', R v w' → R' v w') : OpPost P s w R' := by
  unfold OpPost at *
  split at h
  · exact hr _ _ h
  · exact hr _ _ h
  · exact h.mono fun e w'' ⟨v, he, hv⟩ => ⟨v, he, hr _ _ hv⟩
  · exact h

theorem OpPost.congr {s s' : Sem Next} {R : Value → World → Prop} (h : OpPost P s w R) (he : s'.run P w = s.run P w) : OpPost P s' w R := by
  unfold OpPost at *; rw [he]; exact h

theorem Inv.extendPlain (h : Inv g w vs ds mem fr) : ∀ {us : List Value} {cs : List AV}, RepL g.pers g.bl us cs → Inv g w (vs ++ us) (ds ++ cs.map AV.plain) mem fr ∧ ∀ t, (claims g (vs ++ us) (ds ++ cs.map AV.plain) mem).count t = (claims g vs ds mem).count t := by
  intro us
  induction us generalizing vs ds with
  | nil =>
    intro cs hr
    have : cs = [] := List.length_eq_zero_iff.1 hr.1.symm
    subst this; simpa using h
  | cons u us ih =>
    intro cs hr
    match cs, hr with
    | [], hr => exact absurd hr.1 (by simp)
    | c :: cs, hr =>
      have h1 := h.extend (repL_cons hr).1.plain (ok_plain w g.pers u c) (fun t => by rw [own_plain]; have := nd_count h t; simp; omega)
      obtain ⟨k1, k2⟩ := ih h1 (repL_cons hr).2
      simp only [List.append_assoc, List.singleton_append, List.map_cons] at k1 k2 ⊢
      refine ⟨k1, fun t => (k2 t).trans ?_⟩
      rw [claims_append h.envRep.1]
      have : ownL [u] [c.plain] = [] := by simp [ownL, own_plain]
      rw [this]; simp

theorem call_done {o : Oper} {c : Call} {f : FuncId} {ρ : Operand → Value} {Φ : Oracle} (hΦ : CallOk P Φ) (hop : o.op = .call c) (hcal : c.callee = .value (.func f)) (hρ : ρ (.func f) = .func (.func f) #[] #[])
    (h : Inv g w (c.args.toList.map ρ) ds mem fr) (hd : opA Φ (.call f) ds mem = some (d, mem')) : OpPost P (execOp ρ o) w (Done g w (c.args.toList.map ρ) ds mem fr d mem') := by
  simp only [opA] at hd
  refine (hΦ f ds mem d mem' hd g w _ fr h).congr ?_
  unfold execOp; rw [hop]
  simp only [resolve, hcal, hρ, Deferred.ofValue, Sem.run_bind, Sem.run_pure, Result.andThen_ok, invoke]
  congr 2
  apply Array.ext'; simp

theorem callv_done {o : Oper} {c : Call} {x : Operand} {ρ : Operand → Value} {Φ : Oracle} (hΦ : CallOk P Φ) (hop : o.op = .call c) (hcal : c.callee = .value x)
    (h : Inv g w (ρ x :: c.args.toList.map ρ) ds mem fr) (hd : opA Φ .callv ds mem = some (d, mem')) : OpPost P (execOp ρ o) w (Done g w (ρ x :: c.args.toList.map ρ) ds mem fr d mem') := by
  simp only [opA] at hd
  split at hd
  · rename_i f caps rest
    have r1 := h.envRep.2 0 _ _ rfl rfl
    obtain ⟨us, hv, hl⟩ := rep_fn r1
    have hR := Inv.right (vals := [ρ x]) (env := [.fn f caps]) (vs := c.args.toList.map ρ) (ds := rest) rfl h
    have e0 : ownL [ρ x] [.fn f caps] = [] := by simp [ownL, noOwn_own (d := .fn f caps) rfl]
    rw [e0, List.append_nil] at hR
    obtain ⟨k1, k2⟩ := hR.extendPlain hl
    have hcl : ∀ b ∈ claims g (c.args.toList.map ρ ++ us) (rest ++ caps.map AV.plain) mem, b ∈ claims g (ρ x :: c.args.toList.map ρ) (.fn f caps :: rest) mem := by
      intro b hb
      rw [mem_count, k2] at hb
      rw [mem_count]
      have := claims_append (g := g) (mem := mem) (vals := [ρ x]) (env := [.fn f caps]) (vs := c.args.toList.map ρ) (ds := rest) rfl b
      simp only [List.singleton_append] at this
      rw [this]
      rw [count_claims] at hb ⊢
      omega
    refine ((hΦ f _ mem d mem' hd g w _ fr k1).mono fun v w' ⟨g', q1, q2⟩ => ⟨g', q1, q2.mono hcl⟩).congr ?_
    unfold execOp; rw [hop]
    simp only [resolve, hcal, hv, Deferred.ofValue, Sem.run_bind, Sem.run_pure, Result.andThen_ok, invoke]
    congr 2
    apply Array.ext'; simp
  · cases hd

/-- **All operations.** -/
theorem op_done {nz : List Nat} {o : Oper} {ts : List Bool} {k : OpK} {xs : List Operand} {a : Act} {Φ : Oracle} (hΦ : CallOk P Φ) (hc : convOp P nz ts o = some (k, xs)) (h : Inv g w (xs.map a.eval) ds mem fr)
    (hd : opA Φ k ds mem = some (d, mem')) : OpPost P (execOp a.eval o) w (Done g w (xs.map a.eval) ds mem fr d mem') := by
  have hpure : (convPure P o).map (fun r => (OpK.pure r.1, r.2)) = some (k, xs) → OpPost P (execOp a.eval o) w (Done g w (xs.map a.eval) ds mem fr d mem') := by
    intro hc
    obtain ⟨⟨q, ys⟩, hq, he⟩ := Option.map_eq_some_iff.1 hc
    obtain ⟨rfl, rfl⟩ := Prod.mk.inj he
    simp only [opA] at hd
    split at hd
    · rename_i d0 hd0; cases hd; exact pure_done hq h hd0
    · cases hd
  unfold convOp at hc
  cases hop : o.op <;> simp only [hop] at hc <;> try exact hpure hc
  case move x =>
    cases hc
    simp only [opA] at hd
    split at hd
    · cases hd; exact mov_done (.inl hop) h
    · cases hd
  case assign x =>
    cases hc
    simp only [opA] at hd
    split at hd
    · cases hd; exact mov_done (.inr hop) h
    · cases hd
  case load t x =>
    simp only [Option.ite_none_right_eq_some, Option.some.injEq, Prod.mk.injEq] at hc
    obtain ⟨hk, rfl, rfl⟩ := hc
    exact load_done hop hk (fun ht => by simp only [Bool.and_eq_true, Bool.not_eq_true'] at ht; exact ht.2) h hd
  case store t b x =>
    simp only [Option.ite_none_right_eq_some, Option.some.injEq, Prod.mk.injEq] at hc
    obtain ⟨hk, rfl, rfl⟩ := hc
    exact store_done hop hk h hd
  case alloc t =>
    split at hc
    · rename_i i hi
      split at hc
      · rename_i v hv
        simp only [Option.ite_none_right_eq_some] at hc
        obtain ⟨hk, hc⟩ := hc
        split at hc
        · split at hc
          · split at hc
            · split at hc
              · cases hc
                exact newB_done (t := t) (x := .const v) ⟨hop, i, v, hi, hv, rfl⟩ h hd
              · cases hc
            · cases hc
          · cases hc
        · cases hc
          exact new_done (t := t) (x := .const v) (.inr ⟨hop, i, v, hi, hv, rfl⟩) h hd
      · cases hc
    · cases hc
  case box t x =>
    simp only [Option.ite_none_right_eq_some, Option.some.injEq, Prod.mk.injEq] at hc
    obtain ⟨hk, rfl, rfl⟩ := hc
    exact new_done (.inl hop) h hd
  case build t parts =>
    split at hc
    · rename_i fs zs ht hz
      simp only [Option.ite_none_right_eq_some] at hc
      obtain ⟨hall, hc⟩ := hc
      split at hc
      · rename_i offs hoffs
        cases hc
        exact build_done hop ht hz hall hoffs h hd
      · cases hc
    · cases hc
  case buildSlice t len parts =>
    split at hc
    · rename_i e ht
      simp only [Option.ite_none_right_eq_some, Option.some.injEq, Prod.mk.injEq, Bool.and_eq_true, beq_iff_eq] at hc
      obtain ⟨⟨⟨hk, hzo⟩, hix⟩, rfl, rfl⟩ := hc
      exact bslice_done hop hk hzo ht hix h hd
    · cases hc
  case extract x i =>
    split at hc
    · cases hc
      simp only [opA] at hd
      split at hd
      · rename_i es
        split at hd
        · cases hd
        · rename_i d0 hnt hes
          cases hd
          exact ext_done hop h hes (fun es2 he => by subst he; exact hnt _ rfl)
        · cases hd
      · cases hd
    · exact hpure hc
  case convert t d0 x =>
    split at hc
    · rename_i e hs hd0
      split at hc
      · rename_i he
        cases hc
        exact cvBS_done hop hs hd0 he h hd
      · cases hc
    · rename_i e hs hd0
      split at hc
      · rename_i he
        cases hc
        exact cvSB_done hop hs hd0 he h hd
      · cases hc
    · exact hpure hc
  case call c =>
    split at hc
    · rename_i f hcal
      cases hc
      exact call_done hΦ hop hcal rfl h hd
    · rename_i x hx hcal
      cases hc
      exact callv_done hΦ hop hcal h hd
    · rename_i hcal
      split at hc
      · rename_i s x t u hargs hts
        split at hc
        · rename_i e e' ht hu
          simp only [Option.ite_none_right_eq_some, Option.some.injEq, Prod.mk.injEq, Bool.and_eq_true, beq_iff_eq] at hc
          obtain ⟨⟨⟨⟨hk, hk'⟩, hsz⟩, hzo⟩, rfl, rfl⟩ := hc
          exact append_done hop hcal hargs hts hk hzo ht (.inl ⟨rfl, e', hu⟩) h hd
        · rename_i e ht hu
          simp only [Option.ite_none_right_eq_some, Option.some.injEq, Prod.mk.injEq, Bool.and_eq_true, beq_iff_eq] at hc
          obtain ⟨⟨⟨hk, hsz⟩, hzo⟩, rfl, rfl⟩ := hc
          exact append_done hop hcal hargs hts hk hzo ht (.inr ⟨rfl, hu, hsz⟩) h hd
        · cases hc
      · cases hc
    · exact hpure hc
 end
end Go.Eng
 end
