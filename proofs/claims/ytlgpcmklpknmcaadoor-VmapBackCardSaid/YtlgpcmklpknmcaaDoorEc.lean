/- Memory: reading cells, writing cells, a new variable; what 'scrub' leaves alone.
   Operations on their operands alone: the machine's answer, and the invariant behind it.
   Stores, new variables, rows made and appended to.
   append: the machine's run. -/
import Derived.Test.YtlgpcmklpknmcaaDoorEb
import Derived.Laws.Slices
import Derived.Laws.AppendOwn
 section
set_option linter.unusedVariables false
set_option linter.unusedSimpArgs false
namespace Go.Eng

/-! ### scrub -/
theorem scrubL_map (k : Nat) : ∀ ds, scrubL k ds = ds.map (AV.scrub k)
  | [] => rfl
  | d :: ds => by simp [scrubL, scrubL_map k ds]
theorem scrubL_len (k : Nat) (ds : List AV) : (scrubL k ds).length = ds.length := by simp [scrubL_map]

theorem scrub_cells (k : Nat) (d : AV) : (d.scrub k).cells = scrubL k d.cells := by
  cases d with
  | ptr b o => by_cases h : b < k <;> simp [AV.scrub, AV.cells, scrubL, h]
  | _ => simp [AV.scrub, AV.cells, scrubL]

 mutual
theorem scrub_scrub (k m : Nat) (h : k ≤ m) : ∀ d : AV, (d.scrub k).scrub m = d.scrub k
  | .ptr b o => by
    simp only [AV.scrub]; split
    · simp only [AV.scrub]; rw [if_pos (by omega)]
    · rfl
  | .sl o z xs => rfl
  | .pel cs => by simp only [AV.scrub, scrubL_scrubL k m h cs]
  | .fn f cs => by simp only [AV.scrub, scrubL_scrubL k m h cs]
  | .iface t d => by simp only [AV.scrub, scrub_scrub k m h d]
  | .agg cs => by simp only [AV.scrub, scrubL_scrubL k m h cs]
  | .tup ds => by simp only [AV.scrub, scrubL_scrubL k m h ds]
  | .int _ _ => rfl
  | .bool _ => rfl
  | .str _ => rfl
  | .nilp => rfl
  | .nilfn => rfl
  | .nili => rfl
  | .junk => rfl
  | .bld _ _ => rfl
theorem scrubL_scrubL (k m : Nat) (h : k ≤ m) : ∀ ds : List AV, scrubL m (scrubL k ds) = scrubL k ds
  | [] => rfl
  | d :: ds => by simp only [scrubL, scrub_scrub k m h d, scrubL_scrubL k m h ds]
 end
theorem scrubL_fix {k m : Nat} (h : k ≤ m) {ds : List AV} (e : scrubL k ds = ds) : scrubL m ds = ds := by
  rw [← e]; exact scrubL_scrubL k m h ds

theorem get_scrubL {k : Nat} {ds : List AV} {i : Nat} {d : AV} (h : (scrubL k ds)[i]? = some d) : ∃ e, ds[i]? = some e ∧ d = e.scrub k := by
  rw [scrubL_map] at h
  obtain ⟨e, h1, h2⟩ := getElem?_map_some h
  exact ⟨e, h1, h2.symm⟩

theorem Rep.scrub {p : Pers} {bl bl' : List Nat} {k : Nat} (hb : ∀ b blk, b < k → bl[b]? = some blk → bl'[b]? = some blk) {v : Value} {d : AV} (h : Rep p bl v d) : Rep p bl' v (d.scrub k) := by
  induction h generalizing bl' with
  | int => exact .int ..
  | bool => exact .bool ..
  | str => exact .str ..
  | sl a n c own z xs vs hz hn hc hvs ha hs h0 h1 h2 hr ih =>
    exact .sl a n c own z xs vs hz hn hc hvs ha hs h0 h1 h2 hr
  | ptr b o blk hb' =>
    simp only [AV.scrub]; split
    · rename_i hk; exact .ptr _ _ _ (hb _ _ hk hb')
    · exact .junk _
  | nilp => exact .nilp
  | pel ad vs cs hl h hr ih =>
    refine .pel ad vs _ (by rw [scrubL_len]; exact hl) h fun i v d a b => ?_
    obtain ⟨e, h1, rfl⟩ := get_scrubL b; exact ih i v e a h1 hb
  | fn f vs caps hl hr ih =>
    refine .fn f vs _ (by rw [scrubL_len]; exact hl) fun i v d a b => ?_
    obtain ⟨e, h1, rfl⟩ := get_scrubL b; exact ih i v e a h1 hb
  | nilfn => exact .nilfn
  | iface t v d h ih => exact .iface t v _ (ih hb)
  | nili => exact .nili
  | agg vs cs hl hr ih =>
    refine .agg vs _ (by rw [scrubL_len]; exact hl) fun i v d a b => ?_
    obtain ⟨e, h1, rfl⟩ := get_scrubL b; exact ih i v e a h1 hb
  | tup vs cs hl hr ih =>
    refine .tup vs _ (by rw [scrubL_len]; exact hl) fun i v d a b => ?_
    obtain ⟨e, h1, rfl⟩ := get_scrubL b; exact ih i v e a h1 hb
  | junk => exact .junk _
  | bld => exact .bld ..

/-- scrub keeps the rights where they are. -/
theorem own1_scrub (k : Nat) (v : Value) (d : AV) : own1 (v, d.scrub k) = own1 (v, d) := by
  cases d with
  | sl o z xs => cases v <;> cases o <;> first | rfl | (rename_i a _ _; cases a <;> rfl)
  | ptr b o =>
    rw [own1_nosl (d := .ptr b o) (by simp)]; simp only [AV.scrub]
    split <;> exact own1_nosl (by simp)
  | _ => first | rfl | (simp only [AV.scrub]; rw [own1_nosl (by simp), own1_nosl (by simp)])
theorem Tail_nosl {w : World} {p : Pers} {v : Value} {d : AV} (h : ∀ z xs, d ≠ .sl true z xs) : Tail w p (v, d) := by
  unfold Tail; split
  · rename_i heq; cases heq; exact absurd rfl (h _ _)
  · trivial
theorem Tail_scrub (k : Nat) {w : World} {p : Pers} {v : Value} {d : AV} (h : Tail w p (v, d)) : Tail w p (v, d.scrub k) := by
  cases d with
  | sl o z xs => cases v <;> cases o <;> first | trivial | (rename_i a _ _; cases a <;> first | trivial | exact h)
  | ptr b o => simp only [AV.scrub]; split <;> exact Tail_nosl (by simp)
  | _ => first | exact h | (simp only [AV.scrub]; exact Tail_nosl (by simp))
theorem leaves2_scrub (k : Nat) (v : Value) (d : AV) : leaves2 v (d.scrub k) = (leaves2 v d).map fun x => (x.1, x.2.scrub k) := by
  cases d with
  | agg cs =>
    cases v with
    | agg vs =>
      simp only [AV.scrub, leaves2, scrubL_map]
      rw [List.zip_map_right]; rfl
    | _ => simp [leaves2, AV.scrub]
  | ptr b o => by_cases h : b < k <;> (simp only [AV.scrub, h, if_true, if_false]; cases v <;> simp [leaves2, AV.scrub, h])
  | _ => cases v <;> simp [leaves2, AV.scrub]
theorem leaves_scrub (k : Nat) (v : Value) (d : AV) : leaves v (d.scrub k) = (leaves v d).map fun x => (x.1, x.2.scrub k) := by
  cases d with
  | tup ds =>
    cases v with
    | tuple vs =>
      simp only [AV.scrub, leaves, scrubL_map]
      rw [List.zip_map_right, List.flatMap_map, List.map_flatMap]
      congr 1; funext x; exact leaves2_scrub k x.1 x.2
    | _ => simp [leaves, leaves2, AV.scrub]
  | ptr b o =>
    have := leaves2_scrub k v (.ptr b o)
    simp only [AV.scrub] at this ⊢
    split at this <;> rename_i hh <;> simp only [hh, if_true, if_false] at this ⊢ <;> (cases v <;> exact this)
  | agg cs => have := leaves2_scrub k v (.agg cs); cases v <;> exact this
  | _ => cases v <;> simp [leaves, leaves2, AV.scrub]
theorem own_scrub (k : Nat) (v : Value) (d : AV) : own v (d.scrub k) = own v d := by
  unfold own; rw [leaves_scrub, List.flatMap_map]
  congr 1; funext x; exact own1_scrub k x.1 x.2
theorem ok_scrub (k : Nat) {w : World} {p : Pers} {v : Value} {d : AV} (h : OwnOk w p v d) : OwnOk w p v (d.scrub k) := by
  intro x hx
  rw [leaves_scrub] at hx
  obtain ⟨y, hy, rfl⟩ := List.mem_map.1 hx
  exact Tail_scrub k (h y hy)
theorem ownL_scrub (k : Nat) (vs : List Value) (ds : List AV) : ownL vs (scrubL k ds) = ownL vs ds := by
  unfold ownL; rw [scrubL_map, List.zip_map_right, List.flatMap_map]
  congr 1; funext x; exact own_scrub k x.1 x.2

/-! ### Reading cells -/
 section
variable {P : Program} {w : World}
theorem run_load_cell {a : Addr} {v : Value} (h : w.cell? a = some v) {m : Mode} : (load a m).run P w = .ok v w := by
  simp [run_load, h]
theorem run_loadCellsFrom {a : Addr} : ∀ (n i : Nat) (vs : List Value) (acc : Array Value), vs.length = n → (∀ (j : Nat) v, vs[j]? = some v → w.cell? (a.add (i + j)) = some v) →
    (loadCellsFrom a i n acc).run P w = .ok (acc ++ vs.toArray) w
  | 0, i, vs, acc, hl, h => by
    have : vs = [] := List.length_eq_zero_iff.1 hl
    subst this; simp [loadCellsFrom]
  | n + 1, i, [], acc, hl, h => by simp at hl
  | n + 1, i, v :: vs, acc, hl, h => by
    have h0 := h 0 v rfl
    simp only [Nat.add_zero] at h0
    have ih := run_loadCellsFrom (a := a) n (i + 1) vs (acc.push v) (by simpa using hl) fun j u hu => by
      have := h (j + 1) u (by simpa using hu)
      rwa [show i + (j + 1) = i + 1 + j by omega] at this
    simp only [loadCellsFrom, Sem.run_bind, run_load_cell h0, Result.andThen_ok, ih]
    simp
theorem run_loadCells {a : Addr} {vs : List Value} (h : ∀ (j : Nat) v, vs[j]? = some v → w.cell? (a.add j) = some v) : (loadCells a vs.length).run P w = .ok ⟨vs⟩ w := by
  have := run_loadCellsFrom (P := P) (w := w) (a := a) vs.length 0 vs #[] rfl (fun j v hv => by rw [Nat.zero_add]; exact h j v hv)
  simpa [loadCells] using this

/-- A variable is read out of cells that are known. -/
theorem run_loadVar {t : TypeId} (hk : known P t = true) {a : Addr} {p : Pers} {bl : List Nat} {vs : List Value} {cs : List AV} (hr : RepL p bl vs cs) {o : Nat}
    (h : ∀ (j : Nat) v, vs[j]? = some v → w.cell? ⟨a.block, a.off + j, none⟩ = some v) (hs : a.spot = none) {d : AV} (hd : loadAV cs o (szOf P t) (aggT P t) = some d) :
    ∃ v, (loadVar t (a.add o)).run P w = .ok v w ∧ Rep p bl v d := by
  obtain ⟨u, hu⟩ := und_of_known hk
  unfold loadAV at hd
  simp only [Option.ite_none_right_eq_some] at hd
  obtain ⟨hle, hd⟩ := hd
  rw [add_none hs]
  unfold loadVar
  simp only [Sem.run_bind, run_isAgg hu, Result.andThen_ok]
  split at hd
  · rename_i hag
    cases hd
    have hR := (hr.drop o).take (szOf P t)
    have hlen : ((vs.drop o).take (szOf P t)).length = szOf P t := by simp; rw [hr.1]; omega
    refine ⟨.agg ⟨(vs.drop o).take (szOf P t)⟩, ?_, .agg _ _ hR.1 hR.2⟩
    simp only [hag, if_true, Sem.run_bind, run_sizeOf hk, Result.andThen_ok]
    have := run_loadCells (P := P) (w := w) (a := ⟨a.block, a.off + o, none⟩) (vs := (vs.drop o).take (szOf P t)) fun j v hv => by
      rw [add_none rfl]
      rw [List.getElem?_take] at hv
      split at hv
      · rw [List.getElem?_drop] at hv
        have := h _ v hv
        simpa [Nat.add_assoc] using this
      · cases hv
    rw [hlen] at this
    rw [this]; rfl
  · rename_i hag
    obtain ⟨v, hv⟩ := get_of_len hr.1 hd
    refine ⟨v, ?_, hr.2 o v d hv hd⟩
    simp only [hag, if_false, Bool.false_eq_true]
    exact run_load_cell (h o v hv)
 end

/-! ### Writing cells -/
def World.setBlk (w : World) (b : Nat) (o : Obj) : World := { w with heap := w.heap.setIfInBounds b o }

theorem isCell_one {p : Pers} {bl : List Nat} {v : Value} {d : AV} (h : Rep p bl v d) (hd : d.isCell = true) : oneCell v = true := by
  cases h <;> first | rfl | (simp [AV.isCell] at hd)

theorem setCell_blk {w : World} {b : Nat} {C : List Value} {e : TypeId} {fz : Nat × Nat} (h : w.heap[b]? = some (.cells ⟨C⟩ e fz)) (o : Nat) (v : Value) :
    w.setCell ⟨b, o, none⟩ v = World.setBlk w b (.cells ⟨C.set o v⟩ e fz) := by
  unfold World.setCell World.setBlk
  congr 1
  have hb := (Array.getElem?_eq_some_iff.1 h)
  obtain ⟨hlt, hget⟩ := hb
  apply Array.ext_getElem?
  intro i
  rw [Array.getElem?_modify, Array.getElem?_setIfInBounds]
  by_cases hi : b = i
  · subst hi
    simp only [if_true, if_pos hlt, h, Option.map_some, Option.isSome_none, Bool.false_eq_true, if_false]
    simp
  · simp [hi]

theorem getElem?_setBlk {w : World} {b : Nat} {o : Obj} (h : b < w.heap.size) (i : Nat) : (World.setBlk w b o).heap[i]? = if b = i then some o else w.heap[i]? := by
  unfold World.setBlk
  rw [Array.getElem?_setIfInBounds]
  split
  · simp [h]
  · rfl
theorem setBlk_size {w : World} {b : Nat} {o : Obj} : (World.setBlk w b o).heap.size = w.heap.size := by simp [World.setBlk]
theorem setBlk_setBlk {w : World} {b : Nat} {o o' : Obj} : World.setBlk (World.setBlk w b o) b o' = World.setBlk w b o' := by
  unfold World.setBlk; congr 1
  apply Array.ext_getElem?; intro i
  simp only [Array.getElem?_setIfInBounds, Array.size_setIfInBounds]
  split <;> simp_all

theorem cell_of_blk {w : World} {b : Nat} {C : List Value} {e : TypeId} {fz : Nat × Nat} (h : w.heap[b]? = some (.cells ⟨C⟩ e fz)) (o : Nat) : w.cell? ⟨b, o, none⟩ = C[o]? := by
  simp [World.cell?, h]
theorem frozen_of_blk {w : World} {b : Nat} {C : List Value} {e : TypeId} {fz : Nat × Nat} (h : w.heap[b]? = some (.cells ⟨C⟩ e fz)) (o : Nat) : w.frozen? ⟨b, o, none⟩ = (decide (fz.1 ≤ o) && decide (o < fz.2)) := by
  obtain ⟨lo, hi⟩ := fz
  simp [World.frozen?, h]

theorem run_storeCells {P : Program} {b off : Nat} {e : TypeId} {fz : Nat × Nat} : ∀ (vs : List Value) (i : Nat) (C : List Value) (w : World), w.heap[b]? = some (.cells ⟨C⟩ e fz) →
    (∀ o : Nat, off + i ≤ o → o < off + i + vs.length → ¬ (fz.1 ≤ o ∧ o < fz.2)) → off + i + vs.length ≤ C.length → (∀ v ∈ vs, oneCell v = true) →
    (storeCells ⟨b, off, none⟩ vs i).run P w = .ok () (World.setBlk w b (.cells ⟨C.take (off + i) ++ vs ++ C.drop (off + i + vs.length)⟩ e fz))
  | [], i, C, w, h, hf, hl, ho => by
    simp only [storeCells, Sem.run_pure, List.append_nil, List.length_nil, Nat.add_zero, List.take_append_drop]
    congr 1
    unfold World.setBlk; cases w; congr 1
    rename_i heap _ _ _ _
    apply Array.ext_getElem?; intro j
    rw [Array.getElem?_setIfInBounds]
    split
    · rename_i hj; subst hj
      have hb := (Array.getElem?_eq_some_iff.1 h).1
      simp only [if_pos hb]; exact h.symm ▸ h
    · rfl
  | v :: vs, i, C, w, h, hf, hl, ho => by
    simp only [List.length_cons] at hf hl
    have hlt : off + i < C.length := by omega
    have hb := (Array.getElem?_eq_some_iff.1 h).1
    have h1 : (World.setBlk w b (.cells ⟨C.set (off + i) v⟩ e fz)).heap[b]? = some (.cells ⟨C.set (off + i) v⟩ e fz) := by
      rw [getElem?_setBlk hb]; simp
    have ih := run_storeCells (P := P) (b := b) (off := off) (e := e) (fz := fz) vs (i + 1) (C.set (off + i) v) _ h1 (fun (o : Nat) a b => hf o (by omega) (by omega)) (by simp; omega) (fun u hu => ho u (List.mem_cons_of_mem _ hu))
    have hv := ho v List.mem_cons_self
    have hst : (store ((⟨b, off, none⟩ : Addr).add i) v).run P w = .ok () (World.setBlk w b (.cells ⟨C.set (off + i) v⟩ e fz)) := by
      rw [add_none rfl]
      have hc : w.cell? ⟨b, off + i, none⟩ = some C[off + i] := by rw [cell_of_blk h, List.getElem?_eq_getElem hlt]
      have hfr : w.frozen? ⟨b, off + i, none⟩ = false := by
        rw [frozen_of_blk h]
        have := hf (off + i) (by omega) (by omega)
        simp only [Bool.and_eq_false_iff, decide_eq_false_iff_not]
        by_cases hq : fz.1 ≤ off + i
        · right; exact fun hlt => this ⟨hq, hlt⟩
        · left; exact hq
      rw [run_store P w _ v .plain (by cases v <;> first | rfl | simp [oneCell] at hv)]
      simp only [hc, hfr, Bool.false_eq_true, if_false]
      rw [setCell_blk h]
    have e1 : (C.set (off + i) v).take (off + (i + 1)) = C.take (off + i) ++ [v] := by
      rw [show off + (i + 1) = off + i + 1 by omega, List.take_succ_eq_append_getElem (by simpa using hlt)]
      simp [List.take_set_of_le]
    have e2 : (C.set (off + i) v).drop (off + (i + 1) + vs.length) = C.drop (off + i + (vs.length + 1)) := by
      rw [List.drop_set_of_lt (by omega)]; congr 1; omega
    simp only [e1, e2] at ih
    simp only [storeCells, Sem.run_bind, hst, Result.andThen_ok, ih, setBlk_setBlk, List.length_cons, List.append_assoc, List.singleton_append, List.cons_append, List.nil_append]
end Go.Eng
 end

 section
set_option linter.unusedVariables false
set_option linter.unusedSimpArgs false
namespace Go.Eng

def zeroAV (P : Program) (nz : List Nat) (t : TypeId) : Option AV := match P.info? t with
  | some i => match i.zero with
    | some v => constAgg nz v
    | none => none
  | none => none
def bytesOf (P : Program) (t : TypeId) : Nat := ((P.info? t).map (·.bytes)).getD 0
def scalarT (P : Program) (t : TypeId) : Bool := known P t && !aggT P t

def zeroOk (P : Program) (e : TypeId) : Bool := match P.info? e with
  | some i => (match i.zero with | some v => v.cells.size == i.size | none => false)
  | none => false

def fieldsOf (P : Program) (fs : Array Field) : List Nat → Option (List (Nat × Nat))
  | [] => some []
  | i :: is => match fs[i]?, fieldsOf P fs is with
    | some f, some r => if known P f.type then some ((f.offset, szOf P f.type) :: r) else none
    | _, _ => none

/-- Which operation of the machine is which; 'ts': of which operands the rights are taken. -/
def convOp (P : Program) (nz : List Nat) (ts : List Bool) (o : Oper) : Option (OpK × List Operand) :=
  match o.op with
  | .move x => some (.mov, [x])
  | .assign x => some (.mov, [x])
  | .load t a => if known P t then some (.load (szOf P t) (aggT P t) (ts.headD false && !aggT P t), [a]) else none
  | .store t a x => if known P t then some (.store (szOf P t), [a, x]) else none
  | .alloc t => match P.info? t with
    | some i => match i.zero with
      | some v => if known P t then (if ts.headD false then (match P.underlying t with
          | some (.struct fs) => match fs[1]? with
            | some f => match P.underlying f.type with
              | some (.slice e) => some (.newB t e, [.const v])
              | _ => none
            | none => none
          | _ => none) else some (.new v.cells.size, [.const v])) else none
      | none => none
    | none => none
  | .box t x => if known P t then some (.new (szOf P t), [x]) else none
  | .build t parts => match P.underlying t, zeroAV P nz t with
    | some (.struct fs), some (.agg zs) => if fs.toList.all fun f => known P f.type then (match fieldsOf P fs (parts.toList.map (·.1)) with
      | some offs => some (.build zs offs, parts.toList.map (·.2))
      | none => none) else none
    | _, _ => none
  | .buildSlice t len parts => match P.underlying t with
    | some (.slice e) => if known P e && zeroOk P e && (parts.toList.map (·.1) == List.range len) then some (.bslice (szOf P e) (aggT P e) len, parts.toList.map (·.2)) else none
    | _ => none
  | .extract x i => if ts.headD false then some (.ext i, [x]) else (convPure P o).map fun r => (.pure r.1, r.2)
  | .call c => match c.callee with
    | .value (.func f) => some (.call f, c.args.toList)
    | .value x => some (.callv, x :: c.args.toList)
    | .builtin .append => match c.args.toList, c.argTypes.toList with
      | [s, x], t :: u :: [] => match P.underlying t, P.underlying u with
        | some (.slice e), some (.slice e') => if known P e && known P e' && szOf P e == szOf P e' && zeroOk P e then some (.append (szOf P e) (bytesOf P e) false, [s, x]) else none
        | some (.slice e), some .string => if known P e && szOf P e == 1 && zeroOk P e then some (.append (szOf P e) (bytesOf P e) true, [s, x]) else none
        | _, _ => none
      | _, _ => none
    | _ => (convPure P o).map fun r => (.pure r.1, r.2)
  | .convert s d x => match P.underlying s, P.underlying d with
    | some (.slice e), some .string => match P.underlying e with
      | some (.int .u8) => some (.cvBS, [x])
      | _ => none
    | some .string, some (.slice e) => match P.underlying e with
      | some (.int .u8) => some (.cvSB, [x])
      | _ => none
    | _, _ => (convPure P o).map fun r => (.pure r.1, r.2)
  | _ => (convPure P o).map fun r => (.pure r.1, r.2)

/-- What is asked of an operation's answer. -/
def OpPost (P : Program) (s : Sem Next) (w : World) (R : Value → World → Prop) : Prop :=
  match s.run P w with
  | .ok (.value v) w' => R v w'
  | .ok .skip w' => R undef w'
  | .ok (.enter f args) w' => Calls P f args w' fun e w'' => ∃ v, e = .returned v ∧ R v w''
  | _ => False

/-- What stands behind an operation that was given 'vs' and answers 'd'. -/
def Done (g : Gh) (w : World) (vs : List Value) (ds : List AV) (mem : Mem) (fr : List Nat) (d : AV) (mem' : Mem) (v : Value) (w' : World) : Prop :=
  ∃ g', Inv g' w' [v] [d] mem' fr ∧ Goes (claims g vs ds mem) g w (claims g' [v] [d] mem') g' w'

 section
variable {P : Program} {g : Gh} {w : World} {vs : List Value} {ds : List AV} {mem mem' : Mem} {fr : List Nat} {d : AV}

theorem OpPost.value {s : Sem Next} {v : Value} {w' : World} {R : Value → World → Prop} (h : s.run P w = .ok (.value v) w') (hr : R v w') : OpPost P s w R := by
  unfold OpPost; rw [h]; exact hr

/-- The world is the same, and the value has no right, or those of the operands. -/
theorem Inv.one (h : Inv g w vs ds mem fr) {v : Value} (hr : Rep g.pers g.bl v d) (ho : OwnOk w g.pers v d) (hc : ∀ t, (own v d).count t ≤ (ownL vs ds).count t) :
    Inv g w [v] [d] mem fr ∧ Goes (claims g vs ds mem) g w (claims g [v] [d] mem) g w := by
  have e : ownL [v] [d] = own v d := by simp [ownL]
  refine ⟨⟨repL_mk hr repL_nil, fun i u f a b => ?_, h.blLen, h.mvLen, h.persOk, h.memOk, ?_, h.frLt, h.memPtr⟩, .refl _ _ _, fun b hb => .inl ?_⟩
  · cases i with
    | zero => simp at a b; subst a; subst b; exact ho
    | succ i => simp at a
  · rw [List.nodup_iff_count]; intro t
    have := nd_count h t; have := hc t
    rw [count_claims] at *
    rw [List.count_append, count_claims, e]; omega
  · rw [mem_count, count_claims, e] at hb
    rw [mem_count, count_claims]; have := hc b; omega

theorem done_pure (h : Inv g w vs ds mem fr) {v : Value} (hr : Rep g.pers g.bl v d) : Done g w vs ds mem fr d.plain mem v w :=
  ⟨g, h.one hr.plain (ok_plain w g.pers v d) (fun t => by rw [own_plain]; simp)⟩

theorem pure_done {o : Oper} {q : POp} {xs : List Operand} {ρ : Operand → Value} (hc : convPure P o = some (q, xs)) (h : Inv g w (xs.map ρ) ds mem fr) (hd : pureOp q ds = some d) :
    OpPost P (execOp ρ o) w (Done g w (xs.map ρ) ds mem fr d.plain mem) := by
  obtain ⟨v, h1, h2⟩ := pure_sound (w := w) hc h.envRep hd
  exact .value h1 (done_pure h h2)

theorem mov_done {o : Oper} {x : Operand} {ρ : Operand → Value} (hop : o.op = .move x ∨ o.op = .assign x) (h : Inv g w [ρ x] [d] mem fr) :
    OpPost P (execOp ρ o) w (Done g w [ρ x] [d] mem fr d mem) := by
  have hr : (execOp ρ o).run P w = .ok (.value (ρ x)) w := by
    unfold execOp; rcases hop with hop | hop <;> rw [hop] <;> rfl
  exact .value hr ⟨g, h, .refl _ _ _⟩

theorem count_flatMap_mem {α : Type} (f : α → List Nat) (t : Nat) : ∀ {l : List α} {x : α}, x ∈ l → (f x).count t ≤ (l.flatMap f).count t
  | a :: l, x, h => by
    rw [List.flatMap_cons, List.count_append]
    rcases List.mem_cons.1 h with rfl | h
    · omega
    · have := count_flatMap_mem f t h; omega

theorem ext_done {o : Oper} {x : Operand} {i : Nat} {ρ : Operand → Value} (hop : o.op = .extract x i) {es : List AV} (h : Inv g w [ρ x] [.tup es] mem fr) (hd : es[i]? = some d) (ht : ∀ es2, d ≠ .tup es2) :
    OpPost P (execOp ρ o) w (Done g w [ρ x] [.tup es] mem fr d mem) := by
  have r1 : Rep g.pers g.bl (ρ x) (.tup es) := h.envRep.2 0 _ _ rfl rfl
  have o1 : OwnOk w g.pers (ρ x) (.tup es) := h.envOwn 0 _ _ rfl rfl
  obtain ⟨us, hu, hl⟩ := rep_tup r1
  obtain ⟨u, hui⟩ := get_of_len hl.1 hd
  have hr : (execOp ρ o).run P w = .ok (.value u) w := by
    unfold execOp; rw [hop]
    have : (⟨us⟩ : Array Value)[i]? = some u := by simpa using hui
    simp only [Instr.extract, hu, this]; rfl
  have hmem : (u, d) ∈ us.zip es := List.mem_of_getElem? (zip_get hui hd)
  have hrep := hl.2 i u d hui hd
  rw [hu] at o1
  have hlv : leaves u d = leaves2 u d := by
    cases d <;> cases u <;> first | rfl | (exact absurd rfl (ht _))
  refine .value hr ⟨g, h.one hrep (fun y hy => o1 y ?_) fun t => ?_⟩
  · rw [hlv] at hy
    exact List.mem_flatMap.2 ⟨(u, d), hmem, hy⟩
  · unfold ownL own
    simp only [List.zip_cons_cons, List.zip_nil_right, List.flatMap_cons, List.flatMap_nil, List.append_nil, hlv, hu]
    have := count_flatMap_mem (fun x : Value × AV => (leaves2 x.1 x.2).flatMap own1) t hmem
    simp only [leaves]
    rw [List.flatMap_assoc]; exact this

/-! ### Memory blocks -/
/-- A block of the memory is written anew. -/
theorem noBld {cs : List AV} (h : ¬ hasBld cs = true) : ∀ c ∈ cs, ∀ t e, c ≠ .bld t e := by
  rintro c hc t e rfl
  exact h (List.any_eq_true.2 ⟨_, hc, rfl⟩)

theorem Inv.setMem (h : Inv g w vs ds mem fr) {b blk : Nat} {us us' : List Value} {cs cs' : List AV} {e : TypeId} {fz : Nat × Nat} (h1 : g.bl[b]? = some blk) (h2 : g.mv[b]? = some us) (h3 : mem[b]? = some cs)
    (ho : w.heap[blk]? = some (.cells ⟨us⟩ e fz)) (hlen : us'.length = us.length) (hf : nofreeze fz us.length)
    (hr : RepL g.pers g.bl us' cs') (hs : scrubL (b + 1) cs' = cs')
    {v : Value} (hrv : Rep g.pers g.bl v d) (hov : OwnOk w g.pers v d) (how : ∀ (j : Nat) u c, us'[j]? = some u → cs'[j]? = some c → OwnOk w g.pers u c)
    (hcnt : ∀ t, (ownL us' cs').count t + (own v d).count t ≤ (ownL us cs).count t + (ownL vs ds).count t) (hbd : BldOk (World.setBlk w blk (.cells ⟨us'⟩ e fz)) blk us' cs') :
    Inv { g with mv := g.mv.set b us' } (World.setBlk w blk (.cells ⟨us'⟩ e fz)) [v] [d] (mem.set b cs') fr ∧
    Goes (claims g vs ds mem) g w (claims { g with mv := g.mv.set b us' } [v] [d] (mem.set b cs')) { g with mv := g.mv.set b us' } (World.setBlk w blk (.cells ⟨us'⟩ e fz)) := by
  have e1 : ownL [v] [d] = own v d := by simp [ownL]
  have hb := (Array.getElem?_eq_some_iff.1 ho).1
  have hin : blk ∈ g.bl := List.mem_of_getElem? h1
  have hfree : ∀ o, g.pers blk o = none := (h.memOk b blk us cs h1 h2 h3).free
  have hnd := nd_count h
  have hin1 : 0 < g.bl.count blk := mem_count.1 hin
  have hcM : ∀ t, (ownM (g.mv.set b us') (mem.set b cs')).count t + (ownL us cs).count t = (ownM g.mv mem).count t + (ownL us' cs').count t := by
    intro t; unfold ownM; rw [zip_set]
    exact count_flatMap_set (fun x : List Value × List AV => ownL x.1 x.2) t _ b (us', cs') (us, cs) (zip_get h2 h3)
  have hcnt' : ∀ t, g.bl.count t + (own v d).count t + (ownM (g.mv.set b us') (mem.set b cs')).count t ≤ (claims g vs ds mem).count t := by
    intro t
    have := hcM t; have := hcnt t
    rw [count_claims]
    omega
  have hcl : ∀ t, (claims ⟨g.pers, g.bl, g.mv.set b us'⟩ [v] [d] (mem.set b cs')).count t = g.bl.count t + (own v d).count t + (ownM (g.mv.set b us') (mem.set b cs')).count t := by
    intro t; rw [count_claims, e1]
  -- what is claimed lies elsewhere
  have other : ∀ t, 0 < (own v d).count t + (ownM (g.mv.set b us') (mem.set b cs')).count t → t ≠ blk := by
    rintro t ht rfl
    have h1 := hnd t; have h2 := hcnt' t
    omega
  have keep : ∀ t, t ≠ blk → (World.setBlk w blk (.cells ⟨us'⟩ e fz)).heap[t]? = w.heap[t]? ∧ ∀ o, g.pers t o = g.pers t o := fun t ht => by
    rw [getElem?_setBlk hb, if_neg (Ne.symm ht)]; exact ⟨rfl, fun _ => rfl⟩
  refine ⟨⟨repL_mk hrv repL_nil, fun i u f a b' => ?_, by simpa using h.blLen, by simpa using h.mvLen, fun b' o v' hp => ?_, fun i b' us2 cs2 k1 k2 k3 => ?_, ?_, fun t ht => by rw [setBlk_size]; exact h.frLt t ht, fun i cs2 k => ?_⟩, ⟨rfl, rfl, rfl, by rw [setBlk_size]; exact Nat.le_refl _, fun _ _ _ q => q, List.prefix_refl _, fun t ht hn => ?_⟩, fun t ht => .inl ?_⟩
  · cases i with
    | zero =>
      simp at a b'; subst a; subst b'
      exact hov.keep fun t ht => keep t (other t (by have := mem_count.1 ht; omega))
    | succ i => simp at a
  · have hne : b' ≠ blk := by rintro rfl; rw [show g.pers b' o = none from hfree o] at hp; cases hp
    have := h.persOk b' o v' hp
    unfold World.cell? at this ⊢
    simp only at this ⊢
    rw [(keep b' hne).1]; exact this
  · have k1 : g.bl[i]? = some b' := k1
    have k2 : (g.mv.set b us')[i]? = some us2 := k2
    by_cases hib : i = b
    · subst hib
      rw [List.getElem?_set_self (lt_of_get h2)] at k2; cases k2
      have hbb : b' = blk := by rw [k1] at h1; exact Option.some.inj h1
      subst hbb
      rw [List.getElem?_set_self (lt_of_get h3)] at k3; cases k3
      refine ⟨⟨e, fz, by rw [getElem?_setBlk hb, if_pos rfl], by rw [hlen]; exact hf⟩, hfree, hr, fun j u c a1 a2 => ?_, ?_⟩
      refine (how j u c a1 a2).keep fun t ht => keep t (other t ?_)
      have hm : t ∈ ownM (g.mv.set i us') (mem.set i cs') := List.mem_flatMap.2 ⟨(us', cs'), List.mem_of_getElem? (zip_get (by rw [List.getElem?_set_self (lt_of_get h2)]) (by rw [List.getElem?_set_self (lt_of_get h3)])), mem_ownL a1 a2 ht⟩
      have := mem_count.1 hm; omega
      exact hbd
    · rw [List.getElem?_set_ne (Ne.symm hib)] at k2 k3
      have m := h.memOk i b' us2 cs2 k1 k2 k3
      have hne : b' ≠ blk := by
        rintro rfl
        have hn : g.bl.Nodup := by
          rw [List.nodup_iff_count]; intro t; have := hnd t; rw [count_claims] at this; omega
        exact hib ((List.getElem?_inj (lt_of_get k1) hn).1 (k1.trans h1.symm))
      obtain ⟨e2, fz2, q1, q2⟩ := m.obj
      refine ⟨⟨e2, fz2, (keep b' hne).1.trans q1, q2⟩, m.free, m.rep, fun j u c a1 a2 => (m.own j u c a1 a2).keep fun t ht => keep t (other t ?_), m.bld.keep fun t ht => (keep t (ht.elim (fun h => h ▸ hne) fun h => other t ?_)).1⟩
      have hm : t ∈ ownM (g.mv.set b us') (mem.set b cs') := List.mem_flatMap.2 ⟨(us2, cs2), List.mem_of_getElem? (zip_get (by rw [List.getElem?_set_ne (Ne.symm hib)]; exact k2) (by rw [List.getElem?_set_ne (Ne.symm hib)]; exact k3)), mem_ownL a1 a2 ht⟩
      have := mem_count.1 hm; omega
      have hm : t ∈ ownM (g.mv.set b us') (mem.set b cs') := List.mem_flatMap.2 ⟨(us2, cs2), List.mem_of_getElem? (zip_get (by rw [List.getElem?_set_ne (Ne.symm hib)]; exact k2) (by rw [List.getElem?_set_ne (Ne.symm hib)]; exact k3)), h⟩
      have := mem_count.1 hm; omega
  · rw [List.nodup_iff_count]; intro t
    have := hnd t; have := hcnt' t; have := hcl t
    rw [List.count_append]; omega
  · rcases get_set k with ⟨rfl, rfl⟩ | k'
    · exact hs
    · exact h.memPtr i cs2 k'
  · rw [getElem?_setBlk hb]
    have : blk ≠ t := by
      rintro rfl; exact hn (by rw [mem_count, count_claims]; omega)
    rw [if_neg this]; exact ⟨rfl, fun _ => rfl⟩
  · have := mem_count.1 ht; have := hcnt' t; have := hcl t
    rw [mem_count]; omega

theorem mem_cells (h : Inv g w vs ds mem fr) {b blk : Nat} {cs : List AV} (h1 : g.bl[b]? = some blk) (h3 : mem[b]? = some cs) :
    ∃ us e fz, g.mv[b]? = some us ∧ w.heap[blk]? = some (.cells ⟨us⟩ e fz) ∧ nofreeze fz us.length ∧ RepL g.pers g.bl us cs ∧ (∀ (j : Nat) u c, us[j]? = some u → cs[j]? = some c → OwnOk w g.pers u c) := by
  obtain ⟨us, h2⟩ := get_of_len h.mvLen h3
  have m := h.memOk b blk us cs h1 h2 h3
  obtain ⟨e, fz, ho, hf⟩ := m.obj
  exact ⟨us, e, fz, h2, ho, hf, m.rep, m.own⟩

theorem ownL_le {us : List Value} {cs : List AV} {j : Nat} {u : Value} {c : AV} (a : us[j]? = some u) (b : cs[j]? = some c) (t : Nat) : (own u c).count t ≤ (ownL us cs).count t :=
  count_flatMap_mem (fun x : Value × AV => own x.1 x.2) t (List.mem_of_getElem? (zip_get a b))

theorem ownL_set {us : List Value} {cs : List AV} {j : Nat} {u u' : Value} {c c' : AV} (a : us[j]? = some u) (b : cs[j]? = some c) (t : Nat) :
    (ownL (us.set j u') (cs.set j c')).count t + (own u c).count t = (ownL us cs).count t + (own u' c').count t := count_ownL_set t a b

theorem set_self {α : Type} {l : List α} {i : Nat} {x : α} (h : l[i]? = some x) : l.set i x = l := by
  apply List.ext_getElem?; intro j; rw [List.getElem?_set]; split
  · rename_i e; subst e; rw [if_pos (lt_of_get h), h]
  · rfl

theorem setBlk_self {w : World} {b : Nat} {o : Obj} (h : w.heap[b]? = some o) : World.setBlk w b o = w := by
  unfold World.setBlk; cases w; congr 1
  apply Array.ext_getElem?; intro j
  rw [Array.getElem?_setIfInBounds]
  split
  · rename_i hj; subst hj
    have hb := (Array.getElem?_eq_some_iff.1 h).1
    simp only [if_pos hb]; exact h.symm
  · rfl

theorem load_done {o : Oper} {x : Operand} {t : TypeId} {ρ : Operand → Value} {Φ : Oracle} {tk : Bool} (hop : o.op = .load t x) (hk : known P t = true) (htk : tk = true → aggT P t = false) (h : Inv g w [ρ x] ds mem fr)
    (hd : opA Φ (.load (szOf P t) (aggT P t) tk) ds mem = some (d, mem')) : OpPost P (execOp ρ o) w (Done g w [ρ x] ds mem fr d mem') := by
  obtain ⟨e1, rfl, r1⟩ := Go.Eng.one h.envRep
  have hex : ∀ {v : Value} {a : Addr}, ρ x = .pointer (some a) → (loadVar t a).run P w = .ok v w → (execOp ρ o).run P w = .ok (.value v) w := by
    intro v a hv hl
    unfold execOp; rw [hop]
    refine run_value (s := Instr.loadAt t (ρ x)) ?_
    simp only [Instr.loadAt, hv, Sem.run_bind, run_sure, Result.andThen_ok, hl]
  simp only [opA] at hd
  cases e1 <;> simp only [reduceCtorEq] at hd
  · rename_i b off
    obtain ⟨blk, hb, hv⟩ := rep_ptr r1
    split at hd
    · rename_i cs hcs
      obtain ⟨us, e, fz, h2, ho, hf, hrep, hown⟩ := mem_cells h hb hcs
      split at hd
      · rename_i d0 hd0
        obtain ⟨v, g1, g2⟩ := run_loadVar (P := P) (w := w) hk (a := ⟨blk, 0, none⟩) hrep (o := off) (fun j v hj => by simp only [Nat.zero_add]; rw [cell_of_blk ho]; exact hj) rfl hd0
        rw [add_none rfl] at g1
        simp only [Nat.zero_add] at g1
        refine .value (hex hv g1) ?_
        split at hd
        · rename_i htk1
          have hag := htk htk1
          by_cases hnb : hasBld cs = true
          · simp [hnb] at hd
          simp only [hnb, Bool.false_eq_true, if_false] at hd
          split at hd
          · rename_i q z xs
            cases hd
            unfold loadAV at hd0
            simp only [hag, Bool.false_eq_true, if_false, Option.ite_none_right_eq_some] at hd0
            obtain ⟨_, hc⟩ := hd0
            obtain ⟨u, hu⟩ := get_of_len hrep.1 hc
            -- the cell's own value is what was loaded
            have huv : u = v := by
              have hl : (loadVar t ⟨blk, off, none⟩).run P w = .ok u w := by
                obtain ⟨ud, hud⟩ := und_of_known hk
                unfold loadVar
                simp only [Sem.run_bind, run_isAgg hud, Result.andThen_ok, hag, Bool.false_eq_true, if_false]
                exact run_load_cell (by rw [cell_of_blk ho]; exact hu)
              rw [g1] at hl; injection hl with hl; exact hl.symm
            subst huv
            have hpl : AV.plain (.sl q z xs) = .sl false z xs := rfl
            have key := h.setMem (d := .sl q z xs) (v := u) (us' := us.set off u) (cs' := cs.set off (.sl false z xs)) hb h2 hcs ho (by simp) hf
              (by
                refine ⟨by simp [hrep.1], fun i a c p q => ?_⟩
                rw [set_self hu] at p
                rcases get_set q with ⟨rfl, rfl⟩ | q'
                · rw [p] at hu; cases hu; exact (hrep.2 _ _ _ p hc).plain1
                · exact hrep.2 i a c p q')
              (by
                have hm := h.memPtr b cs hcs
                rw [scrubL_map] at hm ⊢
                rw [List.map_set, hm]
                congr 1)
              (g2) (hown off u _ hu hc)
              (by
                intro j a c p q
                rw [set_self hu] at p
                rcases get_set q with ⟨rfl, rfl⟩ | q'
                · exact noOwn_ok rfl
                · exact hown j a c p q')
              (by
                intro t
                have := ownL_set (u' := u) (c' := .sl false z xs) hu hc t
                rw [noOwn_own (d := .sl false z xs) rfl] at this
                simp at this; omega)
              (BldOk.none fun c hcm => by
                rcases List.mem_or_eq_of_mem_set hcm with h1 | h1
                · exact noBld hnb c h1
                · subst h1; intro t e; simp)
            rw [set_self hu, setBlk_self ho] at key
            exact ⟨_, key⟩
          · cases hd
        · cases hd
          exact done_pure h g2
      · cases hd
    · cases hd
  · rename_i cs
    obtain ⟨ad, us, hv, hh, hl⟩ := rep_pel r1
    split at hd
    · rename_i d0 hd0
      cases hd
      obtain ⟨v, g1, g2⟩ := run_loadVar (P := P) (w := w) hk (a := ad) hl (o := 0) (fun j v hj => h.persOk _ _ _ (hh.2 j v hj)) hh.1 hd0
      refine .value (hex hv ?_) (done_pure h g2)
      have : ad.add 0 = ad := rfl
      rw [this] at g1; exact g1
    · cases hd

theorem splice_len {cs ds : List AV} {o : Nat} (h : o + ds.length ≤ cs.length) : (splice cs o ds).length = cs.length := by
  unfold splice; simp; omega

theorem cells_of_rep {p : Pers} {bl : List Nat} {v : Value} {d : AV} (h : Rep p bl v d) (hall : d.cells.all AV.isCell = true) :
    RepL p bl v.cells.toList d.cells ∧ (∀ u ∈ v.cells.toList, oneCell u = true) ∧ ownL v.cells.toList d.cells = own v d ∧ (∀ w, OwnOk w p v d → ∀ (j : Nat) u c, v.cells.toList[j]? = some u → d.cells[j]? = some c → OwnOk w p u c) := by
  have single : d.cells = [d] → d.isCell = true → (RepL p bl v.cells.toList d.cells ∧ (∀ u ∈ v.cells.toList, oneCell u = true) ∧ ownL v.cells.toList d.cells = own v d ∧ (∀ w, OwnOk w p v d → ∀ (j : Nat) u c, v.cells.toList[j]? = some u → d.cells[j]? = some c → OwnOk w p u c)) := by
    intro e1 e2
    have ho := isCell_one h e2
    have hv : v.cells = #[v] := by cases v <;> first | rfl | simp [oneCell] at ho
    rw [hv, e1]
    refine ⟨repL_mk h repL_nil, fun u hu => by simp at hu; subst hu; exact ho, by simp [ownL], fun w hw j u c a b => ?_⟩
    cases j with
    | zero => simp at a b; subst a; subst b; exact hw
    | succ j => simp at a
  cases h with
  | agg vs cs hl hr =>
    simp only [AV.cells] at hall ⊢
    have hc : ∀ (j : Nat) u c, vs[j]? = some u → cs[j]? = some c → leaves u c = [(u, c)] := by
      intro j u c a b
      have := List.all_eq_true.1 hall c (List.mem_of_getElem? b)
      cases c <;> cases u <;> first | rfl | (simp [AV.isCell] at this)
    refine ⟨⟨hl, hr⟩, fun u hu => ?_, ?_, fun w hw j u c a b x hx => ?_⟩
    · obtain ⟨i, hi⟩ := List.getElem?_of_mem hu
      obtain ⟨c, hcc⟩ := get_of_len hl.symm hi
      exact isCell_one (hr i u c hi hcc) (List.all_eq_true.1 hall c (List.mem_of_getElem? hcc))
    · show (vs.zip cs).flatMap (fun x => own x.1 x.2) = (vs.zip cs).flatMap own1
      rw [List.flatMap_def, List.flatMap_def]
      congr 1
      apply List.map_congr_left
      intro x hx
      obtain ⟨i, hi⟩ := List.getElem?_of_mem hx
      rw [List.getElem?_zip_eq_some] at hi
      unfold own
      rw [hc i _ _ hi.1 hi.2]; simp
    · rw [hc j u c a b] at hx
      simp at hx; subst hx
      exact hw _ (List.mem_of_getElem? (zip_get a b))
  | tup vs cs hl hr => simp [AV.cells, AV.isCell] at hall
  | junk => simp [AV.cells, AV.isCell] at hall
  | bld => simp [AV.cells, AV.isCell] at hall
  | _ => exact single rfl rfl

theorem run_storeVar {t : TypeId} (hk : known P t = true) {b off : Nat} {us : List Value} {e : TypeId} {fz : Nat × Nat} (ho : w.heap[b]? = some (.cells ⟨us⟩ e fz)) (hf : nofreeze fz us.length) {v : Value}
    (hsz : v.cells.toList.length = szOf P t) (hle : off + szOf P t ≤ us.length) (h1 : ∀ u ∈ v.cells.toList, oneCell u = true) :
    (storeVar t ⟨b, off, none⟩ v).run P w = .ok () (World.setBlk w b (.cells ⟨us.take off ++ v.cells.toList ++ us.drop (off + v.cells.toList.length)⟩ e fz)) := by
  unfold storeVar
  have : ¬ (v.cells.size ≠ szOf P t) := by simpa using hsz
  simp only [Sem.run_bind, run_sizeOf hk, Result.andThen_ok, Sem.run_ite, if_neg this]
  have := run_storeCells (P := P) (e := e) (fz := fz) (b := b) (off := off) v.cells.toList 0 us w ho (fun o a b => hf o (by rw [hsz] at b; omega)) (by rw [hsz]; omega) h1
  simpa using this

theorem splice_own {us us' : List Value} {cs cs' : List AV} {off : Nat} (hl : us.length = cs.length) (hl' : us'.length = cs'.length) (t : Nat) :
    (ownL (us.take off ++ us' ++ us.drop (off + us'.length)) (splice cs off cs')).count t ≤ (ownL us cs).count t + (ownL us' cs').count t := by
  unfold splice
  rw [ownL_append (by simp [hl, hl']), ownL_append (by simp [hl])]
  have e1 : ownL us cs = ownL (us.take off) (cs.take off) ++ ownL (us.drop off) (cs.drop off) := by
    rw [← ownL_append (by simp [hl])]; simp
  have e2 : ownL (us.drop off) (cs.drop off) = ownL ((us.drop off).take us'.length) ((cs.drop off).take us'.length) ++ ownL ((us.drop off).drop us'.length) ((cs.drop off).drop us'.length) := by
    rw [← ownL_append (by simp [hl]), List.take_append_drop, List.take_append_drop]
  rw [e1, e2]
  simp only [List.count_append, List.drop_drop, hl']
  omega

theorem splice_get {us us' : List Value} {cs cs' : List AV} {off : Nat} (hl : us.length = cs.length) (hl' : us'.length = cs'.length) {Q : Value → AV → Prop}
    (h1 : ∀ (j : Nat) u c, us[j]? = some u → cs[j]? = some c → Q u c) (h2 : ∀ (j : Nat) u c, us'[j]? = some u → cs'[j]? = some c → Q u c) :
    ∀ (j : Nat) u c, (us.take off ++ us' ++ us.drop (off + us'.length))[j]? = some u → (splice cs off cs')[j]? = some c → Q u c := by
  have hz : ∀ x ∈ (us.take off ++ us' ++ us.drop (off + us'.length)).zip (splice cs off cs'), Q x.1 x.2 := by
    unfold splice
    rw [List.zip_append (by simp [hl, hl']), List.zip_append (by simp [hl])]
    have H1 : ∀ x ∈ us.zip cs, Q x.1 x.2 := fun x hx => by
      obtain ⟨i, hi⟩ := List.getElem?_of_mem hx
      rw [List.getElem?_zip_eq_some] at hi; exact h1 i _ _ hi.1 hi.2
    intro x hx
    simp only [List.mem_append] at hx
    rcases hx with (hx | hx) | hx
    · obtain ⟨i, hi⟩ := List.getElem?_of_mem hx
      rw [List.getElem?_zip_eq_some, List.getElem?_take, List.getElem?_take] at hi
      obtain ⟨p, q⟩ := hi
      split at p
      · rename_i hlt; rw [if_pos hlt] at q; exact h1 i _ _ p q
      · cases p
    · obtain ⟨i, hi⟩ := List.getElem?_of_mem hx
      rw [List.getElem?_zip_eq_some] at hi; exact h2 i _ _ hi.1 hi.2
    · obtain ⟨i, hi⟩ := List.getElem?_of_mem hx
      rw [List.getElem?_zip_eq_some, List.getElem?_drop, List.getElem?_drop, hl'] at hi
      exact h1 _ _ _ hi.1 hi.2
  intro j u c a b
  exact hz (u, c) (List.mem_of_getElem? (zip_get a b))
 end
end Go.Eng
 end

 section
set_option linter.unusedVariables false
set_option linter.unusedSimpArgs false
namespace Go.Eng
 section
variable {P : Program} {g : Gh} {w : World} {vs : List Value} {ds : List AV} {mem mem' : Mem} {fr : List Nat} {d : AV}

theorem scrub_noBld {k : Nat} {ds : List AV} (h : ds.all AV.isCell = true) : ∀ c ∈ scrubL k ds, ∀ t e, c ≠ .bld t e := by
  intro c hc t e
  rw [scrubL_map] at hc
  obtain ⟨d, hd, rfl⟩ := List.mem_map.1 hc
  have := List.all_eq_true.1 h d hd
  cases d <;> simp [AV.scrub, AV.isCell] at this ⊢
  split <;> simp

theorem store_done {o : Oper} {x a : Operand} {t : TypeId} {ρ : Operand → Value} {Φ : Oracle} (hop : o.op = .store t a x) (hk : known P t = true) (h : Inv g w [ρ a, ρ x] ds mem fr)
    (hd : opA Φ (.store (szOf P t)) ds mem = some (d, mem')) : OpPost P (execOp ρ o) w (Done g w [ρ a, ρ x] ds mem fr d mem') := by
  obtain ⟨e1, e2, rfl, r1, r2⟩ := two h.envRep
  have o2 : OwnOk w g.pers (ρ x) e2 := h.envOwn 1 _ _ rfl rfl
  simp only [opA] at hd
  cases e1 <;> simp only [reduceCtorEq] at hd
  rename_i b off
  obtain ⟨blk, hb, hv⟩ := rep_ptr r1
  split at hd
  · rename_i cs hcs
    simp only [Option.ite_none_right_eq_some, Option.some.injEq, Prod.mk.injEq] at hd
    obtain ⟨⟨hn, hle, hall, hnb⟩, rfl, rfl⟩ := hd
    obtain ⟨us, e, fz, h2, ho, hf, hrep, hown⟩ := mem_cells h hb hcs
    obtain ⟨c1, c2, c3, c4⟩ := cells_of_rep r2 hall
    have hsz : (ρ x).cells.toList.length = szOf P t := by rw [c1.1]; exact hn
    have hsz' : (ρ x).cells.size = szOf P t := by simpa using hsz
    have hlu : us.length = cs.length := hrep.1
    have hrun := run_storeVar (P := P) (w := w) hk ho hf hsz (by rw [hrep.1]; exact hle) c2
    have hex : (execOp ρ o).run P w = .ok .skip (World.setBlk w blk (.cells ⟨us.take off ++ (ρ x).cells.toList ++ us.drop (off + (ρ x).cells.toList.length)⟩ e fz)) := by
      unfold execOp; rw [hop]
      simp only [Instr.storeAt, hv, Sem.run_bind, run_sure, Result.andThen_ok, hrun, Sem.run_pure]
    unfold OpPost; rw [hex]
    have hscl : (scrubL (b + 1) e2.cells).length = (ρ x).cells.toList.length := by rw [scrubL_len, c1.1]
    have hpre : ∀ bb bk, bb < b + 1 → g.bl[bb]? = some bk → g.bl[bb]? = some bk := fun _ _ _ q => q
    refine ⟨_, h.setMem (d := .junk) (v := undef) (us' := us.take off ++ (ρ x).cells.toList ++ us.drop (off + (ρ x).cells.toList.length)) (cs' := splice cs off (scrubL (b + 1) e2.cells)) hb h2 hcs ho ?_ hf ⟨?_, ?_⟩ ?_ (.junk _) (noOwn_ok rfl) ?_ ?_ (BldOk.none fun c hc => ?_)⟩
    · simp only [List.length_append, List.length_take, List.length_drop, hsz]; omega
    · rw [splice_len (by rw [hscl, hsz]; exact hle)]; simp only [List.length_append, List.length_take, List.length_drop, hsz]; omega
    · refine splice_get hrep.1 hscl.symm hrep.2 fun j u c p q => ?_
      obtain ⟨c', q', rfl⟩ := get_scrubL q
      exact (c1.2 j u c' p q').scrub hpre
    · have hm := h.memPtr b cs hcs
      unfold splice
      rw [scrubL_map] at hm ⊢
      rw [List.map_append, List.map_append, List.map_take, List.map_drop, hm, ← scrubL_map, scrubL_scrubL _ _ (Nat.le_refl _)]
    · exact splice_get hrep.1 hscl.symm hown fun j u c p q => by
        obtain ⟨c', q', rfl⟩ := get_scrubL q
        exact ok_scrub _ (c4 w o2 j u c' p q')
    · intro t
      have := splice_own (us := us) (us' := (ρ x).cells.toList) (cs := cs) (cs' := scrubL (b + 1) e2.cells) (off := off) hrep.1 hscl.symm t
      rw [ownL_scrub, c3] at this
      rw [noOwn_own (d := .junk) rfl]
      have e : ownL [ρ a, ρ x] [.ptr b off, e2] = own (ρ a) (.ptr b off) ++ own (ρ x) e2 := by simp [ownL]
      rw [e, List.count_append, List.count_nil]; omega
    · unfold splice at hc
      rcases List.mem_append.1 hc with hc | hc
      · rcases List.mem_append.1 hc with hc | hc
        · exact noBld (by simp [hnb]) c (List.mem_of_mem_take hc)
        · exact scrub_noBld hall c hc
      · exact noBld (by simp [hnb]) c (List.mem_of_mem_drop hc)
  · cases hd

theorem push_get {w : World} {o : Obj} {b : Nat} (h : b < w.heap.size) : (w.heap.push o)[b]? = w.heap[b]? := by
  rw [Array.getElem?_push]; simp [Nat.ne_of_lt h]
theorem push_new {w : World} {o : Obj} : (w.heap.push o)[w.heap.size]? = some o := by simp

theorem pers_lt (h : Inv g w vs ds mem fr) {b o : Nat} {v : Value} (hp : g.pers b o = some v) : b < w.heap.size := by
  have := h.persOk b o v hp
  exact World.block_lt_of_cell? w _ this

/-- A new variable. -/
theorem Inv.newMem {v : Value} {e2 : AV} (h : Inv g w [v] [e2] mem fr) (hall : e2.cells.all AV.isCell = true) (t : TypeId) :
    let w' : World := { w with heap := w.heap.push (.cells v.cells t) }
    let g' : Gh := ⟨g.pers, g.bl ++ [w.heap.size], g.mv ++ [v.cells.toList]⟩
    let mem' := mem ++ [scrubL (mem.length + 1) e2.cells]
    Inv g' w' [.pointer (some ⟨w.heap.size, 0, none⟩)] [.ptr mem.length 0] mem' fr ∧
    Goes (claims g [v] [e2] mem) g w (claims g' [.pointer (some ⟨w.heap.size, 0, none⟩)] [.ptr mem.length 0] mem') g' w' := by
  intro w' g' mem'
  have r2 : Rep g.pers g.bl v e2 := h.envRep.2 0 _ _ rfl rfl
  have o2 : OwnOk w g.pers v e2 := h.envOwn 0 _ _ rfl rfl
  obtain ⟨c1, c2, c3, c4⟩ := cells_of_rep r2 hall
  have hpre : g.bl <+: g'.bl := List.prefix_append _ _
  have hsz : w'.heap.size = w.heap.size + 1 := by simp [w']
  have keep : ∀ b, b < w.heap.size → w'.heap[b]? = w.heap[b]? ∧ ∀ o, g'.pers b o = g.pers b o := fun b hb => ⟨push_get hb, fun _ => rfl⟩
  have hown0 : own (.pointer (some ⟨w.heap.size, 0, none⟩)) (.ptr mem.length 0) = [] := rfl
  have e1 : ownL [v] [e2] = own v e2 := by simp [ownL]
  have hM : ownM g'.mv mem' = ownM g.mv mem ++ own v e2 := by
    show (((g.mv ++ [v.cells.toList]).zip (mem ++ [scrubL (mem.length + 1) e2.cells])).flatMap fun x => ownL x.1 x.2) = _
    rw [List.zip_append h.mvLen, List.flatMap_append]
    simp [ownL_scrub, c3, ownM]
  have hcl : ∀ t, (claims g' [.pointer (some ⟨w.heap.size, 0, none⟩)] [.ptr mem.length 0] mem').count t = g.bl.count t + [w.heap.size].count t + (ownM g.mv mem).count t + (own v e2).count t := by
    intro t
    rw [count_claims, hM]
    have : ownL [.pointer (some ⟨w.heap.size, 0, none⟩)] [.ptr mem.length 0] = [] := by simp [ownL, hown0]
    rw [this]
    have hb : g'.bl.count t = g.bl.count t + [w.heap.size].count t := List.count_append
    rw [hb, List.count_append, List.count_nil]; omega
  have hlt : ∀ t, t ∈ claims g [v] [e2] mem ∨ t ∈ fr → t < w.heap.size := fun t ht => ht.elim h.claims_lt (h.frLt t)
  refine ⟨⟨repL_mk (.ptr _ _ w.heap.size ?_) repL_nil, fun i u f a b => ?_, by simp [g', mem', h.blLen], by simp [g', mem', h.mvLen], fun b o u hp => ?_, fun i b us cs k1 k2 k3 => ?_, ?_, fun t ht => by rw [hsz]; have := h.frLt t ht; omega, fun i cs k => ?_⟩,
    ⟨rfl, rfl, rfl, by rw [hsz]; omega, fun _ _ _ q => q, hpre, fun b hb _ => keep b hb⟩, fun t ht => ?_⟩
  · show (g.bl ++ [w.heap.size])[mem.length]? = _
    rw [← h.blLen]; simp
  · cases i with
    | zero => simp at a b; subst a; subst b; exact noOwn_ok rfl
    | succ i => simp at a
  · have hb := pers_lt h hp
    have := h.persOk b o u hp
    unfold World.cell? at this ⊢
    simp only at this ⊢
    rw [(keep b hb).1]; exact this
  · have k1 : (g.bl ++ [w.heap.size])[i]? = some b := k1
    have k2 : (g.mv ++ [v.cells.toList])[i]? = some us := k2
    have k3 : (mem ++ [scrubL (mem.length + 1) e2.cells])[i]? = some cs := k3
    rcases Nat.lt_or_ge i mem.length with hi | hi
    · rw [List.getElem?_append_left (by rw [h.blLen]; exact hi)] at k1
      rw [List.getElem?_append_left (by rw [h.mvLen]; exact hi)] at k2
      rw [List.getElem?_append_left hi] at k3
      have m := h.memOk i b us cs k1 k2 k3
      obtain ⟨e, fz, q1, q2⟩ := m.obj
      have hb := (Array.getElem?_eq_some_iff.1 q1).1
      exact ⟨⟨e, fz, (keep b hb).1.trans q1, q2⟩, m.free, m.rep.mono (fun _ _ _ q => q) hpre, fun j u c p q => (m.own j u c p q).grow keep, m.bld.keep fun t ht => (keep t (by
        rcases ht with rfl | ht
        · exact hb
        · obtain ⟨x, hx, hxt⟩ := List.mem_flatMap.1 ht
          obtain ⟨j, hj⟩ := List.getElem?_of_mem hx
          rw [List.getElem?_zip_eq_some] at hj
          exact own_lt (m.own j _ _ hj.1 hj.2) hxt)).1⟩
    · rw [List.getElem?_append_right (by rw [h.blLen]; exact hi), h.blLen] at k1
      rw [List.getElem?_append_right (by rw [h.mvLen]; exact hi), h.mvLen] at k2
      rw [List.getElem?_append_right hi] at k3
      have hz : i - mem.length = 0 := by
        have := lt_of_get k3; simp at this; omega
      rw [hz] at k1 k2 k3
      simp at k1 k2 k3
      subst k1; subst k2; subst k3
      refine ⟨⟨t, (0, 0), ?_, fun o _ => by omega⟩, fun o => ?_, ⟨by rw [scrubL_len]; exact c1.1, fun j u c p q => ?_⟩, fun j u c p q => ?_, BldOk.none (scrub_noBld hall)⟩
      · show (w.heap.push _)[w.heap.size]? = _
        rw [push_new]
      · cases hq : g.pers w.heap.size o with
        | none => rfl
        | some u => exact absurd (pers_lt h hq) (Nat.lt_irrefl _)
      · obtain ⟨c', q', rfl⟩ := get_scrubL q
        refine (c1.2 j u c' p q').scrub fun bb bk hbb hbk => ?_
        show (g.bl ++ [w.heap.size])[bb]? = some bk
        rw [List.getElem?_append_left (lt_of_get hbk)]; exact hbk
      · obtain ⟨c', q', rfl⟩ := get_scrubL q
        exact ok_scrub _ ((c4 w o2 j u c' p q').grow keep)
  · rw [List.nodup_iff_count]; intro t
    rw [List.count_append, hcl]
    have h1 := nd_count h t
    rw [count_claims, e1] at h1
    by_cases ht : t = w.heap.size
    · have h2 : t ∉ claims g [v] [e2] mem := fun hm => by have := hlt t (.inl hm); omega
      have h3 : t ∉ fr := fun hm => by have := hlt t (.inr hm); omega
      rw [mem_count, count_claims, e1] at h2
      rw [mem_count] at h3
      have : [w.heap.size].count t = 1 := by rw [ht]; simp
      omega
    · have : [w.heap.size].count t = 0 := by
        rw [List.count_eq_zero]; simpa using ht
      omega
  · have k : (mem ++ [scrubL (mem.length + 1) e2.cells])[i]? = some cs := k
    rcases Nat.lt_or_ge i mem.length with hi | hi
    · rw [List.getElem?_append_left hi] at k; exact h.memPtr i cs k
    · rw [List.getElem?_append_right hi] at k
      have hz : i - mem.length = 0 := by have := lt_of_get k; simp at this; omega
      rw [hz] at k; simp at k; subst k
      have : i = mem.length := by omega
      rw [this]; exact scrubL_scrubL _ _ (Nat.le_refl _) _
  · rw [mem_count, hcl] at ht
    by_cases hc : 0 < (claims g [v] [e2] mem).count t
    · exact .inl (mem_count.2 hc)
    · right
      rw [count_claims, e1] at hc
      have : 0 < [w.heap.size].count t := by omega
      have := mem_count.2 this
      simp at this; omega

theorem run_newVar {t : TypeId} {v : Value} : (newVar t v).run P w = .ok ⟨w.heap.size, 0, none⟩ { w with heap := w.heap.push (.cells v.cells t) } := by
  simp [newVar, newRow, run_newObj]

theorem new_done {o : Oper} {x : Operand} {t : TypeId} {ρ : Operand → Value} {Φ : Oracle} {n : Nat} (hop : o.op = .box t x ∨ (o.op = .alloc t ∧ ∃ i v, P.info? t = some i ∧ i.zero = some v ∧ ρ x = v)) (h : Inv g w [ρ x] ds mem fr)
    (hd : opA Φ (.new n) ds mem = some (d, mem')) : OpPost P (execOp ρ o) w (Done g w [ρ x] ds mem fr d mem') := by
  obtain ⟨e1, rfl, r1⟩ := Go.Eng.one h.envRep
  simp only [opA, Option.ite_none_right_eq_some, Option.some.injEq, Prod.mk.injEq] at hd
  obtain ⟨⟨hn, hall⟩, rfl, rfl⟩ := hd
  have hex : (execOp ρ o).run P w = .ok (.value (.pointer (some ⟨w.heap.size, 0, none⟩))) { w with heap := w.heap.push (.cells (ρ x).cells t) } := by
    unfold execOp
    rcases hop with hop | ⟨hop, i, v, hi, hz, hv⟩
    · rw [hop]
      simp only [Instr.box, Sem.run_bind, run_newVar, Result.andThen_ok, Sem.run_pure]
    · rw [hop]
      simp only [Instr.alloc, zeroValue, typeInfo, Sem.run_bind, run_program, Result.andThen_ok, hi, Sem.run_pure, hz, run_newVar, hv]
  exact .value hex ⟨_, h.newMem hall t⟩

/-- A new strings.Builder. -/
theorem newB_done {o : Oper} {x : Operand} {t e : TypeId} {ρ : Operand → Value} {Φ : Oracle} (hop : o.op = .alloc t ∧ ∃ i v, P.info? t = some i ∧ i.zero = some v ∧ ρ x = v) (h : Inv g w [ρ x] ds mem fr)
    (hd : opA Φ (.newB t e) ds mem = some (d, mem')) : OpPost P (execOp ρ o) w (Done g w [ρ x] ds mem fr d mem') := by
  obtain ⟨e1, rfl, r1⟩ := Go.Eng.one h.envRep
  simp only [opA] at hd
  split at hd
  rotate_left
  · cases hd
  rename_i hq
  simp only [List.cons.injEq, and_true] at hq
  subst hq
  cases hd
  have hex : (execOp ρ o).run P w = .ok (.value (.pointer (some ⟨w.heap.size, 0, none⟩))) { w with heap := w.heap.push (.cells (ρ x).cells t) } := by
    unfold execOp
    obtain ⟨hop, i, v, hi, hz, hv⟩ := hop
    rw [hop]
    simp only [Instr.alloc, zeroValue, typeInfo, Sem.run_bind, run_program, Result.andThen_ok, hi, Sem.run_pure, hz, run_newVar, hv]
  obtain ⟨vs, hv, hl⟩ := rep_agg r1
  have hlen : vs.length = 2 := by rw [hl.1]; rfl
  match vs, hlen with
  | [p, v], _ =>
    have rp := rep_nilp (hl.2 0 p _ rfl rfl)
    obtain ⟨A, c, us, hv2, hle, hz, hus, hA, hsp, h00, h11, h22, hcell⟩ := rep_sl (hl.2 1 v _ rfl rfl)
    have hA0 := h22 rfl
    subst hA0
    have hc0 := h00 rfl
    subst hc0
    have hv' : v = .slice none 0 0 := hv2
    subst rp; subst hv'
    have hcl : (ρ x).cells = #[.pointer none, .slice none 0 0] := by rw [hv]; rfl
    obtain ⟨n1, n2⟩ := h.newMem (by rfl) t
    rw [hcl] at n1 n2 hex
    have hsc : scrubL (mem.length + 1) (AV.cells (.agg [.nilp, .sl false 0 []])) = [.nilp, .sl false 0 []] := rfl
    rw [hsc] at n1 n2
    have hget : ({ w with heap := w.heap.push (.cells #[.pointer none, .slice none 0 0] t) } : World).heap[w.heap.size]? = some (.cells ⟨[.pointer none, .slice none 0 0]⟩ t (0, 0)) := by
      show (w.heap.push _)[w.heap.size]? = _
      rw [push_new]
    have key := n1.setMem (b := mem.length) (blk := w.heap.size) (us := [.pointer none, .slice none 0 0]) (us' := [.pointer none, .slice none 0 0]) (cs := [.nilp, .sl false 0 []]) (cs' := [.bld t e, .sl true 1 []]) (e := t) (fz := (0, 0)) (v := .pointer (some ⟨w.heap.size, 0, none⟩)) (d := .ptr mem.length 0)
      (by show (g.bl ++ [w.heap.size])[mem.length]? = _; rw [← h.blLen]; simp)
      (by show (g.mv ++ [_])[mem.length]? = _; rw [← h.mvLen]; simp)
      (by simp) hget rfl (fun o _ => by omega)
      ⟨rfl, fun i a c p q => by
        match i, p, q with
        | 0, p, q => simp at p q; subst p; subst q; exact .bld ..
        | 1, p, q => simp at p q; subst p; subst q; exact .sl none 0 0 true 1 [] [] (fun y hy => by cases hy) rfl (Nat.le_refl _) (by simp) (.inl rfl) (fun _ ad h => by cases h) (fun _ => rfl) (fun u h => by cases h) (fun _ => rfl) (fun i v d h => by simp at h)
        | i + 2, p, q => simp at p⟩
      rfl (n1.envRep.2 0 _ _ rfl rfl) (noOwn_ok rfl)
      (fun i a c p q => by
        match i, p, q with
        | 0, p, q => simp at p q; subst p; subst q; exact noOwn_ok rfl
        | 1, p, q =>
          simp at p q; subst p; subst q
          intro y hy; simp [leaves, leaves2] at hy; subst hy; trivial
        | i + 2, p, q => simp at p)
      (fun t => by simp [ownL, own, leaves, leaves2, own1])
      (by
        intro i t' e' hi
        match i, hi with
        | 0, hi =>
          simp at hi
          obtain ⟨rfl, rfl⟩ := hi
          refine ⟨rfl, ?_, _, _, true, 1, [], rfl, rfl, .inl rfl, fun ad n c hq => by cases hq⟩
          unfold World.shape?
          rw [getElem?_setBlk (Array.getElem?_eq_some_iff.1 hget).1, if_pos rfl]
          rfl
        | 1, hi => simp at hi
        | i + 2, hi => simp at hi)
    rw [setBlk_self hget] at key
    have hset : (mem ++ [[AV.nilp, .sl false 0 []]]).set mem.length [.bld t e, .sl true 1 []] = mem ++ [[.bld t e, .sl true 1 []]] := by simp
    rw [hset] at key
    exact .value hex ⟨_, key.1, n2.trans key.2⟩
 end
end Go.Eng
 end

 section
set_option linter.unusedVariables false
set_option linter.unusedSimpArgs false
namespace Go.Eng
 section
variable {P : Program} {w : World}

/-- What is appended: a slice or a string; its cells. -/
structure Source (P : Program) (w : World) (u : TypeId) (size : Nat) (x : Value) (n : Nat) (news : List Value) : Prop where
  typ : (∃ e', P.underlying u = some (.slice e')) ∨ P.underlying u = some .string
  len : ∀ W, (Builtin.lenOf x).run P W = .ok n W
  cells : (Builtin.firstCells size n x).run P w = .ok ⟨news⟩ w ∧ (Builtin.firstCells size n x).run P w.drew = .ok ⟨news⟩ w.drew
  cnt : news.length = n * size
  one : ∀ v ∈ news, oneCell v = true

theorem run_append_room' {t u ty e : TypeId} {i : TypeInfo} (ht : P.underlying t = some (.slice e)) (hi : P.info? e = some i) {x : Value} {n : Nat} {news : List Value} (hx : Source P w u i.size x n news)
    {base : Option Addr} {sLen sCap : Nat} (hroom : sLen + n ≤ sCap) {w' : World}
    (hst : (match base with | some a => storeCells (a.add (sLen * i.size)) news | none => pure ()).run P w = .ok () w') :
    (Builtin.append_ #[t, u] ty #[.slice base sLen sCap, x]).run P w = .ok (.slice base (sLen + n) sCap) w' := by
  cases base with
  | none =>
    simp at hst; subst hst
    rcases hx.typ with ⟨e', hd⟩ | hd <;> simp [Builtin.append_, run_underlying ht, run_underlying hd, sizeOf, typeInfo, hi, hx.len, hroom, hx.cells.1]
  | some a =>
    simp at hst
    rcases hx.typ with ⟨e', hd⟩ | hd <;> simp [Builtin.append_, run_underlying ht, run_underlying hd, sizeOf, typeInfo, hi, hx.len, hroom, hx.cells.1, hst]

theorem run_append_grow' {t u ty e : TypeId} {i : TypeInfo} {z : Value} (ht : P.underlying t = some (.slice e)) (hi : P.info? e = some i) (hz0 : i.zero = some z) {x : Value} {n : Nat} {news : List Value} (hx : Source P w u i.size x n news)
    {base : Option Addr} {sLen sCap : Nat} {olds : List Value} (hold : (Builtin.firstCells i.size sLen (.slice base sLen sCap)).run P w.drew = .ok ⟨olds⟩ w.drew)
    (hg : sCap < sLen + n) (h63 : ((sLen + n : Nat) : Int) ≤ 9223372036854775807) (hfit : Builtin.nextslicecap (sLen + n) sCap * i.bytes ≤ 281474976710656) :
    (Builtin.append_ #[t, u] ty #[.slice base sLen sCap, x]).run P w =
      .ok (.slice (some ⟨w.heap.size, 0, none⟩) (sLen + n) (grownCap w (sLen + n) sCap e))
        (w.drew.alloc (.cells (⟨olds⟩ ++ ⟨news⟩ ++ Builtin.zeroCells z.cells (grownCap w (sLen + n) sCap e - (sLen + n))) e)) := by
  have hn : ¬ (sLen + n ≤ sCap) := by omega
  have h63' : ¬ (9223372036854775807 < ((sLen : Int) + (n : Int))) := by omega
  have h48' : ¬ (281474976710656 < Builtin.nextslicecap (sLen + n) sCap * i.bytes) := by omega
  have hc := hx.cells.2
  rcases hx.typ with ⟨e', hd⟩ | hd <;> simp [Builtin.append_, run_underlying ht, run_underlying hd, sizeOf, typeInfo, zeroValue, hi, hz0, hx.len, hn, h63', h48', Question.forced, hold, hc, newRow, grownCap] <;> (congr 2; apply Array.ext'; simp)
 end
end Go.Eng
 end
