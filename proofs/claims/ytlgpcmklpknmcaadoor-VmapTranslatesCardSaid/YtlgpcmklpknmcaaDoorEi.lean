/- Contracts of functions that the program has no text of.
   strings.Builder: what its functions do, by contract.
   strings.Builder: WriteByte.
   Functions that leave all that was there as it was: told by a contract. -/
import Derived.Test.YtlgpcmklpknmcaaDoorEh
import Derived.Lib.Bytealg
import Derived.Lib.Builder
import Derived.Lib.UnsafeStr
import Derived.Below
import Derived.Lib.SlTrimSet
 section
set_option linter.unusedVariables false
set_option linter.unusedSimpArgs false
namespace Go.Eng

def eIndexByte (ds : List AV) (mem : Mem) : Option (AV × Mem) :=
  match ds with
  | [.str s, .int .u8 c] => some (.int .i64 (Lib.indexByte s c.toNat.toUInt8), mem)
  | _ => none
def eSame (ds : List AV) (mem : Mem) : Option (AV × Mem) :=
  match ds with
  | [d] => some (d.plain, mem)
  | _ => none

def ExtOk (P : Program) (f : FuncId) (e : List AV → Mem → Option (AV × Mem)) : Prop :=
  ∀ ds mem d mem', e ds mem = some (d, mem') → ∀ g w vs fr, Inv g w vs ds mem fr → OpPost P (callFunc f ⟨vs⟩) w (Done g w vs ds mem fr d mem')

 section
variable {P : Program} {f : FuncId} {fn : Func}
theorem indexByte_ok (hf : P.funcs[f]? = some fn) (hname : (fn.name == "runtime.NumGoroutine") = false) (hb : fn.body.isNone = true) (hn : Extern.findNext fn = none) (he : Extern.find fn = some Extern.BytealgIndexByte.indexByte) : ExtOk P f eIndexByte := by
  intro ds mem d mem' hd g w vs fr h
  unfold eIndexByte at hd
  split at hd
  · rename_i s c
    cases hd
    match vs, h with
    | [], h => exact absurd h.envRep.1 (by simp)
    | [_], h => exact absurd h.envRep.1 (by simp)
    | _ :: _ :: _ :: _, h => exact absurd h.envRep.1 (by simp)
    | [a, b], h =>
      have ra := rep_str (h.envRep.2 0 a _ rfl rfl)
      have rb := rep_int (h.envRep.2 1 b _ rfl rfl)
      subst ra; subst rb
      have hr : (callFunc f ⟨[.string ⟨⟨s⟩⟩, .int .u8 c]⟩).run P w = .ok (.value (.int .i64 (Lib.indexByte s c.toNat.toUInt8))) w := by
        rw [run_callFunc_extern hf hname hb hn he]
        have := Lib.run_indexByteString (P := P) ⟨⟨s⟩⟩ c w
        have e : (⟨[.string ⟨⟨s⟩⟩, .int .u8 c]⟩ : Array Value) = #[.string ⟨⟨s⟩⟩, .int .u8 c] := rfl
        rw [e, this]; rfl
      exact .value hr (done_pure (d := .int .i64 (Lib.indexByte s c.toNat.toUInt8)) h (.int ..))
  · cases hd
theorem same_ok (hf : P.funcs[f]? = some fn) (hname : (fn.name == "runtime.NumGoroutine") = false) (hb : fn.body.isNone = true) (hn : Extern.findNext fn = none) (he : Extern.find fn = some Extern.AbiNoEscape.same) : ExtOk P f eSame := by
  intro ds mem d mem' hd g w vs fr h
  unfold eSame at hd
  split at hd
  · rename_i d0
    cases hd
    match vs, h with
    | [], h => exact absurd h.envRep.1 (by simp)
    | _ :: _ :: _, h => exact absurd h.envRep.1 (by simp)
    | [a], h =>
      have hr : (callFunc f ⟨[a]⟩).run P w = .ok (.value a) w := by
        rw [run_callFunc_extern hf hname hb hn he]
        have e : (⟨[a]⟩ : Array Value) = #[a] := rfl
        rw [e, Lib.run_noEscape]; rfl
      exact .value hr (done_pure h (h.envRep.2 0 a _ rfl rfl))
  · cases hd
 end
end Go.Eng
 end

 section
set_option linter.unusedVariables false
set_option linter.unusedSimpArgs false
namespace Go.Eng
 section
variable {P : Program} {g : Gh} {w : World} {vs : List Value} {ds : List AV} {mem mem' : Mem} {fr : List Nat} {d : AV}

/-- The bytes of one block that nobody may write any more, frozen. -/
theorem Inv.refreeze (h : Inv g w vs ds mem fr) {t : Nat} (ht : t ∉ claims g vs ds mem) {C : Array Value} {e : TypeId} {fz fz' : Nat × Nat} (hC : w.heap[t]? = some (.cells C e fz)) {w' : World} (hw : w'.heap = w.heap.setIfInBounds t (.cells C e fz')) :
    Inv g w' vs ds mem fr := by
  have hlt := (Array.getElem?_eq_some_iff.1 hC).1
  have keep : ∀ b, b ≠ t → w'.heap[b]? = w.heap[b]? ∧ ∀ o, g.pers b o = g.pers b o := fun b hb => by
    rw [hw]; simp [Array.getElem?_setIfInBounds, Ne.symm hb]
  have other : ∀ b, 0 < (claims g vs ds mem).count b → b ≠ t := by
    rintro b hb rfl; exact ht (mem_count.2 hb)
  refine ⟨h.envRep, fun i v d a b => (h.envOwn i v d a b).keep fun x hx => keep x (other x ?_), h.blLen, h.mvLen, fun b o v hp => ?_, fun i b us cs k1 k2 k3 => ?_, h.nd, fun x hx => by rw [hw, Array.size_setIfInBounds]; exact h.frLt x hx, h.memPtr⟩
  · have := mem_count.1 (mem_ownL a b hx); rw [count_claims]; omega
  · have := h.persOk b o v hp
    by_cases hb : b = t
    · subst hb
      unfold World.cell? at this ⊢
      simp only [hC] at this
      have h2 : w'.heap[b]? = some (.cells C e fz') := by rw [hw]; simp [hlt]
      simp only [h2]; exact this
    · unfold World.cell? at this ⊢
      simp only at this ⊢
      rw [(keep b hb).1]; exact this
  · have m := h.memOk i b us cs k1 k2 k3
    obtain ⟨e2, fz2, q1, q2⟩ := m.obj
    have hbn : b ≠ t := other b (by have := mem_count.1 (List.mem_of_getElem? k1); rw [count_claims]; omega)
    have hin : ∀ x, x ∈ ownL us cs → x ≠ t := fun x hx => other x (by
      have : x ∈ ownM g.mv mem := List.mem_flatMap.2 ⟨(us, cs), List.mem_of_getElem? (zip_get k2 k3), hx⟩
      have := mem_count.1 this; rw [count_claims]; omega)
    exact ⟨⟨e2, fz2, (keep b hbn).1.trans q1, q2⟩, m.free, m.rep, fun j u c p q => (m.own j u c p q).keep fun x hx => keep x (hin x (mem_ownL p q hx)), m.bld.keep fun x hx => (keep x (hx.elim (fun h => h ▸ hbn) (hin x))).1⟩

def eWriteString (T E : TypeId) (ds : List AV) (mem : Mem) : Option (AV × Mem) :=
  match ds with
  | [.ptr b 0, .str s] => match mem[b]? with
    | some [.bld t e, .sl true z xs] =>
      if t = T ∧ e = E ∧ z = 1 ∧ 2 * (xs.length + s.length) + 1024 ≤ 140737488355328 then some (.tup [.int .i64 (s.length : Int), .nili], mem.set b [.bld t e, .sl true 1 (xs ++ s.map byte)]) else none
    | _ => none
  | _ => none
def eString (T E : TypeId) (ds : List AV) (mem : Mem) : Option (AV × Mem) :=
  match ds with
  | [.ptr b 0] => match mem[b]? with
    | some [.bld t e, .sl true z xs] =>
      if t = T ∧ e = E ∧ z = 1 ∧ xs.length ≤ 9223372036854775807 then (match bytesL xs with
        | some l => some (.str l, mem.set b [.bld t e, .sl false z xs])
        | none => none) else none
    | _ => none
  | _ => none

/-- A builder's block: its two cells. -/
theorem bld_cells (h : Inv g w vs ds mem fr) {b blk : Nat} {t e : TypeId} {o : Bool} {z : Nat} {xs : List AV} (h1 : g.bl[b]? = some blk) (h3 : mem[b]? = some [.bld t e, .sl o z xs]) :
    ∃ p v fz, g.mv[b]? = some [p, v] ∧ w.heap[blk]? = some (.cells ⟨[p, v]⟩ t fz) ∧ nofreeze fz 2 ∧ (p = .pointer none ∨ p = .pointer (some ⟨blk, 0, none⟩)) ∧ Rep g.pers g.bl v (.sl o z xs) ∧ OwnOk w g.pers v (.sl o z xs) ∧
      ∀ ad n c, v = .slice (some ad) n c → o = true → ad.off = 0 ∧ c ≠ 0 ∧ ∃ C fz, w.heap[ad.block]? = some (.cells C e fz) := by
  obtain ⟨us, h2⟩ := get_of_len h.mvLen h3
  have m := h.memOk b blk us _ h1 h2 h3
  obtain ⟨e0, fz, ho, hf⟩ := m.obj
  obtain ⟨_, hsh, p, v, o', z', xs', rfl, hd, hp, hrow⟩ := m.bld 0 t e rfl
  simp only [List.cons.injEq, AV.sl.injEq, and_true, true_and] at hd
  obtain ⟨rfl, rfl, rfl⟩ := hd
  have he : e0 = t := by
    unfold World.shape? at hsh
    rw [ho] at hsh
    simp at hsh; exact hsh
  subst he
  exact ⟨p, v, fz, h2, ho, hf, hp, m.rep.2 1 v _ rfl rfl, m.own 1 v _ rfl rfl, hrow⟩

def self (blk : Nat) : Value := .pointer (some ⟨blk, 0, none⟩)

/-- copyCheck, as the machine does it. -/
structure CopyCheck (P : Program) (fc : FuncId) (T : TypeId) : Prop where
  used : ∀ (b : Nat) (w : World), w.cell? ⟨b, 0, none⟩ = some (self b) → Calls P fc #[self b] w fun e w' => e = .returned (.tuple #[]) ∧ w' = w
  fresh : ∀ (b : Nat) (w : World), w.cell? ⟨b, 0, none⟩ = some (.pointer none) → w.shape? b = some (T, 2) → w.frozen? ⟨b, 0, none⟩ = false → Calls P fc #[self b] w fun e w' => e = .returned (.tuple #[]) ∧ w' = w.setCell ⟨b, 0, none⟩ (self b)

theorem copyCheck_both {fc : FuncId} {T : TypeId} (hcc : CopyCheck P fc T) {blk : Nat} {p v : Value} {fz : Nat × Nat} (ho : w.heap[blk]? = some (.cells ⟨[p, v]⟩ T fz)) (hf : nofreeze fz 2) (hp : p = .pointer none ∨ p = self blk) :
    Calls P fc #[self blk] w fun e w' => e = .returned (.tuple #[]) ∧ w' = World.setBlk w blk (.cells ⟨[self blk, v]⟩ T fz) := by
  rcases hp with rfl | rfl
  · have := hcc.fresh blk w (by rw [cell_of_blk ho]; rfl) (by unfold World.shape?; rw [ho]; rfl) (by
      rw [frozen_of_blk ho]
      have := hf 0 (by omega)
      simp only [Bool.and_eq_false_iff, decide_eq_false_iff_not]
      omega)
    rw [setCell_blk ho] at this
    exact this
  · have := hcc.used blk w (by rw [cell_of_blk ho]; rfl)
    rw [setBlk_self ho]; exact this

/-- What a write does: the old address in, the row grown, the builder's cell set. -/
theorem bld_write {T E tb tx : TypeId} (hk : known P E = true) (hzo : zeroOk P E = true) (hz1 : szOf P E = 1) (hby : bytesOf P E = 1) (htb : P.underlying tb = some (.slice E))
    {b blk z : Nat} {xs ys : List AV} {xv : Value} {xd : AV} (h : Inv g w vs ds mem fr) (hb : g.bl[b]? = some blk) (hm : mem[b]? = some [.bld T E, .sl true z xs]) (hz : z = 1 ∨ z = 0)
    {p v : Value} {fz : Nat × Nat} (hmv : g.mv[b]? = some [p, v]) (ho : w.heap[blk]? = some (.cells ⟨[p, v]⟩ T fz)) (hf : nofreeze fz 2) (hrep : Rep g.pers g.bl v (.sl true z xs)) (hown : OwnOk w g.pers v (.sl true z xs))
    (hrow : ∀ ad n c, v = .slice (some ad) n c → true = true → ad.off = 0 ∧ c ≠ 0 ∧ ∃ C fz, w.heap[ad.block]? = some (.cells C E fz))
    (hx : Rep g.pers g.bl xv xd) (hxn : xd.noOwn = true) {news : List Value} (hsrc : Source P (World.setBlk w blk (.cells ⟨[self blk, v]⟩ T fz)) tx 1 xv ys.length news) (hr : RepL g.pers [] news (flat ys)) (hzy : ∀ y ∈ ys, y.cells.length = 1)     (hfit : 2 * (xs.length + ys.length) + 1024 ≤ 140737488355328) {rv : Value} {rd : AV} (hrr : ∀ p' b', Rep p' b' rv rd) (hrn : rd.noOwn = true) :
    ∃ v' w2 v2, (Builtin.append_ #[tb, tx] tb #[v, xv]).run P (World.setBlk w blk (.cells ⟨[self blk, v]⟩ T fz)) = .ok v' w2 ∧ w2.cell? ⟨blk, 1, none⟩ = some v2 ∧ w2.frozen? ⟨blk, 1, none⟩ = false ∧
      (∃ A n c, v' = .slice A n c) ∧ Done g w vs ds mem fr rd (mem.set b [.bld T E, .sl true 1 (xs ++ ys)]) rv (w2.setCell ⟨blk, 1, none⟩ v') := by
  have hlt := (Array.getElem?_eq_some_iff.1 ho).1
  -- the address in, the right out
  have hnsl : ∀ {q : Bool}, scrubL (b + 1) [AV.bld T E, .sl q z xs] = [.bld T E, .sl q z xs] := by
    intro q
    rfl
  have hget1 : (World.setBlk w blk (.cells ⟨[self blk, v]⟩ T fz)).heap[blk]? = some (.cells ⟨[self blk, v]⟩ T fz) := by rw [getElem?_setBlk hlt, if_pos rfl]
  have s1 := h.setMem (d := .sl true z xs) (v := v) (us' := [self blk, v]) (cs' := [.bld T E, .sl false z xs]) hb hmv hm ho rfl hf
    ⟨rfl, fun i a c p q => by
      match i, p, q with
      | 0, p, q => simp at p q; subst p; subst q; exact .bld ..
      | 1, p, q => simp at p q; subst p; subst q; exact hrep.plain1
      | i + 2, p, q => simp at p⟩ hnsl hrep hown
    (fun i a c p q => by
      match i, p, q with
      | 0, p, q => simp at p q; subst p; subst q; exact noOwn_ok rfl
      | 1, p, q => simp at p q; subst p; subst q; exact noOwn_ok rfl
      | i + 2, p, q => simp at p)
    (fun t => by
      have e1 : ownL [self blk, v] [.bld T E, .sl false z xs] = [] := by simp [ownL, noOwn_own (d := .bld T E) rfl, noOwn_own (d := .sl false z xs) rfl]
      have e2 : ownL [p, v] [.bld T E, .sl true z xs] = own v (.sl true z xs) := by simp [ownL, noOwn_own (d := .bld T E) rfl]
      rw [e1, e2, List.count_nil]; omega)
    (by
      intro j t e hj
      match j, hj with
      | 0, hj =>
        simp at hj; obtain ⟨rfl, rfl⟩ := hj
        refine ⟨rfl, ?_, _, _, false, z, xs, rfl, rfl, .inr rfl, fun ad n c _ ho => by cases ho⟩
        unfold World.shape?; rw [hget1]; rfl
      | 1, hj => simp at hj
      | j + 2, hj => simp at hj)
  obtain ⟨i1, G1⟩ := s1
  -- the string beside it
  have i2 := i1.extend (v := xv) (d := xd) hx (noOwn_ok hxn) (fun t => by rw [noOwn_own hxn, List.count_nil]; have := nd_count i1 t; omega)
  have hz' : z = szOf P E ∨ z = 0 := by rw [hz1]; exact hz
  have hsrc' : Source P (World.setBlk w blk (.cells ⟨[self blk, v]⟩ T fz)) tx (szOf P E) xv ys.length news := by rw [hz1]; exact hsrc
  have hzy' : ∀ y ∈ ys, y.cells.length = szOf P E := by rw [hz1]; exact hzy
  have hfit' : (2 * (xs.length + ys.length) + 1024) * bytesOf P E ≤ 140737488355328 := by rw [hby, Nat.mul_one]; exact hfit
  have hcl2 : ∀ t, (claims { g with mv := g.mv.set b [self blk, v] } [v, xv] [.sl true z xs, xd] (mem.set b [AV.bld T E, .sl false z xs])).count t = (claims { g with mv := g.mv.set b [self blk, v] } [v] [.sl true z xs] (mem.set b [AV.bld T E, .sl false z xs])).count t := by
    intro t
    rw [count_claims, count_claims]
    have e1 : ownL [v, xv] [.sl true z xs, xd] = own v (.sl true z xs) := by simp [ownL, noOwn_own hxn]
    have e2 : ownL [v] [.sl true z xs] = own v (.sl true z xs) := by simp [ownL]
    rw [e1, e2]
  obtain ⟨v', w2, a1, ⟨g2, i3, G2⟩, a3⟩ := append_core' (u := tx) hk hzo htb i2 hz' (ys := ys) hsrc' hr hzy' (by omega) hfit' (by omega) tb
  rw [hz1] at i3 G2
  have hbl2 : g2.bl[b]? = some blk := by
    obtain ⟨t, ht⟩ := G2.ext.bl
    rw [← ht, List.getElem?_append_left (lt_of_get hb)]; exact hb
  have hm2 : (mem.set b [AV.bld T E, .sl false z xs])[b]? = some [.bld T E, .sl false z xs] := by rw [List.getElem?_set_self (lt_of_get hm)]
  obtain ⟨p2, v2, fz2, b1, b2, b3, b4, b5, b6, b7⟩ := bld_cells i3 hbl2 hm2
  have r3 : Rep g2.pers g2.bl v' (.sl true 1 (xs ++ ys)) := i3.envRep.2 0 _ _ rfl rfl
  have o3 : OwnOk w2 g2.pers v' (.sl true 1 (xs ++ ys)) := i3.envOwn 0 _ _ rfl rfl
  obtain ⟨A, c, us, hv, _⟩ := rep_sl r3
  have hlt2 := (Array.getElem?_eq_some_iff.1 b2).1
  have hget2 : (World.setBlk w2 blk (.cells ⟨[p2, v']⟩ T fz2)).heap[blk]? = some (.cells ⟨[p2, v']⟩ T fz2) := by rw [getElem?_setBlk hlt2, if_pos rfl]
  have hty := a3
  have hne : ∀ ad n c, v' = .slice (some ad) n c → ad.block ≠ blk := by
    intro ad n c he hbk
    have h1 := nd_count i3 blk
    rw [count_claims] at h1
    have h2 := mem_count.1 (List.mem_of_getElem? hbl2)
    have h3 : own v' (.sl true 1 (xs ++ ys)) = [ad.block] := by rw [he]; exact own_sl
    have h4 : ownL [v'] [.sl true 1 (xs ++ ys)] = [ad.block] := by simp [ownL, h3]
    rw [h4, hbk] at h1
    simp at h1; omega
  have s3 := i3.setMem (d := rd) (v := rv) (us' := [p2, v']) (cs' := [.bld T E, .sl true 1 (xs ++ ys)]) hbl2 b1 hm2 b2 rfl b3
    ⟨rfl, fun i a c p q => by
      match i, p, q with
      | 0, p, q => simp at p q; subst p; subst q; exact .bld ..
      | 1, p, q => simp at p q; subst p; subst q; exact r3
      | i + 2, p, q => simp at p⟩ ?_ (hrr _ _) (noOwn_ok hrn)
    (fun i a c p q => by
      match i, p, q with
      | 0, p, q => simp at p q; subst p; subst q; exact noOwn_ok rfl
      | 1, p, q => simp at p q; subst p; subst q; exact o3
      | i + 2, p, q => simp at p)
    (fun t => by
      have e1 : ownL [p2, v'] [.bld T E, .sl true 1 (xs ++ ys)] = own v' (.sl true 1 (xs ++ ys)) := by simp [ownL, noOwn_own (d := .bld T E) rfl]
      have e2 : ownL [v'] [.sl true 1 (xs ++ ys)] = own v' (.sl true 1 (xs ++ ys)) := by simp [ownL]
      rw [e1, e2, noOwn_own hrn, List.count_nil]; omega)
    (by
      intro j t e hj
      match j, hj with
      | 0, hj =>
        simp at hj; obtain ⟨rfl, rfl⟩ := hj
        refine ⟨rfl, ?_, _, _, true, 1, _, rfl, rfl, b4, fun ad n c he _ => ?_⟩
        · unfold World.shape?; rw [hget2]; rfl
        · obtain ⟨q0, qc, C, fz3, q1⟩ := hty ad n c he (fun ad0 n0 c0 he0 => by
            obtain ⟨z0, zc, C, fz3, z1⟩ := hrow ad0 n0 c0 he0 rfl
            refine ⟨z0, zc, C, fz3, ?_⟩
            rw [getElem?_setBlk hlt]
            have : blk ≠ ad0.block := by
              rintro hbk
              have h1 := nd_count h blk
              rw [count_claims] at h1
              have h2 := mem_count.1 (List.mem_of_getElem? hb)
              have h3 : blk ∈ ownM g.mv mem := List.mem_flatMap.2 ⟨([p, v], [.bld T E, .sl true z xs]), List.mem_of_getElem? (zip_get hmv hm), by
                simp [ownL, noOwn_own (d := .bld T E) rfl, he0, own_sl, hbk]⟩
              have := mem_count.1 h3; omega
            rw [if_neg this]; exact z1)
          refine ⟨q0, qc, C, fz3, ?_⟩
          rw [getElem?_setBlk hlt2, if_neg (Ne.symm (hne ad n c he))]; exact q1
      | 1, hj => simp at hj
      | j + 2, hj => simp at hj)
  · obtain ⟨i4, G4⟩ := s3
    refine ⟨v', w2, v2, a1, by rw [cell_of_blk b2]; rfl, ?_, ⟨A, _, c, hv⟩, ?_⟩
    · rw [frozen_of_blk b2]
      have := b3 1 (by omega)
      simp only [Bool.and_eq_false_iff, decide_eq_false_iff_not]
      omega
    · rw [setCell_blk b2]
      have e0 : ([p2, v2] : List Value).set 1 v' = [p2, v'] := rfl
      rw [e0]
      have e1 : (mem.set b [AV.bld T E, .sl false z xs]).set b [.bld T E, .sl true 1 (xs ++ ys)] = mem.set b [.bld T E, .sl true 1 (xs ++ ys)] := by simp
      rw [e1] at i4 G4
      refine ⟨_, i4, (G1.trans ?_).trans G4⟩
      refine ⟨(G2.mono fun t ht => ?_).ext, fun t ht => ?_⟩
      · rw [mem_count]; have := mem_count.1 ht; have := hcl2 t; omega
      · rcases G2.sub t ht with h1 | h1
        · left
          rw [mem_count]; have := mem_count.1 h1; have := hcl2 t; omega
        · exact .inr h1
  · -- its pointers
    rfl

theorem scrub_bytes (k : Nat) (l : List UInt8) : scrubL k (l.map byte) = l.map byte := by
  rw [scrubL_map, List.map_map]; rfl

/-- WriteString, as the machine does it. -/
def WriteStr (P : Program) (f fc : FuncId) (tb tx : TypeId) : Prop :=
  ∀ (b : Nat) (ao ao' : Option Addr) (n c n' c' : Nat) (s : ByteArray) (w w1 w2 : World) (v2 : Value), (Calls P fc #[self b] w fun e w' => e = .returned (.tuple #[]) ∧ w' = w1) → w1.cell? ⟨b, 1, none⟩ = some (.slice ao n c) →
    (Builtin.append_ #[tb, tx] tb #[.slice ao n c, .string s]).run P w1 = .ok (.slice ao' n' c') w2 → w2.cell? ⟨b, 1, none⟩ = some v2 → w2.frozen? ⟨b, 1, none⟩ = false →
    Calls P f #[self b, .string s] w fun e w' => e = .returned (.tuple #[.int .i64 s.size, .nilIface]) ∧ w' = w2.setCell ⟨b, 1, none⟩ (.slice ao' n' c')

theorem writeString_ok {f fc : FuncId} {fn : Func} {cd : Code} {T E tb tx : TypeId} (hfn : P.funcs[f]? = some fn) (hbd : fn.body = some cd) (hnm : (fn.name == "runtime.NumGoroutine") = false) (hcc : CopyCheck P fc T) (hws : WriteStr P f fc tb tx)
    (hk : known P E = true) (hzo : zeroOk P E = true) (hz1 : szOf P E = 1) (hby : bytesOf P E = 1) (htb : P.underlying tb = some (.slice E)) (htx : P.underlying tx = some .string) : ExtOk P f (eWriteString T E) := by
  intro ds mem d mem' hd g w vs fr h
  unfold eWriteString at hd
  split at hd
  rotate_left
  · cases hd
  rename_i b s
  split at hd
  rotate_left
  · cases hd
  rename_i t e z xs hm
  simp only [Option.ite_none_right_eq_some, Option.some.injEq, Prod.mk.injEq] at hd
  obtain ⟨⟨rfl, rfl, hz, hfit⟩, rfl, rfl⟩ := hd
  match vs, h with
  | [], h => exact absurd h.envRep.1 (by simp)
  | [_], h => exact absurd h.envRep.1 (by simp)
  | _ :: _ :: _ :: _, h => exact absurd h.envRep.1 (by simp)
  | [pv, sv], h =>
    obtain ⟨blk, hb, rfl⟩ := rep_ptr (h.envRep.2 0 pv _ rfl rfl)
    have rs := rep_str (h.envRep.2 1 sv _ rfl rfl)
    subst rs
    obtain ⟨p, v, fz, hmv, ho, hf, hp, hrep, hown, hrow⟩ := bld_cells h hb hm
    obtain ⟨A, c, us, hv, _⟩ := rep_sl hrep
    obtain ⟨q1, q2, q3⟩ := source_str (P := P) (w := w) htx (p := g.pers) (bl := []) (l := s)
    obtain ⟨v', w2, v2, a1, a2, a3, ⟨A', n', c', hv'⟩, D⟩ := bld_write (tx := tx) hk hzo hz1 hby htb h hb hm (.inl hz) hmv ho hf hrep hown hrow (xv := .string ⟨⟨s⟩⟩) (xd := .str s) (.str s) rfl
      (source_str (P := P) htx (p := g.pers) (bl := []) (l := s)).1 q2 q3 (by simpa using hfit) (rv := .tuple #[.int .i64 (s.length : Int), .nilIface]) (rd := .tup [.int .i64 (s.length : Int), .nili])
      (fun p' b' => .tup [.int .i64 (s.length : Int), .nilIface] _ rfl fun i u c a b => by
        match i, a, b with
        | 0, a, b => simp at a b; subst a; subst b; exact .int ..
        | 1, a, b => simp at a b; subst a; subst b; exact .nili
        | i + 2, a, b => simp at a) rfl
    have hc := copyCheck_both hcc ho hf hp
    subst hv'
    rw [hv] at a1 ho hc
    have hlt := (Array.getElem?_eq_some_iff.1 ho).1
    have hcall := hws blk A A' xs.length c n' c' ⟨⟨s⟩⟩ w _ w2 v2 hc (by rw [cell_of_blk (by rw [getElem?_setBlk hlt, if_pos rfl])]; rfl) a1 a2 a3
    have hrun := run_callFunc (P := P) (w := w) (args := ⟨[self blk, .string ⟨⟨s⟩⟩]⟩) hfn hbd hnm
    unfold OpPost
    show (match (callFunc f ⟨[self blk, .string ⟨⟨s⟩⟩]⟩).run P w with
      | .ok (.value v) w' => _
      | .ok .skip w' => _
      | .ok (.enter f args) w' => _
      | _ => _)
    rw [hrun]
    refine hcall.mono fun e w' ⟨he, hw'⟩ => ⟨_, he, ?_⟩
    subst hw'
    have hsz : ((⟨⟨s⟩⟩ : ByteArray).size : Int) = (s.length : Int) := rfl
    rw [hsz]
    exact D

/-- String, as the machine does it. -/
structure StringLaw (P : Program) (f : FuncId) (tb tp ti tx : TypeId) : Prop where
  row : ∀ (b : Nat) (A : Addr) (n c : Nat) (s : ByteArray) (w : World), w.drew.cell? ⟨b, 1, none⟩ = some (.slice (some A) n c) → (Builtin.unsafeSliceData_ #[tb] tp #[.slice (some A) n c]).run P w.drew = .ok (.pointer (some A)) w.drew →
    (Builtin.unsafeString_ #[tp, ti] tx #[.pointer (some A), .int .i64 n]).run P w.drew = .ok (.string s) (w.drew.freeze A n) → Calls P f #[self b] w fun e w' => e = .returned (.string s) ∧ w' = w.drew.freeze A n
  none : ∀ (b : Nat) (A p : Option Addr) (c : Nat) (w : World), w.drew.cell? ⟨b, 1, none⟩ = some (.slice A 0 c) → (Builtin.unsafeSliceData_ #[tb] tp #[.slice A 0 c]).run P w.drew = .ok (.pointer p) w.drew → Calls P f #[self b] w fun e w' => e = .returned (.string .empty) ∧ w' = w.drew

theorem freeze_heap {A : Addr} {n : Nat} {C : Array Value} {e : TypeId} {fz : Nat × Nat} (hA : A.spot = none) (hC : w.heap[A.block]? = some (.cells C e fz)) : ∃ fz', (w.freeze A n).heap = w.heap.setIfInBounds A.block (.cells C e fz') := by
  obtain ⟨b, o, sp⟩ := A
  cases hA
  have hC : w.heap[b]? = some (.cells C e fz) := hC
  have hlt := (Array.getElem?_eq_some_iff.1 hC).1
  unfold World.freeze
  by_cases h0 : n = 0
  · refine ⟨fz, ?_⟩
    rw [if_pos h0]
    exact (congrArg World.heap (setBlk_self hC)).symm
  · rw [if_neg h0]
    obtain ⟨lo, hi⟩ := fz
    refine ⟨if (lo == hi) = true then (o, o + n) else (min lo o, max hi (o + n)), ?_⟩
    apply Array.ext_getElem?
    intro i
    simp only [Array.getElem?_modify, Array.getElem?_setIfInBounds]
    split
    · rename_i hi; subst hi; rw [hC]; rfl
    · rfl

theorem string_ok {f : FuncId} {fn : Func} {cd : Code} {T E tb tp ti tx : TypeId} (hfn : P.funcs[f]? = some fn) (hbd : fn.body = some cd) (hnm : (fn.name == "runtime.NumGoroutine") = false) (hst : StringLaw P f tb tp ti tx)
    (htp : P.underlying tp = some (.pointer E)) (hc1 : P.cellsOf E = 1) : ExtOk P f (eString T E) := by
  intro ds mem d mem' hd g w vs fr h
  unfold eString at hd
  split at hd
  rotate_left
  · cases hd
  rename_i b
  split at hd
  rotate_left
  · cases hd
  rename_i t e z xs hm
  simp only [Option.ite_none_right_eq_some] at hd
  obtain ⟨⟨rfl, rfl, rfl, hx63⟩, hd⟩ := hd
  split at hd
  rotate_left
  · cases hd
  rename_i l hl
  cases hd
  match vs, h with
  | [], h => exact absurd h.envRep.1 (by simp)
  | _ :: _ :: _, h => exact absurd h.envRep.1 (by simp)
  | [pv], h =>
    obtain ⟨blk, hb, rfl⟩ := rep_ptr (h.envRep.2 0 pv _ rfl rfl)
    obtain ⟨p, v, fz, hmv, ho, hf, hp, hrep, hown, hrow⟩ := bld_cells h hb hm
    obtain ⟨A, c, us, hv, hle, hzx, hus, hA, hsp, h00, h11, h22, hcell⟩ := rep_sl hrep
    have hcd : w.drew.cell? ⟨blk, 1, none⟩ = some v := by
      have : w.drew.heap[blk]? = some (.cells ⟨[p, v]⟩ t fz) := ho
      rw [cell_of_blk this]; rfl
    have hgrow : Inv g w.drew [.pointer (some ⟨blk, 0, none⟩)] [.ptr b 0] mem fr := h.grow (w' := w.drew) (g' := g) (Nat.le_refl _) rfl rfl (fun _ _ _ q => q) (fun _ _ => ⟨rfl, fun _ => rfl⟩) h.persOk
    have hrun := run_callFunc (P := P) (w := w) (args := ⟨[self blk]⟩) hfn hbd hnm
    unfold OpPost
    show (match (callFunc f ⟨[self blk]⟩).run P w with
      | .ok (.value v) w' => _
      | .ok .skip w' => _
      | .ok (.enter f args) w' => _
      | _ => _)
    rw [hrun]
    have hxs := bytesL_eq hl
    have hlen : xs.length = l.length := by rw [hxs]; simp
    -- the right is given up
    have hoD : w.drew.heap[blk]? = some (.cells ⟨[p, v]⟩ t fz) := ho
    have s1 := hgrow.setMem (d := .str l) (v := .string ⟨⟨l⟩⟩) (us' := [p, v]) (cs' := [.bld t e, .sl false 1 xs]) hb hmv hm hoD rfl hf
      ⟨rfl, fun i a c p q => by
        match i, p, q with
        | 0, p, q => simp at p q; subst p; subst q; exact .bld ..
        | 1, p, q => simp at p q; subst p; subst q; exact hrep.plain1
        | i + 2, p, q => simp at p⟩ rfl (.str l) (noOwn_ok rfl)
      (fun i a c p q => by
        match i, p, q with
        | 0, p, q => simp at p q; subst p; subst q; exact noOwn_ok rfl
        | 1, p, q => simp at p q; subst p; subst q; exact noOwn_ok rfl
        | i + 2, p, q => simp at p)
      (fun t' => by
        have e1 : ownL [p, v] [.bld t e, .sl false 1 xs] = [] := by simp [ownL, noOwn_own (d := .bld t e) rfl, noOwn_own (d := .sl false 1 xs) rfl]
        rw [e1, noOwn_own rfl]; simp)
      (by
        intro j t' e' hj
        match j, hj with
        | 0, hj =>
          simp at hj; obtain ⟨rfl, rfl⟩ := hj
          refine ⟨rfl, ?_, _, _, false, 1, xs, rfl, rfl, hp, fun ad n c _ ho => by cases ho⟩
          unfold World.shape?; rw [setBlk_self hoD, hoD]; rfl
        | 1, hj => simp at hj
        | j + 2, hj => simp at hj)
    have hself : ({ g with mv := g.mv.set b [p, v] } : Gh) = g := by cases g; simp only [Gh.mk.injEq, true_and]; exact set_self hmv
    rw [setBlk_self hoD, hself] at s1
    obtain ⟨i1, G1⟩ := s1
    by_cases hx0 : xs.length = 0
    · -- nothing was written
      have hl0 : l = [] := List.length_eq_zero_iff.1 (by omega)
      subst hl0
      rw [hv, hx0] at hcd
      have hsd : ∃ p, (Builtin.unsafeSliceData_ #[tb] tp #[.slice A 0 c]).run P w.drew = .ok (.pointer p) w.drew := by
        cases A with
        | none => exact ⟨_, Lib.run_unsafeSliceData_nil ..⟩
        | some ad =>
          obtain ⟨_, hc0, _⟩ := hrow ad _ _ hv rfl
          exact ⟨_, Lib.run_unsafeSliceData_row (P := P) w.drew #[tb] tp ad 0 c hc0⟩
      obtain ⟨pp, hsd⟩ := hsd
      refine (hst.none blk A pp c w hcd hsd).mono fun e' w' ⟨he, hw'⟩ => ⟨_, he, ?_⟩
      subst hw'
      exact ⟨g, i1, ⟨rfl, rfl, rfl, Nat.le_refl _, fun _ _ _ q => q, List.prefix_refl _, fun _ _ _ => ⟨rfl, fun _ => rfl⟩⟩, G1.sub⟩
    · cases A with
      | none => have := h00 rfl; omega
      | some ad =>
        rcases hA with hA | ⟨ad', hA, hh⟩
        · subst hA; simp at hus; omega
        cases hA
        obtain ⟨hoff, hc0, C, fz2, hC⟩ := hrow ad _ _ hv rfl
        have had : ad = ⟨ad.block, 0, none⟩ := by
          cases ad; simp at hoff; have := hsp (.inl rfl) _ rfl; simp_all
        have hflat : flat xs = l.map byte := by rw [hxs, flat_bytes]
        have hcellB : ∀ (j : Nat) (x : UInt8), l[j]? = some x → w.drew.cell? ((⟨ad.block, 0, none⟩ : Addr).add j) = some (.int .u8 x.toNat) := by
          intro j x hj
          have hj2 : (flat xs)[j]? = some (byte x) := by rw [hflat, List.getElem?_map, hj]; rfl
          have hjl := lt_of_get hj
          obtain ⟨u, hu⟩ : ∃ u, us[j]? = some u := ⟨_, List.getElem?_eq_getElem (by omega)⟩
          have hr := rep_int (hcell j u _ hu hj2)
          have := h.persOk _ _ _ (hh.2 j u hu)
          rw [hr, hoff] at this
          rw [add_none rfl]; exact this
        have hCs : l.length ≤ C.size := by
          have hu : us[l.length - 1]? = some (us[l.length - 1]'(by omega)) := List.getElem?_eq_getElem _
          have := h.persOk _ _ _ (hh.2 _ _ hu)
          unfold World.cell? at this
          simp only [hC] at this
          have := (Array.getElem?_eq_some_iff.1 this).1
          omega
        have hsh : w.drew.shape? ad.block = some (e, C.size) := by
          have : w.drew.heap[ad.block]? = some (.cells C e fz2) := hC
          unfold World.shape?; rw [this]
        have hSD := Lib.run_unsafeSliceData_row (P := P) w.drew #[tb] tp ad xs.length c (by omega)
        have hUS := Lib.run_unsafeString_row (P := P) w.drew tp ti tx e htp hc1 ad.block C.size hsh l (by intro h; rw [h] at hlen; simp at hlen; exact hx0 (by simp [hlen])) hCs (by omega) hcellB
        rw [← had, ← hlen] at hUS
        rw [hv] at hcd
        refine (hst.row blk ad xs.length c ⟨l.toArray⟩ w hcd hSD hUS).mono fun e' w' ⟨he, hw'⟩ => ⟨_, he, ?_⟩
        subst hw'
        have hadown : ad.block ∈ ownL [p, v] [.bld t e, .sl true 1 xs] := by
          simp [ownL, noOwn_own (d := .bld t e) rfl, hv, own_sl]
        have hin : ad.block ∈ claims g [.pointer (some ⟨blk, 0, none⟩)] [.ptr b 0] mem := by
          rw [mem_count, count_claims]
          have : ad.block ∈ ownM g.mv mem := List.mem_flatMap.2 ⟨([p, v], [.bld t e, .sl true 1 xs]), List.mem_of_getElem? (zip_get hmv hm), hadown⟩
          have := mem_count.1 this; omega
        have hnot : ad.block ∉ claims g [.string ⟨⟨l⟩⟩] [.str l] (mem.set b [.bld t e, .sl false 1 xs]) := by
          intro hmem
          have c1 := mem_count.1 hmem
          have c2 := nd_count hgrow ad.block
          rw [count_claims] at c1 c2
          have c3 : (ownM g.mv (mem.set b [.bld t e, .sl false 1 xs])).count ad.block + (ownL [p, v] [.bld t e, .sl true 1 xs]).count ad.block = (ownM g.mv mem).count ad.block + (ownL [p, v] [.bld t e, .sl false 1 xs]).count ad.block := by
            have := count_flatMap_set (fun x : List Value × List AV => ownL x.1 x.2) ad.block (g.mv.zip mem) b ([p, v], [.bld t e, .sl false 1 xs]) ([p, v], [.bld t e, .sl true 1 xs]) (zip_get hmv hm)
            rw [← zip_set, set_self hmv] at this
            exact this
          have e1 : ownL [p, v] [.bld t e, .sl false 1 xs] = [] := by simp [ownL, noOwn_own (d := .bld t e) rfl, noOwn_own (d := .sl false 1 xs) rfl]
          have e2 := mem_count.1 hadown
          have e3 : ownL [Value.string ⟨⟨l⟩⟩] [.str l] = [] := by simp [ownL, noOwn_own (d := .str l) rfl]
          rw [e1, List.count_nil] at c3
          rw [e3, List.count_nil] at c1
          omega
        have hCD : w.drew.heap[ad.block]? = some (.cells C e fz2) := hC
        obtain ⟨fz', hfz⟩ := freeze_heap (w := w.drew) (n := xs.length) (hsp (.inl rfl) ad rfl) hCD
        refine ⟨g, i1.refreeze hnot hCD hfz, ?_⟩
        have hos : (w.drew.freeze ad xs.length).os = w.os ∧ (w.drew.freeze ad xs.length).tape = w.tape ∧ (w.drew.freeze ad xs.length).output = w.output := by
          unfold World.freeze; split <;> exact ⟨rfl, rfl, rfl⟩
        refine ⟨⟨hos.1, hos.2.1, hos.2.2, by rw [hfz, Array.size_setIfInBounds]; exact Nat.le_refl _, fun _ _ _ q => q, List.prefix_refl _, fun x hx hn => ?_⟩, G1.sub⟩
        rw [hfz]
        have : ad.block ≠ x := by rintro rfl; exact hn hin
        rw [Array.getElem?_setIfInBounds, if_neg this]; exact ⟨rfl, fun _ => rfl⟩
 end
end Go.Eng
 end

 section
set_option linter.unusedVariables false
set_option linter.unusedSimpArgs false
namespace Go.Eng
 section
variable {P : Program}
def eWriteByte (T E : TypeId) (ds : List AV) (mem : Mem) : Option (AV × Mem) :=
  match ds with
  | [.ptr b 0, .int .u8 n] => match mem[b]? with
    | some [.bld t e, .sl true z xs] =>
      if t = T ∧ e = E ∧ z = 1 ∧ 2 * (xs.length + 1) + 1024 ≤ 140737488355328 then some (.nili, mem.set b [.bld t e, .sl true 1 (xs ++ [.int .u8 n])]) else none
    | _ => none
  | _ => none
/-- WriteByte, as the machine does it. -/
def WriteByt (P : Program) (f fc : FuncId) (tb E : TypeId) : Prop :=
  ∀ (b : Nat) (ao ao' : Option Addr) (n c n' c' : Nat) (x : Int) (w w1 w2 : World) (v2 : Value), (Calls P fc #[self b] w fun e w' => e = .returned (.tuple #[]) ∧ w' = w1) → w1.cell? ⟨b, 1, none⟩ = some (.slice ao n c) → b < w1.heap.size →
    (Builtin.append_ #[tb, tb] tb #[.slice ao n c, .slice (some ⟨w1.heap.size, 0, none⟩) 1 1]).run P (w1.alloc (.cells #[.int .u8 x] E)) = .ok (.slice ao' n' c') w2 → w2.cell? ⟨b, 1, none⟩ = some v2 → w2.frozen? ⟨b, 1, none⟩ = false →
    Calls P f #[self b, .int .u8 x] w fun e w' => e = .returned .nilIface ∧ w' = w2.setCell ⟨b, 1, none⟩ (.slice ao' n' c')
theorem setBlk_alloc {w : World} {b : Nat} {o o' : Obj} (hb : b < w.heap.size) : World.setBlk (w.alloc o') b o = (World.setBlk w b o).alloc o' := by
  unfold World.setBlk World.alloc
  congr 1
  apply Array.ext_getElem?
  intro i
  simp only [Array.getElem?_setIfInBounds, Array.getElem?_push, Array.size_push, Array.size_setIfInBounds]
  by_cases h1 : b = i
  · subst h1
    rw [if_pos rfl, if_pos (by omega), if_neg (by omega), if_pos rfl, if_pos hb]
  · rw [if_neg h1, if_neg h1]
theorem writeByte_ok {f fc : FuncId} {fn : Func} {cd : Code} {T E tb : TypeId} (hfn : P.funcs[f]? = some fn) (hbd : fn.body = some cd) (hnm : (fn.name == "runtime.NumGoroutine") = false) (hcc : CopyCheck P fc T) (hws : WriteByt P f fc tb E)
    (hk : known P E = true) (hzo : zeroOk P E = true) (hz1 : szOf P E = 1) (hby : bytesOf P E = 1) (htb : P.underlying tb = some (.slice E)) : ExtOk P f (eWriteByte T E) := by
  intro ds mem d mem' hd g w vs fr h
  unfold eWriteByte at hd
  split at hd
  rotate_left
  · cases hd
  rename_i b n0
  split at hd
  rotate_left
  · cases hd
  rename_i t e z xs hm
  simp only [Option.ite_none_right_eq_some, Option.some.injEq, Prod.mk.injEq] at hd
  obtain ⟨⟨rfl, rfl, hz, hfit⟩, rfl, rfl⟩ := hd
  match vs, h with
  | [], h => exact absurd h.envRep.1 (by simp)
  | [_], h => exact absurd h.envRep.1 (by simp)
  | _ :: _ :: _ :: _, h => exact absurd h.envRep.1 (by simp)
  | [pv, sv], h =>
    obtain ⟨blk, hb, rfl⟩ := rep_ptr (h.envRep.2 0 pv _ rfl rfl)
    have rs := rep_int (h.envRep.2 1 sv _ rfl rfl)
    subst rs
    have hblt : blk < w.heap.size := h.blk_lt (List.mem_of_getElem? hb)
    obtain ⟨i1, G1⟩ := h.newRow (w' := w.alloc (.cells ⟨[.int .u8 n0]⟩ e)) (e := e) (C := [.int .u8 n0]) (fz := (0, 0)) rfl rfl rfl rfl (n := 1) (c := 1) (z := 1) (xs := [.int .u8 n0])
      (fun y hy => by simp at hy; subst hy; rfl) rfl (Nat.le_refl _) (by simp)
      (by
        refine ⟨rfl, fun i v d p q => ?_⟩
        match i, p, q with
        | 0, p, q => simp [flat, AV.cells] at p q; subst p; subst q; exact .int ..
        | i + 1, p, q => simp at p)
      (fun o _ _ => by omega) (fun v hv => by simp at hv; subst hv; rfl) (by omega)
    generalize hg1 : ({ g with pers := persNew g.pers w.heap.size 0 ([Value.int .u8 n0].take (1 * 1)) } : Gh) = g1 at i1 G1
    have hb1 : g1.bl[b]? = some blk := by rw [← hg1]; exact hb
    obtain ⟨p, v, fz, hmv, ho, hf, hp, hrep, hown, hrow⟩ := bld_cells i1 hb1 hm
    have r1 := i1.envRep.2 0 _ _ rfl rfl
    have hlt1 := (Array.getElem?_eq_some_iff.1 ho).1
    have hpersB : ∀ b' o' v', g1.pers b' o' = some v' → (World.setBlk (w.alloc (.cells ⟨[.int .u8 n0]⟩ e)) blk (.cells ⟨[self blk, v]⟩ t fz)).cell? ⟨b', o', none⟩ = some v' := by
      intro b' o' v' hv'
      have hne : b' ≠ blk := by
        rintro rfl
        have := (i1.memOk b b' _ _ hb1 hmv hm).free o'
        rw [this] at hv'; cases hv'
      have := i1.persOk b' o' v' hv'
      unfold World.cell? at this ⊢
      simp only at this ⊢
      rw [getElem?_setBlk hlt1, if_neg (Ne.symm hne)]
      exact this
    obtain ⟨news, q1, q2, q3⟩ := source_sl (P := P) (u := tb) htb hpersB r1
    obtain ⟨A, c, us, hv, _⟩ := rep_sl hrep
    obtain ⟨v', w2, v2, a1, a2, a3, ⟨A', n', c', hv'⟩, D⟩ := bld_write (tx := tb) hk hzo hz1 hby htb i1 hb1 hm (.inl hz) hmv ho hf hrep hown hrow
      (xd := .sl false 1 [.int .u8 n0]) r1.plain1 rfl q1 q2 q3 (by simpa using hfit) (rv := .nilIface) (rd := .nili) (fun p' b' => .nili) rfl
    have how : w.heap[blk]? = some (.cells ⟨[p, v]⟩ t fz) := by
      have : (w.alloc (.cells ⟨[Value.int .u8 n0]⟩ e)).heap[blk]? = w.heap[blk]? := by
        show (w.heap.push _)[blk]? = _
        rw [Array.getElem?_push, if_neg (by omega)]
      rw [← this]; exact ho
    have hc := copyCheck_both hcc how hf hp
    subst hv'
    rw [hv] at a1 ho hc how
    rw [setBlk_alloc hblt] at a1
    have hlt := (Array.getElem?_eq_some_iff.1 how).1
    have hsz : (World.setBlk w blk (.cells ⟨[self blk, .slice A xs.length c]⟩ t fz)).heap.size = w.heap.size := by unfold World.setBlk; simp
    have hcall := hws blk A A' xs.length c n' c' n0 w _ w2 v2 hc (by rw [cell_of_blk (by rw [getElem?_setBlk hlt, if_pos rfl])]; rfl) (by rw [hsz]; exact hblt) (by rw [hsz]; exact a1) a2 a3
    have hrun := run_callFunc (P := P) (w := w) (args := ⟨[self blk, .int .u8 n0]⟩) hfn hbd hnm
    unfold OpPost
    show (match (callFunc f ⟨[self blk, .int .u8 n0]⟩).run P w with
      | .ok (.value v) w' => _
      | .ok .skip w' => _
      | .ok (.enter f args) w' => _
      | _ => _)
    rw [hrun]
    refine hcall.mono fun e w' ⟨he, hw'⟩ => ⟨_, he, ?_⟩
    subst hw'
    obtain ⟨g2, i2, G2⟩ := D
    exact ⟨g2, i2, G1.trans G2⟩
 end
end Go.Eng
 end

 section
set_option linter.unusedVariables false
set_option linter.unusedSimpArgs false
namespace Go.Eng
open Go.RowKit
 section
variable {P : Program} {g : Gh} {w w' : World} {vs : List Value} {ds : List AV} {mem : Mem} {fr : List Nat}
theorem Inv.below (h : Inv g w vs ds mem fr) (hb : Below w.heap.size w w') : Inv g w' vs ds mem fr := by
  refine ⟨h.envRep, fun i v d a b => (h.envOwn i v d a b).keep fun x hx => ⟨hb.block x (own_lt (h.envOwn i v d a b) hx), fun _ => rfl⟩, h.blLen, h.mvLen, fun b o v hp => ?_, fun i b us cs k1 k2 k3 => ?_, h.nd, fun x hx => Nat.lt_of_lt_of_le (h.frLt x hx) hb.size, h.memPtr⟩
  · have := h.persOk b o v hp
    have hlt := pers_lt h hp
    unfold World.cell? at this ⊢
    simp only at this ⊢
    rw [hb.block b hlt]; exact this
  · have m := h.memOk i b us cs k1 k2 k3
    obtain ⟨e2, fz2, q1, q2⟩ := m.obj
    have hlt := h.blk_lt (List.mem_of_getElem? k1)
    have hin : ∀ x, x ∈ ownL us cs → x < w.heap.size := fun x hx => by
      obtain ⟨y, hy, ht⟩ := List.mem_flatMap.1 hx
      obtain ⟨j, hj⟩ := List.getElem?_of_mem hy
      rw [List.getElem?_zip_eq_some] at hj
      exact own_lt (m.own j _ _ hj.1 hj.2) ht
    exact ⟨⟨e2, fz2, (hb.block b hlt).trans q1, q2⟩, m.free, m.rep, fun j u c p q => (m.own j u c p q).keep fun x hx => ⟨hb.block x (hin x (mem_ownL p q hx)), fun _ => rfl⟩, m.bld.keep fun x hx => hb.block x (hx.elim (fun h => h ▸ hlt) (hin x))⟩
theorem done_below (h : Inv g w vs ds mem fr) (hb : Below w.heap.size w w') {v : Value} {d : AV} (hr : Rep g.pers g.bl v d) (hn : d.noOwn = true) : Done g w vs ds mem fr d mem v w' := by
  obtain ⟨i1, G1⟩ := (h.below hb).one hr (noOwn_ok hn) (fun t => by rw [noOwn_own hn]; simp)
  refine ⟨g, i1, ⟨⟨hb.os, hb.tape, hb.output, hb.size, fun _ _ _ h => h, List.prefix_refl _, fun b hlt _ => ⟨hb.block b hlt, fun _ => rfl⟩⟩, fun b hx => ?_⟩⟩
  rcases G1.sub b hx with h1 | h1
  · exact .inl h1
  · exact .inr (Nat.le_trans hb.size h1)
theorem OpPost.calls {f : FuncId} {fn : Func} {cd : Code} {vs : List Value} {R : Value → World → Prop} (hfn : P.funcs[f]? = some fn) (hbd : fn.body = some cd) (hnm : (fn.name == "runtime.NumGoroutine") = false)
    (h : Calls P f ⟨vs⟩ w fun e w' => ∃ v, e = .returned v ∧ R v w') : OpPost P (callFunc f ⟨vs⟩) w R := by
  unfold OpPost
  rw [run_callFunc hfn hbd hnm]
  exact h
/-- A cutset of plain letters. -/
def asciiOk (c : List UInt8) : Bool := c.all (fun b => decide (b.toNat < 128)) && decide (c.length < 4294967281)
def eTrimLeft (ds : List AV) (mem : Mem) : Option (AV × Mem) :=
  match ds with
  | [.str s, .str c] => if asciiOk c = true then some (.str (Lib.trimLeftS s c), mem) else none
  | _ => none
theorem trimLeft_ok {f : FuncId} {fn : Func} {cd : Code} (hfn : P.funcs[f]? = some fn) (hbd : fn.body = some cd) (hnm : (fn.name == "runtime.NumGoroutine") = false)
    (hc : ∀ (s c : ByteArray) (w : World), c.size < 4294967281 → (∀ (j : Nat) b, c.data.toList[j]? = some b → b.toNat < 128) →
      Calls P f #[.string s, .string c] w fun e w' => e = .returned (.string ⟨(Lib.trimLeftS s.data.toList c.data.toList).toArray⟩) ∧ Below w.heap.size w w') : ExtOk P f eTrimLeft := by
  intro ds mem d mem' hd g w vs fr h
  unfold eTrimLeft at hd
  split at hd
  rotate_left
  · cases hd
  rename_i s c
  simp only [Option.ite_none_right_eq_some, Option.some.injEq, Prod.mk.injEq] at hd
  obtain ⟨ho, rfl, rfl⟩ := hd
  unfold asciiOk at ho
  simp only [Bool.and_eq_true, decide_eq_true_eq] at ho
  match vs, h with
  | [], h => exact absurd h.envRep.1 (by simp)
  | [_], h => exact absurd h.envRep.1 (by simp)
  | _ :: _ :: _ :: _, h => exact absurd h.envRep.1 (by simp)
  | [a, b], h =>
    have ra := rep_str (h.envRep.2 0 a _ rfl rfl)
    have rb := rep_str (h.envRep.2 1 b _ rfl rfl)
    subst ra; subst rb
    refine OpPost.calls hfn hbd hnm ((hc ⟨⟨s⟩⟩ ⟨⟨c⟩⟩ w (by rw [str_size]; exact ho.2) (fun j x hx => of_decide_eq_true (List.all_eq_true.1 ho.1 x (List.mem_of_getElem? hx)))).mono fun e w' ⟨he, hb⟩ => ⟨_, he, ?_⟩)
    exact done_below h hb (.str _) rfl
 end
end Go.Eng
 end
