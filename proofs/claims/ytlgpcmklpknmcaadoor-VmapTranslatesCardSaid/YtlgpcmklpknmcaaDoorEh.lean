/- Code, calls, and the run: soundness.
   Calls and the whole run.
   A call's body, and the theorem of the whole engine.
   The run without a count: what some number of rounds answers. -/
import Derived.Test.YtlgpcmklpknmcaaDoorEg
 section
set_option linter.unusedVariables false
set_option linter.unusedSimpArgs false
namespace Go.Eng

/-- What a session adds to a function's text: of which operands the rights are taken; which slots live at a loop's head; may pointers to its variables outlive it. -/
structure Ann where
  tk : Nat → Nat → List Bool
  live : Nat → List Nat
  keep : Bool
  wl : Nat → List Nat
  sx : Nat → List (Nat × List Nat)
  out : Nat → List Nat
  mac : Nat → Option Nat
  nk : Nat → Nat → List Nat
  cut : Nat → Option (List Nat × List Nat)
  exl : Nat → List Nat
  ret : List Nat
  res : List Bool
  sg : Nat → List (Nat × Option Nat)
  sh : Nat → Nat → Sh
  fr : Nat → Bool

/-- The number of the first region in a piece of code: the loop's name. -/
def firstReg : Code → Nat
  | .region id _ _ => id
  | .seq a b => firstReg a
  | .block _ c => firstReg c
  | .loop c => firstReg c
  | .scope c => firstReg c
  | _ => 0

def convCode (P : Program) (A : Ann) : Code → Option RCode
  | .skip => some .skip
  | .label _ => some .skip
  | .region id ops draw => match convInsts P (A.nk id) (A.tk id) (A.mac id) ops ops.toList 0 with
    | some rs => if draw then (if P.follows .mixedOrders && ((drawOk ops rs (A.wl id) (A.sx id) ops.size && macOk ops (A.mac id)) || (drawOk ops rs (A.wl id) (A.sx id) ((A.mac id).getD 0) && tailOk ops (A.mac id))) then some (.region (some (A.wl id, A.sx id)) (A.out id) (chunk (A.sg id) (withSh (A.sh id) rs))) else none) else some (.region none (A.out id) (chunk (A.sg id) (withSh (A.sh id) rs)))
    | none => none
  | .seq a b => match convCode P A a, convCode P A b with
    | some x, some y => some (.seq x (match A.cut (firstReg b) with
      | some l => .cut (firstReg b + 100000) l.1 l.2 (if A.fr (firstReg b + 100000) then .frame y else y)
      | none => y))
    | _, _ => none
  | .cond c a b => match conOpd [] c false, convCode P A a, convCode P A b with
    | some z, some x, some y => some (if A.fr (firstReg a + 200000) then .frame (.cond z x y) else .cond z x y)
    | _, _, _ => none
  | .block id c => match convCode P A c with
    | some x => some (.block id x)
    | none => none
  | .loop c => match convCode P A c with
    | some x => some (.loop (firstReg c) (A.live (firstReg c)) (if A.fr (firstReg c) then .frame x else x))
    | none => none
  | .scope c => convCode P A c
  | .exit id => some (.exit id (A.exl id))
  | .ret => some (.ret A.ret)
  | _ => some .stop

def convRes (P : Program) : List Bool → List ResultVar → Option (List RRes)
  | _, [] => some []
  | ts, .tmp t :: rs => match convRes P ts.tail rs with
    | some xs => some (.tmp t (ts.headD false) :: xs)
    | none => none
  | ts, .cell a t :: rs => match convRes P ts.tail rs with
    | some xs => if known P t then some (.cell a (szOf P t) (aggT P t) :: xs) else none
    | none => none

def convFn (P : Program) (A : Ann) (f : FuncId) : Option RFunc :=
  match P.funcs[f]? with
  | some fn => if fn.name == "runtime.NumGoroutine" then none else match fn.body with
    | some c => match convCode P A c, convRes P A.res fn.results.toList with
      | some x, some rs => some ⟨fn.ntmps, x, rs, A.keep⟩
      | _, _ => none
    | none => none
  | none => none

def RExit.to : RExit → Exit
  | .normal => .normal
  | .exit id => .exit id
  | .ret => .ret

/-- What stands behind a piece of code. -/
def After (g : Gh) (w : World) (a : Act) (env : Env) (mem : Mem) (fr : List Nat) (ex : RExit) (env' : Env) (mem' : Mem) : Exit → Act → World → Prop := fun e a' w' =>
  e = ex.to ∧ ∃ g', St g' w' a' env' mem' fr ∧ Goes (clm g a env mem) g w (clm g' a' env' mem') g' w'

def LoopOk (P : Program) (Φ : Oracle) : Prop :=
  ∀ (A : Ann) c x live env mem ex env' mem', convCode P A c = some x → ∀ y, y = x ∨ y = .frame x → Φ.loop live y env mem = some (ex, env', mem') → ∀ g w a fr, St g w a env mem fr → (Code.loop c).wp P (After g w a env mem fr ex env' mem') a w

 section
variable {P : Program} {g : Gh} {w : World} {mem mem' : Mem} {fr : List Nat} {d : AV} {env env' : Env} {a : Act} {Φ : Oracle}

theorem After.trans {g1 : Gh} {w1 : World} {a1 : Act} {env1 : Env} {mem1 : Mem} {ex : RExit} (G : Goes (clm g a env mem) g w (clm g1 a1 env1 mem1) g1 w1) {e : Exit} {a2 : Act} {w2 : World}
    (h : After g1 w1 a1 env1 mem1 fr ex env' mem' e a2 w2) : After g w a env mem fr ex env' mem' e a2 w2 := by
  obtain ⟨he, g2, s2, G2⟩ := h
  exact ⟨he, g2, s2, G.trans G2⟩

theorem only_get {live : List Nat} {i : Nat} {d' : AV} (h : (only live env)[i]? = some d') : ∃ d0, env[i]? = some d0 ∧ (d' = d0 ∨ d' = .junk) := by
  unfold only at h
  obtain ⟨⟨x, j⟩, hx, rfl⟩ := getElem?_map_some h
  rw [List.getElem?_zipIdx] at hx
  cases he : env[i]? with
  | none => rw [he] at hx; cases hx
  | some y =>
    rw [he] at hx
    simp at hx
    obtain ⟨rfl, rfl⟩ := hx
    refine ⟨y, rfl, ?_⟩
    simp only
    split
    · exact .inl rfl
    · exact .inr rfl

theorem ownL_only (t : Nat) (live : List Nat) : ∀ (vs : List Value) (env : Env) (k : Nat), (ownL vs ((env.zipIdx k).map fun x => if live.contains x.2 then x.1 else .junk)).count t ≤ (ownL vs env).count t
  | [], env, k => by simp [ownL]
  | v :: vs, [], k => by simp [ownL]
  | v :: vs, d :: env, k => by
    have ih := ownL_only t live vs env (k + 1)
    have e1 : ∀ (c : AV) (cs : List AV), ownL (v :: vs) (c :: cs) = own v c ++ ownL vs cs := fun c cs => by simp [ownL]
    simp only [List.zipIdx_cons, List.map_cons]
    rw [e1, e1, List.count_append, List.count_append]
    split
    · omega
    · rw [noOwn_own (d := .junk) rfl, List.count_nil]; omega

/-- Dead slots are forgotten. -/
theorem St.only (h : St g w a env mem fr) (live : List Nat) : St g w a (only live env) mem fr ∧ Goes (clm g a env mem) g w (clm g a (only live env) mem) g w := by
  have hcnt : ∀ t, (clm g a (Go.Eng.only live env) mem).count t ≤ (clm g a env mem).count t := by
    intro t
    unfold clm
    rw [count_claims, count_claims]
    have := ownL_only t live a.tmps.toList env 0
    unfold Go.Eng.only
    have e : (fun x : AV × Nat => match x with | (d, i) => if live.contains i then d else AV.junk) = fun x => if live.contains x.2 then x.1 else .junk := by funext x; rfl
    rw [e]
    omega
  refine ⟨⟨⟨⟨by simp [Go.Eng.only, h.inv.envRep.1], fun i v d p q => ?_⟩, fun i v d p q => ?_, h.inv.blLen, h.inv.mvLen, h.inv.persOk, h.inv.memOk, ?_, h.inv.frLt, h.inv.memPtr⟩, h.defers⟩, .refl _ _ _, fun b hb => .inl ?_⟩
  · obtain ⟨d0, q0, rfl | rfl⟩ := only_get q
    · exact h.inv.envRep.2 i v _ p q0
    · exact .junk _
  · obtain ⟨d0, q0, rfl | rfl⟩ := only_get q
    · exact h.inv.envOwn i v _ p q0
    · exact noOwn_ok rfl
  · rw [List.nodup_iff_count]; intro t
    have h1 := hcnt t; have h2 := nd_count h.inv t
    unfold clm at h1
    rw [List.count_append]; omega
  · rw [mem_count]; have := mem_count.1 hb; have := hcnt b; omega

theorem count_take (t n : Nat) (l : List Nat) : (l.take n).count t ≤ l.count t := List.Sublist.count_le t (List.take_sublist n l)

theorem take_get {α : Type} {l : List α} {n i : Nat} {x : α} (h : (l.take n)[i]? = some x) : i < n ∧ l[i]? = some x := by
  rw [List.getElem?_take] at h
  split at h
  · rename_i hi; exact ⟨hi, h⟩
  · cases h

theorem zip_take {α β : Type} : ∀ (n : Nat) (l : List α) (m : List β), (l.take n).zip (m.take n) = (l.zip m).take n
  | 0, l, m => by simp
  | n + 1, [], m => by simp
  | n + 1, a :: l, [] => by simp
  | n + 1, a :: l, b :: m => by simp [zip_take n l m]

/-- Variables that are left behind: what points to them is forgotten. -/
theorem Inv.truncL {vals : List Value} (h : Inv g w vals env mem fr) (n : Nat) :
    Inv ⟨g.pers, g.bl.take n, g.mv.take n⟩ w vals (scrubL n env) (mem.take n) fr ∧ ∀ t, (claims ⟨g.pers, g.bl.take n, g.mv.take n⟩ vals (scrubL n env) (mem.take n)).count t ≤ (claims g vals env mem).count t := by
  have hb : ∀ (m : Nat), m ≤ n → ∀ b blk, b < m → g.bl[b]? = some blk → (g.bl.take n)[b]? = some blk := fun m hm b blk hb hk => by
    rw [List.getElem?_take, if_pos (by omega)]; exact hk
  have hcnt : ∀ t, (claims ⟨g.pers, g.bl.take n, g.mv.take n⟩ vals (scrubL n env) (mem.take n)).count t ≤ (claims g vals env mem).count t := by
    intro t
    rw [count_claims, count_claims]
    have e1 : ownL vals (scrubL n env) = ownL vals env := ownL_scrub ..
    rw [e1]
    have h1 := count_take t n g.bl
    have h2 : (ownM (g.mv.take n) (mem.take n)).count t ≤ (ownM g.mv mem).count t := by
      unfold ownM
      rw [zip_take]
      have : (g.mv.zip mem).flatMap (fun x => ownL x.1 x.2) = ((g.mv.zip mem).take n).flatMap (fun x => ownL x.1 x.2) ++ ((g.mv.zip mem).drop n).flatMap (fun x => ownL x.1 x.2) := by
        rw [← List.flatMap_append, List.take_append_drop]
      rw [this, List.count_append]; omega
    simp only
    omega
  refine ⟨⟨⟨by rw [scrubL_len]; exact h.envRep.1, fun i v e p q => ?_⟩, fun i u e p q => ?_, by simp [h.blLen], by simp [h.mvLen], h.persOk, fun i b us cs k1 k2 k3 => ?_, ?_, h.frLt, fun i cs k => ?_⟩, hcnt⟩
  · obtain ⟨e', q', rfl⟩ := get_scrubL q
    exact (h.envRep.2 i v e' p q').scrub (hb n (Nat.le_refl _))
  · obtain ⟨e', q', rfl⟩ := get_scrubL q
    exact ok_scrub n (h.envOwn i u e' p q')
  · obtain ⟨hi, k1⟩ := take_get k1
    obtain ⟨_, k2⟩ := take_get k2
    obtain ⟨_, k3⟩ := take_get k3
    have m := h.memOk i b us cs k1 k2 k3
    have hm := h.memPtr i cs k3
    refine ⟨m.obj, m.free, ⟨m.rep.1, fun j u c p q => ?_⟩, m.own, m.bld⟩
    have hc : c.scrub (i + 1) = c := by
      rw [scrubL_map] at hm
      have := congrArg (fun l => l[j]?) hm
      simp only [List.getElem?_map, q, Option.map_some] at this
      exact Option.some.inj this
    rw [← hc]
    exact (m.rep.2 j u c p q).scrub (hb (i + 1) (by omega))
  · rw [List.nodup_iff_count]; intro t
    have h1 := hcnt t; have h2 := nd_count h t
    rw [List.count_append]; omega
  · obtain ⟨_, k⟩ := take_get k
    exact h.memPtr i cs k

/-- What is made on the way falls away. -/
theorem frame_after {c : Code} {x y : RCode} (H : ∀ (ex : RExit) (env : Env) (mem : Mem) (env' : Env) (mem' : Mem), exec Φ x env mem = some (ex, env', mem') → ∀ g w a, St g w a env mem fr → c.wp P (After g w a env mem fr ex env' mem') a w)
    (hy : y = x ∨ y = .frame x) {ex : RExit} (hx : exec Φ y env mem = some (ex, env', mem')) (h : St g w a env mem fr) : c.wp P (After g w a env mem fr ex env' mem') a w := by
  rcases hy with rfl | rfl
  · exact H ex env mem env' mem' hx g w a h
  · simp only [exec] at hx
    split at hx
    · rename_i ex1 env1 mem1 hx1
      cases hx
      refine wp_mono (H _ env mem env1 mem1 hx1 g w a h) fun e a1 w1 hA => ?_
      obtain ⟨he, g1, s1, G1⟩ := hA
      obtain ⟨t1, t2⟩ := s1.inv.truncL mem.length
      refine ⟨he, _, ⟨t1, s1.defers⟩, ⟨G1.ext.os, G1.ext.tape, G1.ext.output, G1.ext.size, G1.ext.pers, ?_, G1.ext.same⟩, fun b hb => ?_⟩
      · obtain ⟨tl, htl⟩ := G1.ext.bl
        show g.bl <+: g1.bl.take mem.length
        rw [← htl, ← h.inv.blLen, List.take_left]
        exact List.prefix_refl _
      · refine G1.sub b ?_
        unfold clm at hb ⊢
        have h1 := mem_count.1 hb
        have h2 := t2 b
        rw [mem_count]; omega
    · cases hx

theorem exec_sound (hC : CallOk P Φ) (hL : LoopOk P Φ) {A : Ann} : ∀ (c : Code) (x : RCode) (env : Env) (mem : Mem) (ex : RExit) (env' : Env) (mem' : Mem), convCode P A c = some x → exec Φ x env mem = some (ex, env', mem') → ∀ g w a, St g w a env mem fr → c.wp P (After g w a env mem fr ex env' mem') a w := by
  intro c
  induction c with
  | skip =>
    intro x env mem ex env' mem' hc hx g w a h
    cases hc
    simp only [exec, Option.some.injEq, Prod.mk.injEq] at hx
    obtain ⟨rfl, rfl, rfl⟩ := hx
    exact wp_skip ⟨rfl, g, h, .refl _ _ _⟩
  | label l =>
    intro x env mem ex env' mem' hc hx g w a h
    cases hc
    simp only [exec, Option.some.injEq, Prod.mk.injEq] at hx
    obtain ⟨rfl, rfl, rfl⟩ := hx
    exact wp_label ⟨rfl, g, h, .refl _ _ _⟩
  | region id ops draw =>
    intro x env mem ex env' mem' hc hx g w a h
    simp only [convCode] at hc
    split at hc
    · rename_i rs hrs
      cases draw with
      | true =>
        simp only [if_true, Option.ite_none_right_eq_some, Bool.and_eq_true, Option.some.injEq] at hc
        obtain ⟨⟨hm, hmk⟩, rfl⟩ := hc
        simp only [exec, flat_chunk, withSh_fst] at hx
        split at hx
        · rename_i env1 mem1 hex
          cases hx
          rw [Bool.or_eq_true] at hmk
          rcases hmk with hmk | hmk <;> rw [Bool.and_eq_true] at hmk <;> obtain ⟨hd, hmk⟩ := hmk
          · exact draw_sound hC hm hmk hrs hd hex h fun a' w' g' s' G' => ⟨rfl, g', (s'.only _).1, G'.trans (s'.only _).2⟩
          · cases hmc : A.mac id with
            | none => rw [hmc] at hmk; cases hmk
            | some mt =>
              rw [hmc] at hmk hrs hd
              exact draw_sound_tail hC hm hmk hrs hd hex h fun a' w' g' s' G' => ⟨rfl, g', (s'.only _).1, G'.trans (s'.only _).2⟩
        · cases hx
      | false =>
        simp only [Bool.false_eq_true, if_false, Option.some.injEq] at hc
        subst hc
        simp only [exec, flat_chunk, withSh_fst] at hx
        split at hx
        · rename_i env1 mem1 hex
          cases hx
          exact region_sound hC hrs hex h fun a' w' g' s' G' => ⟨rfl, g', (s'.only _).1, G'.trans (s'.only _).2⟩
        · cases hx
    · cases hc
  | seq c1 c2 ih1 ih2 =>
    intro x env mem ex env' mem' hc hx g w a h
    simp only [convCode] at hc
    split at hc
    · rename_i x1 x2 h1 h2
      cases hc
      simp only [exec] at hx
      refine wp_seq ?_
      split at hx
      · rename_i env1 mem1 hx1
        refine wp_mono (ih1 x1 env mem .normal env1 mem1 h1 hx1 g w a h) fun e a1 w1 hA => ?_
        obtain ⟨he, g1, s1, G1⟩ := hA
        subst he
        simp only [RExit.to, Exit.then]
        cases hcut : A.cut (firstReg c2) with
        | none =>
          rw [hcut] at hx
          exact wp_mono (ih2 x2 env1 mem1 ex env' mem' h2 hx g1 w1 a1 s1) fun e a2 w2 hA => hA.trans G1
        | some l =>
          rw [hcut] at hx
          simp only [exec] at hx
          obtain ⟨s2, G2⟩ := s1.only l.1
          split at hx
          · rename_i env2 mem2 hx2
            cases hx
            refine wp_mono (frame_after (fun ex env mem env' mem' hx g w a h => ih2 x2 env mem ex env' mem' h2 hx g w a h) (by split <;> simp) hx2 s2) fun e a2 w2 hA => ?_
            obtain ⟨he, g2, s3, G3⟩ := hA
            obtain ⟨s4, G4⟩ := s3.only l.2
            exact ⟨he, g2, s4, ((G1.trans G2).trans G3).trans G4⟩
          · exact wp_mono (frame_after (fun ex env mem env' mem' hx g w a h => ih2 x2 env mem ex env' mem' h2 hx g w a h) (by split <;> simp) hx s2) fun e a2 w2 hA => (hA.trans G2).trans G1
      · rename_i r hne
        cases hr : exec Φ x1 env mem with
        | none => rw [hr] at hx; cases hx
        | some q =>
          obtain ⟨e1, env1, mem1⟩ := q
          rw [hr] at hx
          cases hx
          refine wp_mono (ih1 x1 env mem ex env' mem' h1 hr g w a h) fun e a1 w1 hA => ?_
          obtain ⟨he, g1, s1, G1⟩ := hA
          subst he
          cases ex with
          | normal => exact absurd hr (hne _ _)
          | exit id => exact ⟨rfl, g1, s1, G1⟩
          | ret => exact ⟨rfl, g1, s1, G1⟩
    · cases hc
  | cond o c1 c2 ih1 ih2 =>
    intro x env mem ex env' mem' hc hx g w a h
    simp only [convCode] at hc
    split at hc
    · rename_i z x1 x2 hz h1 h2
      cases hc
      refine frame_after (x := .cond z x1 x2) (fun ex env mem env' mem' hx g w a h => ?_) (by split <;> simp) hx h
      simp only [exec] at hx
      have hl := h.inv.envRep.1
      have htk := take_one (g := g) (w := w) (mem := mem) (fr := fr) (vs := []) (ds := []) hl (by simpa using h.inv) hz (a := a) rfl
      simp only [List.nil_append] at htk
      have hrep : Rep g.pers g.bl (a.eval o) (z.ev env) := htk.1.envRep.2 a.tmps.toList.length _ _ (by simp) (by rw [hl, ← htk.2.1]; simp)
      split at hx
      · rename_i hb
        rw [hb] at hrep
        exact wp_cond_true (rep_bool hrep) (ih1 x1 env mem ex env' mem' h1 hx g w a h)
      · rename_i hb
        rw [hb] at hrep
        exact wp_cond_false (rep_bool hrep) (ih2 x2 env mem ex env' mem' h2 hx g w a h)
      · cases hx
    · cases hc
  | block id c ih =>
    intro x env mem ex env' mem' hc hx g w a h
    simp only [convCode] at hc
    split at hc
    · rename_i x1 h1
      cases hc
      simp only [exec] at hx
      refine wp_block ?_
      split at hx
      · rename_i id' env1 mem1 hr
        refine wp_mono (ih x1 env mem (.exit id') env1 mem1 h1 hr g w a h) fun e a1 w1 hA => ?_
        obtain ⟨he, g1, s1, G1⟩ := hA
        subst he
        simp only [RExit.to, Exit.inBlock]
        split at hx
        · rename_i hid; cases hx; rw [if_pos hid]; exact ⟨rfl, g1, s1, G1⟩
        · rename_i hid; cases hx; rw [if_neg hid]; exact ⟨rfl, g1, s1, G1⟩
      · rename_i hne
        refine wp_mono (ih x1 env mem ex env' mem' h1 hx g w a h) fun e a1 w1 hA => ?_
        obtain ⟨he, g1, s1, G1⟩ := hA
        subst he
        cases ex with
        | normal => exact ⟨rfl, g1, s1, G1⟩
        | exit id' => exact absurd hx (hne _ _ _)
        | ret => exact ⟨rfl, g1, s1, G1⟩
    · cases hc
  | loop c ih =>
    intro x env mem ex env' mem' hc hx g w a h
    simp only [convCode] at hc
    split at hc
    · rename_i x1 h1
      cases hc
      simp only [exec] at hx
      obtain ⟨s1, G1⟩ := h.only (A.live (firstReg c))
      exact wp_mono (hL A c x1 _ _ mem ex env' mem' h1 _ (by split <;> simp) hx g w a fr s1) fun e a2 w2 hA => hA.trans G1
    · cases hc
  | scope c ih =>
    intro x env mem ex env' mem' hc hx g w a h
    simp only [convCode] at hc
    refine wp_scope_straight (wp_mono (ih x env mem ex env' mem' hc hx g w a h) fun e a1 w1 hA => ?_)
    obtain ⟨he, g1, s1, G1⟩ := hA
    subst he
    cases ex <;> exact ⟨rfl, g1, s1, G1⟩
  | exit id =>
    intro x env mem ex env' mem' hc hx g w a h
    cases hc
    simp only [exec, Option.some.injEq, Prod.mk.injEq] at hx
    obtain ⟨rfl, rfl, rfl⟩ := hx
    obtain ⟨s2, G2⟩ := h.only (A.exl id)
    exact wp_exit ⟨rfl, g, s2, G2⟩
  | ret =>
    intro x env mem ex env' mem' hc hx g w a h
    cases hc
    simp only [exec, Option.some.injEq, Prod.mk.injEq] at hx
    obtain ⟨rfl, rfl, rfl⟩ := hx
    obtain ⟨s2, G2⟩ := h.only A.ret
    exact wp_ret ⟨rfl, g, s2, G2⟩
  | rangeFunc f ps as b ih1 ih2 => intro x env mem ex env' mem' hc hx; cases hc; cases hx
  | goto l => intro x env mem ex env' mem' hc hx; cases hc; cases hx
  | refuse why => intro x env mem ex env' mem' hc hx; cases hc; cases hx
/-- A round's own variables fall away. -/
theorem body_frame (hC : CallOk P Φ) (hL : LoopOk P Φ) {A : Ann} {c : Code} {x y : RCode} (hc : convCode P A c = some x) (hy : y = x ∨ y = .frame x) {ex : RExit} (hx : exec Φ y env mem = some (ex, env', mem')) (h : St g w a env mem fr) : c.wp P (After g w a env mem fr ex env' mem') a w :=
  frame_after (fun ex env mem env' mem' hx g w a h => exec_sound hC hL c x env mem ex env' mem' hc hx g w a h) hy hx h
 end
end Go.Eng
 end

 section
set_option linter.unusedVariables false
set_option linter.unusedSimpArgs false
namespace Go.Eng
 section
variable {P : Program} {g : Gh} {w : World} {vals vs : List Value} {ds : List AV} {mem mem' : Mem} {fr : List Nat} {d : AV} {env env' : Env} {a : Act} {Φ : Oracle}

theorem Inv.extendJunk (h : Inv g w vals env mem fr) : ∀ n, Inv g w (vals ++ List.replicate n undef) (env ++ List.replicate n .junk) mem fr ∧ ∀ t, (claims g (vals ++ List.replicate n undef) (env ++ List.replicate n .junk) mem).count t = (claims g vals env mem).count t := by
  intro n
  have hr : RepL g.pers g.bl (List.replicate n undef) (List.replicate n .junk) := ⟨by simp, fun i v d a b => by
    have : d = .junk := List.eq_of_mem_replicate (List.mem_of_getElem? b)
    subst this; exact .junk _⟩
  have := h.extendPlain hr
  have e : (List.replicate n AV.junk).map AV.plain = List.replicate n .junk := by simp [AV.plain, AV.plain2, AV.plain1]
  rwa [e] at this

theorem Inv.frWeak {fr2 : List Nat} (h : Inv g w vals env mem (fr ++ fr2)) : Inv g w vals env mem fr :=
  ⟨h.envRep, h.envOwn, h.blLen, h.mvLen, h.persOk, h.memOk, by
    rw [List.nodup_iff_count]; intro t
    have := nd_count h t
    rw [List.count_append] at this ⊢; omega, fun t ht => h.frLt t (List.mem_append_left _ ht), h.memPtr⟩

def resSem (tmps : Array Value) : ResultVar → Sem Value
  | .tmp t => pure (tmps.getD t undef)
  | .cell b t => do loadVar t (← asAddr (tmps.getD b undef))

/-- The results, taken out of the slots. -/
theorem res_sound : ∀ (ts : List Bool) (rvs : List ResultVar) (rs : List RRes) (env : Env) (ds pds : List AV) (pvs : List Value), convRes P ts rvs = some rs → resAVs env mem rs = some ds → a.tmps.toList.length = env.length → Inv g w (a.tmps.toList ++ pvs) (env ++ pds) mem fr →
    ∃ vs env', (rvs.mapM (resSem a.tmps)).run P w = .ok vs w ∧ env'.length = env.length ∧
      Inv g w (a.tmps.toList ++ (pvs ++ vs)) (env' ++ (pds ++ ds)) mem fr ∧ ∀ t, (claims g (a.tmps.toList ++ (pvs ++ vs)) (env' ++ (pds ++ ds)) mem).count t ≤ (claims g (a.tmps.toList ++ pvs) (env ++ pds) mem).count t
  | ts, [], rs, env, ds, pds, pvs, hc, hr, hl, h => by
    simp only [convRes, Option.some.injEq] at hc
    subst hc
    simp only [resAVs, Option.some.injEq] at hr
    subst hr
    exact ⟨[], env, by simp, rfl, by simpa using h, fun t => by simp⟩
  | ts, .tmp t :: rvs, rs, env, ds, pds, pvs, hc, hr, hl, h => by
    simp only [convRes] at hc
    split at hc
    · rename_i xs hxs
      cases hc
      simp only [resAVs] at hr
      split at hr
      · rename_i ds' hds
        cases hr
        have htk := take_one (g := g) (w := w) (mem := mem) (fr := fr) hl h (zs := []) (o := .tmp t) (tk := ts.headD false) (x := .t t (ts.headD false)) rfl (a := a) rfl
        obtain ⟨k1, k2, k3⟩ := htk
        obtain ⟨vs, env', m1, m2, m3, m4⟩ := res_sound ts.tail rvs xs _ ds' _ _ hxs hds (by rw [hl, k2]) k1
        have hev : a.eval (.tmp t) = a.tmps.getD t undef := rfl
        rw [hev] at m3 m4 k3
        refine ⟨a.tmps.getD t undef :: vs, env', ?_, m2.trans k2, by simpa using m3, fun t => ?_⟩
        · rw [List.mapM_cons]
          simp only [resSem, Sem.run_bind, Sem.run_pure, Result.andThen_ok, m1]
        · have := m4 t
          simp only [List.append_assoc, List.singleton_append] at this
          exact Nat.le_trans this (k3 t)
      · cases hr
    · cases hc
  | ts, .cell b t :: rvs, rs, env, ds, pds, pvs, hc, hr, hl, h => by
    simp only [convRes] at hc
    split at hc
    · rename_i xs hxs
      simp only [Option.ite_none_right_eq_some, Option.some.injEq] at hc
      obtain ⟨hk, rfl⟩ := hc
      simp only [resAVs] at hr
      split at hr
      · rename_i bb oo hptr
        split at hr
        · rename_i cs hcs
          split at hr
          · rename_i d0 ds' hd0 hds
            cases hr
            -- the variable's address
            have hE := h.left hl
            have htk := take_one (g := g) (w := w) (mem := mem) (fr := fr) (vs := []) (ds := []) hl (by simpa using hE) (zs := []) (o := .tmp b) (tk := false) (x := .t b false) rfl (a := a) rfl
            simp only [List.nil_append, Opd.clr, Opd.ev, hptr] at htk
            have hrep : Rep g.pers g.bl (a.tmps.getD b undef) (.ptr bb oo) := htk.1.envRep.2 a.tmps.toList.length _ _ (by simp [Act.eval]) (by rw [hl]; simp)
            obtain ⟨blk, hb, hv⟩ := rep_ptr hrep
            obtain ⟨us, e, fz, h2, ho, hf, hrepc, hown⟩ := mem_cells h hb hcs
            obtain ⟨v, g1, g2⟩ := run_loadVar (P := P) (w := w) hk (a := ⟨blk, 0, none⟩) hrepc (o := oo) (fun j v hj => by simp only [Nat.zero_add]; rw [cell_of_blk ho]; exact hj) rfl hd0
            rw [add_none rfl] at g1
            simp only [Nat.zero_add] at g1
            have hx := h.extend g2.plain (ok_plain w g.pers v d0) (fun t => by rw [own_plain]; have := nd_count h t; simp; omega)
            simp only [List.append_assoc] at hx
            obtain ⟨vs, env', m1, m2, m3, m4⟩ := res_sound ts.tail rvs xs env ds' _ _ hxs hds hl hx
            refine ⟨v :: vs, env', ?_, m2, by simpa using m3, fun t => ?_⟩
            · rw [List.mapM_cons]
              simp only [resSem, hv, asAddr, Sem.run_bind, Sem.run_pure, Result.andThen_ok, g1, m1]
            · have h4 := m4 t
              simp only [List.append_assoc, List.singleton_append] at h4
              refine Nat.le_trans h4 ?_
              have h5 := claims_append (g := g) (mem := mem) (vals := a.tmps.toList ++ pvs) (env := env ++ pds) (vs := [v]) (ds := [d0.plain]) h.envRep.1 t
              have e0 : ownL [v] [d0.plain] = [] := by simp [ownL, own_plain]
              rw [e0] at h5
              simp only [List.append_assoc] at h5
              rw [h5]; simp
          · cases hr
        · cases hr
      · cases hr
    · cases hc

theorem tup_leaf_le (t : Nat) : ∀ (vs : List Value) (ds : List AV), (((vs.zip ds).flatMap fun x => leaves2 x.1 x.2).flatMap own1).count t ≤ (ownL vs ds).count t
  | [], ds => by simp
  | v :: vs, [] => by simp
  | v :: vs, d :: ds => by
    have ih := tup_leaf_le t vs ds
    have e1 : ownL (v :: vs) (d :: ds) = own v d ++ ownL vs ds := by simp [ownL]
    rw [e1, List.zip_cons_cons, List.flatMap_cons, List.flatMap_append, List.count_append, List.count_append]
    have : ((leaves2 v d).flatMap own1).count t ≤ (own v d).count t := by
      by_cases ht : ∃ es, d = .tup es
      · obtain ⟨es, rfl⟩ := ht
        have : leaves2 v (.tup es) = [(v, .tup es)] := by cases v <;> rfl
        rw [this]; simp [own1_nosl]
      · have : leaves v d = leaves2 v d := by cases d <;> cases v <;> first | rfl | exact absurd ⟨_, rfl⟩ ht
        unfold own; rw [this]; exact Nat.le_refl _
    simp only at this ⊢
    omega

/-- The results as one value. -/
theorem pack_sound (h : Inv g w vs ds mem fr) : ∃ v, (if h : vs.toArray.size = 1 then vs.toArray[0] else .tuple vs.toArray) = v ∧ Inv g w [v] [pack ds] mem fr ∧ ∀ t, (claims g [v] [pack ds] mem).count t ≤ (claims g vs ds mem).count t := by
  refine ⟨_, rfl, ?_⟩
  match vs, ds, h with
  | [v], [d], h => exact ⟨h, fun t => Nat.le_refl _⟩
  | [], [], h =>
    exact ⟨(h.one (d := .tup []) (.tup [] [] rfl (fun i v d h => by simp at h)) (fun x hx => by simp [leaves] at hx) (fun t => by simp [own, leaves])).1, fun t => by
      rw [count_claims, count_claims]; simp [ownL, own, leaves, pack]⟩
  | v :: u :: vs, d :: e :: ds, h =>
    have hne : ¬ ((v :: u :: vs).toArray.size = 1) := by simp
    rw [dif_neg hne]
    have hc : ∀ t, (own (.tuple (v :: u :: vs).toArray) (.tup (d :: e :: ds))).count t ≤ (ownL (v :: u :: vs) (d :: e :: ds)).count t := fun t => tup_leaf_le t _ _
    obtain ⟨k1, k2⟩ := h.one (d := .tup (d :: e :: ds)) (v := .tuple (v :: u :: vs).toArray) (.tup _ _ h.envRep.1 h.envRep.2) (fun x hx => by
      simp only [leaves] at hx
      obtain ⟨y, hy, hx⟩ := List.mem_flatMap.1 hx
      obtain ⟨i, hi⟩ := List.getElem?_of_mem hy
      rw [List.getElem?_zip_eq_some] at hi
      have ho := h.envOwn i y.1 y.2 (by simpa using hi.1) hi.2
      by_cases ht : ∃ es, y.2 = .tup es
      · obtain ⟨es, he⟩ := ht
        rw [he] at hx
        have : leaves2 y.1 (.tup es) = [(y.1, .tup es)] := by cases y.1 <;> rfl
        rw [this] at hx; simp at hx; subst hx
        exact Tail_nosl (by simp)
      · have : leaves y.1 y.2 = leaves2 y.1 y.2 := by
          obtain ⟨y1, y2⟩ := y
          cases y2 <;> cases y1 <;> first | rfl | exact absurd ⟨_, rfl⟩ ht
        exact ho x (by rw [this]; exact hx)) hc
    refine ⟨k1, fun t => ?_⟩
    rw [count_claims, count_claims]
    have := hc t
    have e1 : ownL [.tuple (v :: u :: vs).toArray] [pack (d :: e :: ds)] = own (.tuple (v :: u :: vs).toArray) (.tup (d :: e :: ds)) := by simp [ownL, pack]
    rw [e1]; omega
  | [], _ :: _, h => exact absurd h.envRep.1 (by simp)
  | _ :: _, [], h => exact absurd h.envRep.1 (by simp)
  | [_], _ :: _ :: _, h => exact absurd h.envRep.1 (by simp)
  | _ :: _ :: _, [_], h => exact absurd h.envRep.1 (by simp)
 end
end Go.Eng
 end

 section
set_option linter.unusedVariables false
set_option linter.unusedSimpArgs false
namespace Go.Eng
 section
variable {P : Program} {g : Gh} {w : World} {vals vs : List Value} {ds : List AV} {mem mem' : Mem} {fr : List Nat} {d : AV} {env env' : Env} {a : Act} {Φ : Oracle}

/-- The call's own variables fall away. -/
theorem Inv.trunc {v : Value} (h : Inv g w [v] [d] mem fr) (n : Nat) :
    Inv ⟨g.pers, g.bl.take n, g.mv.take n⟩ w [v] [d.scrub n] (mem.take n) fr ∧ ∀ t, (claims ⟨g.pers, g.bl.take n, g.mv.take n⟩ [v] [d.scrub n] (mem.take n)).count t ≤ (claims g [v] [d] mem).count t :=
  h.truncL n

theorem run_callFunc {f : FuncId} {fn : Func} {c : Code} {args : Array Value} (hf : P.funcs[f]? = some fn) (hb : fn.body = some c) (hn : (fn.name == "runtime.NumGoroutine") = false) : (callFunc f args).run P w = .ok (.enter f args) w := by
  unfold callFunc
  simp only [Sem.run_bind, run_program, Result.andThen_ok, hf, hn, Bool.false_eq_true, if_false, hb, Option.isNone_some]
  rfl

theorem run_results {fn : Func} {tmps : Array Value} {us : List Value} (h : (fn.results.toList.mapM (resSem tmps)).run P w = .ok us w) :
    (results fn tmps).run P w = .ok (if h : us.toArray.size = 1 then us.toArray[0] else .tuple us.toArray) w := by
  unfold results
  have hm : (fn.results.mapM (resSem tmps)).run P w = .ok us.toArray w := by
    rw [Array.mapM_eq_mapM_toList]
    simp only [Sem.run_map, h, Result.andThen_ok]
  simp only [Sem.run_bind]
  show ((Sem.run P (Array.mapM (resSem tmps) fn.results) w).andThen _) = _
  rw [hm]
  rfl

theorem body_sound (hC : CallOk P Φ) (hL : LoopOk P Φ) {A : Ann} {f : FuncId} {fn : RFunc} (hc : convFn P A f = some fn) (hd : callBody Φ fn ds mem = some (d, mem')) (h : Inv g w vs ds mem fr) :
    OpPost P (callFunc f ⟨vs⟩) w (Done g w vs ds mem fr d mem') := by
  unfold convFn at hc
  split at hc
  · rename_i fm hfm
    split at hc
    · cases hc
    · rename_i hname
      split at hc
      · rename_i c hbody
        split at hc
        · rename_i x rs hx hrs
          cases hc
          have hrun := run_callFunc (w := w) (args := ⟨vs⟩) hfm hbody (by simpa using hname)
          unfold OpPost
          rw [hrun]
          unfold callBody at hd
          simp only at hd
          split at hd
          · rename_i hlen
            have hvl := h.envRep.1
            obtain ⟨i1, i2⟩ := h.extendJunk (fm.ntmps - ds.length)
            have htm : ((⟨vs⟩ : Array Value) ++ Array.replicate (fm.ntmps - (⟨vs⟩ : Array Value).size) undef).toList = vs ++ List.replicate (fm.ntmps - ds.length) undef := by
              simp [hvl]
            have hst : St g w { tmps := (⟨vs⟩ : Array Value) ++ Array.replicate (fm.ntmps - (⟨vs⟩ : Array Value).size) undef, defers := [] } (ds ++ List.replicate (fm.ntmps - ds.length) .junk) mem fr := ⟨by rw [htm]; exact i1, rfl⟩
            split at hd
            · rename_i ex env1 mem1 hexec
              have hwp := exec_sound (fr := fr) hC hL c x _ mem ex env1 mem1 hx hexec g w _ hst
              refine calls_of_wp hfm hbody (wp_mono hwp fun e a1 w1 hA => ?_)
              obtain ⟨he, g1, s1, G1⟩ := hA
              have main : ∀ ds1, resAVs env1 mem1 rs = some ds1 → (if A.keep || mem1.length == mem.length then some (pack ds1, mem1) else some ((pack ds1).scrub mem.length, mem1.take mem.length)) = some (d, mem') →
                  a1.defers = [] ∧ ∃ v, (results fm a1.tmps).run P w1 = .ok v w1 ∧ (∃ v', Ending.returned v = .returned v' ∧ Done g w vs ds mem fr d mem' v' w1) := by
                intro ds1 hres hfin
                have hl1 := s1.inv.envRep.1
                obtain ⟨us, env2, r1, r2, r3, r4⟩ := res_sound (P := P) (g := g1) (w := w1) (mem := mem1) (fr := fr) (a := a1) A.res fm.results.toList rs env1 ds1 [] [] hrs hres hl1 (by simpa using s1.inv)
                simp only [List.nil_append, List.append_nil] at r3 r4
                have hR := (r3.right (by rw [hl1, r2])).frWeak
                obtain ⟨v, p1, p2, p3⟩ := pack_sound hR
                refine ⟨s1.defers, v, ?_, v, rfl, ?_⟩
                · rw [run_results r1, p1]
                -- what is claimed at the end was claimed before, or is new
                have hsub : ∀ b, 0 < (claims g1 [v] [pack ds1] mem1).count b → b ∈ claims g vs ds mem ∨ w.heap.size ≤ b := by
                  intro b hb
                  have h1 := p3 b
                  have h2 := r4 b
                  rw [claims_append (by rw [hl1, r2])] at h2
                  have h3 : 0 < (clm g1 a1 env1 mem1).count b := by
                    unfold clm
                    have c1 := count_claims (g := g1) (vals := us) (env := ds1) (mem := mem1) b
                    have c2 := count_claims (g := g1) (vals := a1.tmps.toList) (env := env2) (mem := mem1) b
                    omega
                  rcases G1.sub b (mem_count.2 h3) with h4 | h4
                  · left
                    unfold clm at h4
                    rw [htm] at h4
                    rw [mem_count, i2] at h4
                    exact mem_count.2 h4
                  · exact .inr h4
                have hext : Ext (claims g vs ds mem) g w g1 w1 := by
                  have := (G1.mono (B := claims g vs ds mem) fun b hb => by
                    unfold clm at hb
                    rw [htm, mem_count, i2] at hb
                    exact mem_count.2 hb).ext
                  exact this
                split at hfin
                · cases hfin
                  exact ⟨g1, p2, hext, fun b hb => hsub b (mem_count.1 hb)⟩
                · cases hfin
                  obtain ⟨t1, t2⟩ := p2.trunc mem.length
                  refine ⟨_, t1, ⟨hext.os, hext.tape, hext.output, hext.size, hext.pers, ?_, hext.same⟩, fun b hb => hsub b ?_⟩
                  · obtain ⟨tl, htl⟩ := hext.bl
                    show g.bl <+: g1.bl.take mem.length
                    rw [← htl, ← h.blLen, List.take_left]
                    exact List.prefix_refl _
                  · have := mem_count.1 hb
                    have := t2 b
                    omega
              subst he
              cases ex with
              | normal =>
                simp only at hd
                split at hd
                · rename_i ds1 hres
                  exact main ds1 hres hd
                · cases hd
              | ret =>
                simp only at hd
                split at hd
                · rename_i ds1 hres
                  exact main ds1 hres hd
                · cases hd
              | exit id => cases hd
            · cases hd
          · cases hd
        · cases hc
      · cases hc
  · cases hc

/-- What a program's functions are, and what is told of those without a text. -/
structure ProgOk (P : Program) (Q : Prog) : Prop where
  fn : ∀ f fn, Q.ext f = none → Q.fn f = some fn → ∃ A, convFn P A f = some fn
  ext : ∀ f e ds mem d mem', Q.ext f = some e → e ds mem = some (d, mem') → ∀ g w vs fr, Inv g w vs ds mem fr → OpPost P (callFunc f ⟨vs⟩) w (Done g w vs ds mem fr d mem')

theorem rounds_mono {c : Code} {Q Q' : Exit → Act → World → Prop} (hq : ∀ e a w, Q e a w → Q' e a w) : ∀ n a w, Code.rounds P c Q n a w → Code.rounds P c Q' n a w
  | 0, a, w, h => h.elim
  | n + 1, a, w, h => by
    rw [rounds_succ] at h ⊢
    refine wp_mono h fun e a1 w1 h1 => ?_
    cases e <;> first | exact rounds_mono hq n _ _ h1 | exact hq _ _ _ h1

/-- **The engine is sound.** -/
theorem run_sound {Q : Prog} (hQ : ProgOk P Q) : ∀ n, CallOk P (runF Q n) ∧ LoopOk P (runF Q n) := by
  have key : ∀ n, CallOk P (runF Q n) ∧ (∀ (A : Ann) c x live env mem ex env' mem', convCode P A c = some x → ∀ y, y = x ∨ y = .frame x → (runF Q n).loop live y env mem = some (ex, env', mem') → ∀ g w a fr, St g w a env mem fr → Code.rounds P c (After g w a env mem fr ex env' mem') n a w) := by
    intro n
    induction n with
    | zero =>
      constructor
      · intro f ds mem d mem' h; cases h
      · intro A c x live env mem ex env' mem' _ y hy h; cases h
    | succ n ih =>
      obtain ⟨ihC, ihL⟩ := ih
      have hL : LoopOk P (runF Q n) := fun A c x live env mem ex env' mem' hc y hy hx g w a fr h => wp_loop_rounds n (ihL A c x live env mem ex env' mem' hc y hy hx g w a fr h)
      constructor
      · intro f ds mem d mem' hd g w vs fr h
        simp only [runF] at hd
        split at hd
        · rename_i e he
          exact hQ.ext f e ds mem d mem' he hd g w vs fr h
        · rename_i he
          split at hd
          · rename_i fn hfn
            obtain ⟨A, hA⟩ := hQ.fn f fn he hfn
            exact body_sound ihC hL hA hd h
          · cases hd
      · intro A c x live env mem ex env' mem' hc y hy hx g w a fr h
        simp only [runF] at hx
        rw [rounds_succ]
        split at hx
        · rename_i env1 mem1 hx1
          refine wp_mono (body_frame (fr := fr) ihC hL hc hy hx1 h) fun e a1 w1 hA => ?_
          obtain ⟨he, g1, s1, G1⟩ := hA
          subst he
          simp only [RExit.to, Exit.then]
          obtain ⟨s2, G2⟩ := s1.only live
          exact rounds_mono (fun e a2 w2 hB => (hB.trans G2).trans G1) n _ _ (ihL A c x live _ mem1 ex env' mem' hc y hy hx g1 w1 a1 fr s2)
        · rename_i hne
          refine wp_mono (body_frame (fr := fr) ihC hL hc hy hx h) fun e a1 w1 hA => ?_
          obtain ⟨he, g1, s1, G1⟩ := hA
          subst he
          cases ex with
          | normal => exact absurd hx (hne _ _)
          | exit id => exact ⟨rfl, g1, s1, G1⟩
          | ret => exact ⟨rfl, g1, s1, G1⟩
  exact fun n => ⟨(key n).1, fun A c x live env mem ex env' mem' hc y hy hx g w a fr h => wp_loop_rounds n ((key n).2 A c x live env mem ex env' mem' hc y hy hx g w a fr h)⟩
 end
end Go.Eng
 end

 section
set_option linter.unusedVariables false
set_option linter.unusedSimpArgs false
namespace Go.Eng

structure Oracle.Le (Φ Ψ : Oracle) : Prop where
  call : ∀ f ds m r, Φ.call f ds m = some r → Ψ.call f ds m = some r
  loop : ∀ l c e m r, Φ.loop l c e m = some r → Ψ.loop l c e m = some r

theorem opA_mono {Φ Ψ : Oracle} (h : Φ.Le Ψ) {k : OpK} {ds : List AV} {mem : Mem} {r : AV × Mem} (hx : opA Φ k ds mem = some r) : opA Ψ k ds mem = some r := by
  cases k <;> try exact hx
  case call f => exact h.call _ _ _ _ hx
  case callv =>
    simp only [opA] at hx ⊢
    split at hx
    · exact h.call _ _ _ _ hx
    · cases hx

theorem stepGo_mono {Φ Ψ : Oracle} (h : Φ.Le Ψ) {o : RInst} {env : Env} {mem : Mem} {r : Env × Mem} (hx : stepGo Φ o env mem = some r) : stepGo Ψ o env mem = some r := by
  unfold stepGo at hx ⊢
  split at hx
  · rename_i d m hd; rw [opA_mono h hd]; exact hx
  · cases hx
theorem stepInst_mono {Φ Ψ : Oracle} (h : Φ.Le Ψ) {o : RInst} {env : Env} {mem : Mem} {r : Env × Mem} (hx : stepInst Φ o env mem = some r) : stepInst Ψ o env mem = some r := by
  unfold stepInst at hx ⊢
  split at hx
  · rename_i hg; exact stepGo_mono h hx
  · rename_i s want hg
    split at hx
    · exact stepGo_mono h hx
    · exact hx
    · cases hx
theorem execOps_mono {Φ Ψ : Oracle} (h : Φ.Le Ψ) : ∀ {os : List RInst} {env : Env} {mem : Mem} {r : Env × Mem}, execOps Φ os env mem = some r → execOps Ψ os env mem = some r
  | [], _, _, _, hx => hx
  | o :: os, env, mem, r, hx => by
    unfold execOps at hx ⊢
    split at hx
    · rename_i e m hs; rw [stepInst_mono h hs]; exact execOps_mono h hx
    · cases hx
theorem execDraw_mono {Φ Ψ : Oracle} (h : Φ.Le Ψ) {wl : List Nat} {sx : List (Nat × List Nat)} {all : List RInst} : ∀ {os : List RInst} {k : Nat} {env : Env} {mem : Mem} {r : Env × Mem}, execDraw Φ wl sx all os k env mem = some r → execDraw Ψ wl sx all os k env mem = some r
  | [], _, _, _, _, hx => hx
  | o :: os, k, env, mem, r, hx => by
    unfold execDraw at hx ⊢
    split at hx
    · rename_i e m hs; rw [stepInst_mono h hs]
      simp only at hx ⊢
      split at hx
      · rename_i hq; rw [if_pos hq]; exact execDraw_mono h hx
      · cases hx
    · cases hx
theorem exec_mono {Φ Ψ : Oracle} (h : Φ.Le Ψ) : ∀ {c : RCode} {env : Env} {mem : Mem} {r : RExit × Env × Mem}, exec Φ c env mem = some r → exec Ψ c env mem = some r := by
  intro c
  induction c with
  | skip => intro env mem r hx; exact hx
  | stop => intro env mem r hx; cases hx
  | region wl lv os =>
    intro env mem r hx
    cases wl with
    | none =>
      simp only [exec] at hx ⊢
      split at hx
      · rename_i e m hs; rw [execOps_mono h hs]; exact hx
      · cases hx
    | some wl =>
      obtain ⟨wl, sx⟩ := wl
      simp only [exec] at hx ⊢
      split at hx
      · rename_i e m hs; rw [execDraw_mono h hs]; exact hx
      · cases hx
  | seq a b iha ihb =>
    intro env mem r hx
    simp only [exec] at hx ⊢
    split at hx
    · rename_i e m hs; rw [iha hs]; exact ihb hx
    · rename_i hne
      rw [iha hx]
      obtain ⟨ex, e, m⟩ := r
      cases ex with
      | normal => exact absurd hx (hne e m)
      | exit id => rfl
      | ret => rfl
  | cond c x y ihx ihy =>
    intro env mem r hx
    simp only [exec] at hx ⊢
    split at hx
    · exact ihx hx
    · exact ihy hx
    · cases hx
  | block id c ih =>
    intro env mem r hx
    simp only [exec] at hx ⊢
    split at hx
    · rename_i id' e m hs; rw [ih hs]; exact hx
    · rename_i hne
      rw [ih hx]
      obtain ⟨ex, e, m⟩ := r
      cases ex with
      | normal => rfl
      | exit id => exact absurd hx (hne _ e m)
      | ret => rfl
  | loop id l c ih => intro env mem r hx; exact h.loop _ _ _ _ _ hx
  | cut id l out c ih =>
    intro env mem r hx
    simp only [exec] at hx ⊢
    split at hx
    · rename_i e m hs; rw [ih hs]; exact hx
    · rename_i hne
      rw [ih hx]
      obtain ⟨ex, e, m⟩ := r
      cases ex with
      | normal => exact absurd hx (hne e m)
      | exit id => rfl
      | ret => rfl
  | frame c ih =>
    intro env mem r hx
    simp only [exec] at hx ⊢
    split at hx
    · rename_i x e m hs; rw [ih hs]; exact hx
    · cases hx
  | exit id l => intro env mem r hx; exact hx
  | ret l => intro env mem r hx; exact hx

theorem callBody_mono {Φ Ψ : Oracle} (h : Φ.Le Ψ) {fn : RFunc} {ds : List AV} {mem : Mem} {r : AV × Mem} (hx : callBody Φ fn ds mem = some r) : callBody Ψ fn ds mem = some r := by
  unfold callBody at hx ⊢
  split at hx
  · rename_i hl
    rw [if_pos hl]
    split at hx
    · rename_i ex e m hs; rw [exec_mono h hs]; exact hx
    · cases hx
  · cases hx

theorem runF_step (Q : Prog) : ∀ n, (runF Q n).Le (runF Q (n + 1))
  | 0 => { call := fun f ds m r h => (by cases h), loop := fun l c e m r h => (by cases h) }
  | n + 1 => by
    have ih := runF_step Q n
    constructor
    · intro f ds m r h
      show (match Q.ext f with
        | some e => e ds m
        | none => match Q.fn f with
          | some fn => callBody (runF Q (n + 1)) fn ds m
          | none => none) = some r
      simp only [runF] at h
      cases he : Q.ext f with
      | some e => rw [he] at h; exact h
      | none =>
        rw [he] at h
        simp only at h ⊢
        cases hf : Q.fn f with
        | none => rw [hf] at h; cases h
        | some fn => rw [hf] at h; exact callBody_mono ih h
    · intro l c e m r h
      show (match exec (runF Q (n + 1)) c e m with
        | some (.normal, env', mem') => (runF Q (n + 1)).loop l c (only l env') mem'
        | r => r) = some r
      simp only [runF] at h
      split at h
      · rename_i e1 m1 hs; rw [exec_mono ih hs]; exact ih.loop _ _ _ _ _ h
      · rename_i hne
        rw [exec_mono ih h]
        obtain ⟨ex, e1, m1⟩ := r
        cases ex with
        | normal => exact absurd h (hne e1 m1)
        | exit id => rfl
        | ret => rfl
theorem runF_le (Q : Prog) {n m : Nat} (h : n ≤ m) : (runF Q n).Le (runF Q m) := by
  induction h with
  | refl => exact ⟨fun _ _ _ _ h => h, fun _ _ _ _ _ h => h⟩
  | step _ ih => exact ⟨fun f ds m r h => (runF_step Q _).call _ _ _ _ (ih.call _ _ _ _ h), fun l c e m r h => (runF_step Q _).loop _ _ _ _ _ (ih.loop _ _ _ _ _ h)⟩

open Classical in
/-- The run, for as long as it takes. -/
noncomputable def lim (Q : Prog) : Oracle :=
  ⟨fun f ds m => if h : ∃ n r, (runF Q n).call f ds m = some r then some (Classical.choose (Classical.choose_spec h)) else none,
   fun l c e m => if h : ∃ n r, (runF Q n).loop l c e m = some r then some (Classical.choose (Classical.choose_spec h)) else none⟩

theorem lim_call {Q : Prog} {f : FuncId} {ds : List AV} {m : Mem} {r : AV × Mem} : (lim Q).call f ds m = some r ↔ ∃ n, (runF Q n).call f ds m = some r := by
  unfold lim
  simp only
  constructor
  · intro h
    split at h
    · rename_i hh
      cases h
      exact ⟨_, Classical.choose_spec (Classical.choose_spec hh)⟩
    · cases h
  · rintro ⟨n, h⟩
    have hh : ∃ n r, (runF Q n).call f ds m = some r := ⟨n, r, h⟩
    rw [dif_pos hh]
    have h2 := Classical.choose_spec (Classical.choose_spec hh)
    rcases Nat.le_total n (Classical.choose hh) with hle | hle
    · exact h2.symm.trans ((runF_le Q hle).call _ _ _ _ h)
    · exact ((runF_le Q hle).call _ _ _ _ h2).symm.trans h
theorem lim_loop {Q : Prog} {l : List Nat} {c : RCode} {e : Env} {m : Mem} {r : RExit × Env × Mem} : (lim Q).loop l c e m = some r ↔ ∃ n, (runF Q n).loop l c e m = some r := by
  unfold lim
  simp only
  constructor
  · intro h
    split at h
    · rename_i hh
      cases h
      exact ⟨_, Classical.choose_spec (Classical.choose_spec hh)⟩
    · cases h
  · rintro ⟨n, h⟩
    have hh : ∃ n r, (runF Q n).loop l c e m = some r := ⟨n, r, h⟩
    rw [dif_pos hh]
    have h2 := Classical.choose_spec (Classical.choose_spec hh)
    rcases Nat.le_total n (Classical.choose hh) with hle | hle
    · exact h2.symm.trans ((runF_le Q hle).loop _ _ _ _ _ h)
    · exact ((runF_le Q hle).loop _ _ _ _ _ h2).symm.trans h

theorem opA_cont {Q : Prog} {k : OpK} {ds : List AV} {mem : Mem} {r : AV × Mem} (hx : opA (lim Q) k ds mem = some r) : ∃ n, opA (runF Q n) k ds mem = some r := by
  cases k <;> try exact ⟨0, hx⟩
  case call f => exact lim_call.1 hx
  case callv =>
    simp only [opA] at hx ⊢
    split at hx
    · exact lim_call.1 hx
    · cases hx
theorem stepGo_cont {Q : Prog} {o : RInst} {env : Env} {mem : Mem} {r : Env × Mem} (hx : stepGo (lim Q) o env mem = some r) : ∃ n, stepGo (runF Q n) o env mem = some r := by
  unfold stepGo at hx ⊢
  split at hx
  · rename_i d m hd
    obtain ⟨n, hn⟩ := opA_cont hd
    exact ⟨n, by rw [hn]; exact hx⟩
  · cases hx
theorem stepInst_cont {Q : Prog} {o : RInst} {env : Env} {mem : Mem} {r : Env × Mem} (hx : stepInst (lim Q) o env mem = some r) : ∃ n, stepInst (runF Q n) o env mem = some r := by
  unfold stepInst at hx ⊢
  split at hx
  · exact stepGo_cont hx
  · split at hx
    · exact stepGo_cont hx
    · exact ⟨0, hx⟩
    · cases hx
theorem execOps_cont {Q : Prog} : ∀ {os : List RInst} {env : Env} {mem : Mem} {r : Env × Mem}, execOps (lim Q) os env mem = some r → ∃ n, execOps (runF Q n) os env mem = some r
  | [], _, _, _, hx => ⟨0, hx⟩
  | o :: os, env, mem, r, hx => by
    unfold execOps at hx
    split at hx
    · rename_i e m hs
      obtain ⟨n, hn⟩ := stepInst_cont hs
      obtain ⟨k, hk⟩ := execOps_cont hx
      refine ⟨max n k, ?_⟩
      unfold execOps
      rw [stepInst_mono (runF_le Q (Nat.le_max_left n k)) hn]
      exact execOps_mono (runF_le Q (Nat.le_max_right n k)) hk
    · cases hx
theorem execDraw_cont {Q : Prog} {wl : List Nat} {sx : List (Nat × List Nat)} {all : List RInst} : ∀ {os : List RInst} {j : Nat} {env : Env} {mem : Mem} {r : Env × Mem}, execDraw (lim Q) wl sx all os j env mem = some r → ∃ n, execDraw (runF Q n) wl sx all os j env mem = some r
  | [], _, _, _, _, hx => ⟨0, hx⟩
  | o :: os, j, env, mem, r, hx => by
    unfold execDraw at hx
    split at hx
    · rename_i e m hs
      split at hx
      · rename_i hq
        obtain ⟨n, hn⟩ := stepInst_cont hs
        obtain ⟨k, hk⟩ := execDraw_cont hx
        refine ⟨max n k, ?_⟩
        unfold execDraw
        rw [stepInst_mono (runF_le Q (Nat.le_max_left n k)) hn]
        simp only [hq, if_true]
        exact execDraw_mono (runF_le Q (Nat.le_max_right n k)) hk
      · cases hx
    · cases hx
theorem exec_cont {Q : Prog} : ∀ {c : RCode} {env : Env} {mem : Mem} {r : RExit × Env × Mem}, exec (lim Q) c env mem = some r → ∃ n, exec (runF Q n) c env mem = some r := by
  intro c
  induction c with
  | skip => intro env mem r hx; exact ⟨0, hx⟩
  | stop => intro env mem r hx; cases hx
  | region wl lv os =>
    intro env mem r hx
    cases wl with
    | none =>
      simp only [exec] at hx ⊢
      split at hx
      · rename_i e m hs; obtain ⟨n, hn⟩ := execOps_cont hs; exact ⟨n, by rw [hn]; exact hx⟩
      · cases hx
    | some wl =>
      obtain ⟨wl, sx⟩ := wl
      simp only [exec] at hx ⊢
      split at hx
      · rename_i e m hs; obtain ⟨n, hn⟩ := execDraw_cont hs; exact ⟨n, by rw [hn]; exact hx⟩
      · cases hx
  | seq a b iha ihb =>
    intro env mem r hx
    simp only [exec] at hx ⊢
    split at hx
    · rename_i e m hs
      obtain ⟨n, hn⟩ := iha hs
      obtain ⟨k, hk⟩ := ihb hx
      refine ⟨max n k, ?_⟩
      rw [exec_mono (runF_le Q (Nat.le_max_left n k)) hn]
      exact exec_mono (runF_le Q (Nat.le_max_right n k)) hk
    · rename_i hne
      obtain ⟨n, hn⟩ := iha hx
      refine ⟨n, ?_⟩
      rw [hn]
      obtain ⟨ex, e, m⟩ := r
      cases ex with
      | normal => exact absurd hx (hne e m)
      | exit id => rfl
      | ret => rfl
  | cond c x y ihx ihy =>
    intro env mem r hx
    simp only [exec] at hx ⊢
    split at hx
    · exact ihx hx
    · exact ihy hx
    · cases hx
  | block id c ih =>
    intro env mem r hx
    simp only [exec] at hx ⊢
    split at hx
    · rename_i id' e m hs; obtain ⟨n, hn⟩ := ih hs; exact ⟨n, by rw [hn]; exact hx⟩
    · rename_i hne
      obtain ⟨n, hn⟩ := ih hx
      refine ⟨n, ?_⟩
      rw [hn]
      obtain ⟨ex, e, m⟩ := r
      cases ex with
      | normal => rfl
      | exit id => exact absurd hx (hne _ e m)
      | ret => rfl
  | loop id l c ih => intro env mem r hx; exact lim_loop.1 hx
  | cut id l out c ih =>
    intro env mem r hx
    simp only [exec] at hx ⊢
    split at hx
    · rename_i e m hs
      obtain ⟨n, hn⟩ := ih hs
      exact ⟨n, by rw [hn]; exact hx⟩
    · rename_i hne
      obtain ⟨n, hn⟩ := ih hx
      refine ⟨n, ?_⟩
      rw [hn]
      obtain ⟨ex, e, m⟩ := r
      cases ex with
      | normal => exact absurd hx (hne e m)
      | exit id => rfl
      | ret => rfl
  | frame c ih =>
    intro env mem r hx
    simp only [exec] at hx ⊢
    split at hx
    · rename_i x e m hs
      obtain ⟨n, hn⟩ := ih hs
      exact ⟨n, by rw [hn]; exact hx⟩
    · cases hx
  | exit id l => intro env mem r hx; exact ⟨0, hx⟩
  | ret l => intro env mem r hx; exact ⟨0, hx⟩

/-! ### The rules -/
theorem call_fn {Q : Prog} {f : FuncId} {fn : RFunc} {ds : List AV} {mem : Mem} {r : AV × Mem} (he : Q.ext f = none) (hf : Q.fn f = some fn) (h : callBody (lim Q) fn ds mem = some r) : (lim Q).call f ds mem = some r := by
  unfold callBody at h
  split at h
  · rename_i hl
    split at h
    · rename_i ex e m hs
      obtain ⟨n, hn⟩ := exec_cont hs
      refine lim_call.2 ⟨n + 1, ?_⟩
      simp only [runF, he, hf]
      unfold callBody
      rw [if_pos hl, hn]
      exact h
    · cases h
  · cases h
theorem call_ext {Q : Prog} {f : FuncId} {e : List AV → Mem → Option (AV × Mem)} {ds : List AV} {mem : Mem} {r : AV × Mem} (he : Q.ext f = some e) (h : e ds mem = some r) : (lim Q).call f ds mem = some r :=
  lim_call.2 ⟨1, by simp only [runF, he]; exact h⟩
theorem loop_on {Q : Prog} {l : List Nat} {c : RCode} {e e1 : Env} {m m1 : Mem} {r : RExit × Env × Mem} (h : exec (lim Q) c e m = some (.normal, e1, m1)) (h2 : (lim Q).loop l c (only l e1) m1 = some r) : (lim Q).loop l c e m = some r := by
  obtain ⟨n, hn⟩ := exec_cont h
  obtain ⟨k, hk⟩ := lim_loop.1 h2
  refine lim_loop.2 ⟨max n k + 1, ?_⟩
  simp only [runF]
  rw [exec_mono (runF_le Q (Nat.le_max_left n k)) hn]
  exact (runF_le Q (Nat.le_max_right n k)).loop _ _ _ _ _ hk
theorem loop_out {Q : Prog} {l : List Nat} {c : RCode} {e e1 : Env} {m m1 : Mem} {ex : RExit} (h : exec (lim Q) c e m = some (ex, e1, m1)) (hx : ex ≠ .normal) : (lim Q).loop l c e m = some (ex, e1, m1) := by
  obtain ⟨n, hn⟩ := exec_cont h
  refine lim_loop.2 ⟨n + 1, ?_⟩
  simp only [runF]
  rw [hn]
  cases ex with
  | normal => exact absurd rfl hx
  | exit id => rfl
  | ret => rfl

theorem lim_sound {P : Program} {Q : Prog} (hQ : ProgOk P Q) : CallOk P (lim Q) := by
  intro f ds mem d mem' h
  obtain ⟨n, hn⟩ := lim_call.1 h
  exact (run_sound hQ n).1 f ds mem d mem' hn
end Go.Eng
 end
