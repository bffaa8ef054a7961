/- The run in continuations: code, loops, functions; and calls at any memory.
   The tables of what is told; contracts of functions without a text, in continuations.
   From a run of the engine to what a row asks.
   What a call is given is read: values of plain types, with slices to any depth.
   A row that says 'true, the arguments as they were', out of a run on what the arguments are.
   What fits a type, taken apart.
   Tables of what is told, more of them. -/
import Derived.Test.YtlgpcmklpknmcaaDoorEk
import Derived.Test.YtlgpcmklpknmcaaDoorEi
import Derived.Below
import Derived.Deep.Slices
import Derived.Carry
import Derived.ProofKit
import Derived.OpenShut
 section
set_option linter.unusedVariables false
set_option linter.unusedSimpArgs false
set_option linter.unusedSectionVars false
namespace Go.Eng
 section
variable {R : Type}

def codeK (H : Hd) : RCode → Env → Mem → (RExit → Env → Mem → Option R) → Option R
  | .skip, env, mem, K => K .normal env mem
  | .stop, env, mem, K => none
  | .region dr live gs, env, mem, K => grpK H dr (flatG gs) gs 0 [] env mem fun F env' mem' => if F.all (fun t => !live.contains t) then K .normal (only live env') mem' else none
  | .seq a b, env, mem, K => codeK H a env mem fun x e m => match x with
    | .normal => codeK H b e m K
    | .exit id => K (.exit id) e m
    | .ret => K .ret e m
  | .cond c x y, env, mem, K => match c.ev env with
    | .bool b => cond b (codeK H x env mem K) (codeK H y env mem K)
    | _ => none
  | .block id c, env, mem, K => codeK H c env mem fun x e m => match x with
    | .normal => K .normal e m
    | .exit id' => if id' = id then K .normal e m else K (.exit id') e m
    | .ret => K .ret e m
  | .loop id live c, env, mem, K => H.loop id (only live env) mem K
  | .cut id live out c, env, mem, K => H.loop id (only live env) mem K
  | .frame c, env, mem, K => codeK H c env mem fun x e m => K x (scrubL mem.length e) (m.take mem.length)
  | .exit id live, env, mem, K => K (.exit id) (only live env) mem
  | .ret live, env, mem, K => K .ret (only live env) mem

def execCut (Φ : Oracle) (out : List Nat) (c : RCode) (env : Env) (mem : Mem) : Option (RExit × Env × Mem) :=
  match exec Φ c env mem with
  | some (.normal, env', mem') => some (.normal, only out env', mem')
  | r => r

/-- What is told of the loops and cuts of a piece of code is so. -/
def LoopsOk (Q : Prog) (H : Hd) : RCode → Prop
  | .loop id live c => ∀ e mem (R : Type) (K : RExit → Env → Mem → Option R) r, H.loop id (only live e) mem K = some r → ∃ x e1 m1, (lim Q).loop live c (only live e) mem = some (x, e1, m1) ∧ K x e1 m1 = some r
  | .cut id live out c => ∀ e mem (R : Type) (K : RExit → Env → Mem → Option R) r, H.loop id (only live e) mem K = some r → ∃ x e1 m1, execCut (lim Q) out c (only live e) mem = some (x, e1, m1) ∧ K x e1 m1 = some r
  | .seq a b => LoopsOk Q H a ∧ LoopsOk Q H b
  | .cond _ a b => LoopsOk Q H a ∧ LoopsOk Q H b
  | .block _ c => LoopsOk Q H c
  | .frame c => LoopsOk Q H c
  | _ => True

theorem only_same {F live : List Nat} {e e' : Env} (h : SameF F e e') (hF : F.all (fun t => !live.contains t) = true) : only live e = only live e' := by
  apply List.ext_getElem?
  intro i
  unfold only
  rw [List.getElem?_map, List.getElem?_map, List.getElem?_zipIdx, List.getElem?_zipIdx]
  by_cases hi : i < e.length
  · have hi' : i < e'.length := by rw [← h.len]; exact hi
    rw [List.getElem?_eq_getElem hi, List.getElem?_eq_getElem hi']
    simp only [Option.map_some, Nat.zero_add]
    by_cases hl : live.contains i = true
    · rw [if_pos hl, if_pos hl]
      have hn : i ∉ F := by
        intro hm
        have := List.all_eq_true.1 hF i hm
        rw [hl] at this; cases this
      have := h.get i hn
      rw [List.getD_eq_getElem?_getD, List.getD_eq_getElem?_getD, List.getElem?_eq_getElem hi, List.getElem?_eq_getElem hi'] at this
      simpa using this
    · rw [if_neg hl, if_neg hl]
  · rw [List.getElem?_eq_none (Nat.le_of_not_lt hi), List.getElem?_eq_none (by rw [← h.len]; omega)]

theorem codeK_sound {Q : Prog} {H : Hd} (hH : HdCalls Q H) : ∀ {c : RCode} (hL : LoopsOk Q H c) {env : Env} {mem : Mem} {K : RExit → Env → Mem → Option R} {r : R}, codeK H c env mem K = some r →
    ∃ x e1 m1, exec (lim Q) c env mem = some (x, e1, m1) ∧ K x e1 m1 = some r := by
  intro c
  induction c with
  | skip => intro _ env mem K r h; exact ⟨_, _, _, rfl, h⟩
  | stop => intro _ env mem K r h; cases h
  | region dr live gs =>
    intro _ env mem K r h
    simp only [codeK] at h
    obtain ⟨F1, e1, e1', m1, h1, h2, h3⟩ := grpK_sound hH (F := []) ⟨rfl, fun _ _ => rfl⟩ h
    simp only [Option.ite_none_right_eq_some] at h3
    obtain ⟨h4, h3⟩ := h3
    rw [only_same h2 h4] at h3
    refine ⟨_, _, _, ?_, h3⟩
    cases dr with
    | none =>
      simp only [execX] at h1
      simp only [exec, h1]
    | some p =>
      obtain ⟨wl, sx⟩ := p
      simp only [execX] at h1
      simp only [exec, h1]
  | seq a b iha ihb =>
    intro hL env mem K r h
    simp only [codeK] at h
    obtain ⟨x, e1, m1, h1, h2⟩ := iha hL.1 h
    cases x with
    | normal =>
      obtain ⟨x2, e2, m2, h3, h4⟩ := ihb hL.2 h2
      exact ⟨x2, e2, m2, by simp only [exec, h1, h3], h4⟩
    | exit id => exact ⟨_, e1, m1, by simp only [exec, h1], h2⟩
    | ret => exact ⟨_, e1, m1, by simp only [exec, h1], h2⟩
  | cond o a b iha ihb =>
    intro hL env mem K r h
    simp only [codeK] at h
    split at h
    · rename_i q hq
      cases q with
      | true =>
        obtain ⟨x, e1, m1, h1, h2⟩ := iha hL.1 h
        exact ⟨x, e1, m1, by simp only [exec, hq, h1], h2⟩
      | false =>
        obtain ⟨x, e1, m1, h1, h2⟩ := ihb hL.2 h
        exact ⟨x, e1, m1, by simp only [exec, hq, h1], h2⟩
    · cases h
  | block id c ih =>
    intro hL env mem K r h
    simp only [codeK] at h
    obtain ⟨x, e1, m1, h1, h2⟩ := ih hL h
    cases x with
    | normal => exact ⟨_, e1, m1, by simp only [exec, h1], h2⟩
    | exit id' =>
      simp only at h2
      split at h2
      · rename_i hid; exact ⟨_, e1, m1, by simp only [exec, h1, if_pos hid], h2⟩
      · rename_i hid; exact ⟨_, e1, m1, by simp only [exec, h1, if_neg hid], h2⟩
    | ret => exact ⟨_, e1, m1, by simp only [exec, h1], h2⟩
  | loop id live c ih =>
    intro hL env mem K r h
    simp only [codeK] at h
    obtain ⟨x, e1, m1, h1, h2⟩ := hL env mem R K r h
    exact ⟨x, e1, m1, h1, h2⟩
  | cut id live out c ih =>
    intro hL env mem K r h
    simp only [codeK] at h
    obtain ⟨x, e1, m1, h1, h2⟩ := hL env mem R K r h
    exact ⟨x, e1, m1, h1, h2⟩
  | frame c ih =>
    intro hL env mem K r h
    simp only [codeK] at h
    obtain ⟨x, e1, m1, h1, h2⟩ := ih hL h
    exact ⟨x, _, _, by simp only [exec, h1], h2⟩
  | exit id live => intro _ env mem K r h; exact ⟨_, _, _, rfl, h⟩
  | ret live => intro _ env mem K r h; exact ⟨_, _, _, rfl, h⟩
 end

/-! ### Environments of a known form -/
def AV.isJunk : AV → Bool
  | .junk => true
  | _ => false
theorem isJunk_eq {d : AV} (h : d.isJunk = true) : d = .junk := by cases d <;> first | rfl | cases h
def mkEnv (n : Nat) (ks : List Nat) (ds : List AV) : Env := (List.range n).map fun i => ((ks.zip ds).lookup i).getD .junk
def canon (n : Nat) (ks : List Nat) (e : Env) : Bool := e.length == n && e.zipIdx.all fun (d, i) => ks.contains i || d.isJunk
theorem lookup_zip {f : Nat → AV} (i : Nat) : ∀ (ks : List Nat) (rest : List AV), (ks.zip (ks.map f ++ rest)).lookup i = if ks.contains i then some (f i) else none
  | [], rest => by simp
  | k :: ks, rest => by
    simp only [List.map_cons, List.cons_append, List.zip_cons_cons, List.lookup_cons]
    by_cases h : i = k
    · subst h; simp
    · have h1 : (i == k) = false := by simpa using h
      rw [h1, lookup_zip i ks rest]
      have h2 : (k :: ks).contains i = ks.contains i := by simp only [List.contains_cons, h1, Bool.false_or]
      rw [h2]
theorem mkEnv_canon {n : Nat} {ks : List Nat} {e : Env} (h : canon n ks e = true) (rest : List AV) : mkEnv n ks ((ks.map (fun k => e.getD k .junk) ++ rest).take ks.length) = e := by
  rw [List.take_left' (by simp)]
  have happ : ks.map (fun k => e.getD k .junk) = ks.map (fun k => e.getD k .junk) ++ [] := by simp
  rw [happ]
  unfold canon at h
  simp only [Bool.and_eq_true, beq_iff_eq] at h
  obtain ⟨rfl, h⟩ := h
  unfold mkEnv
  apply List.ext_getElem?
  intro i
  rw [List.getElem?_map]
  by_cases hi : i < e.length
  · rw [List.getElem?_range hi]
    simp only [Option.map_some]
    rw [lookup_zip i ks []]
    have hget : e[i]? = some e[i] := List.getElem?_eq_getElem hi
    by_cases hk : ks.contains i = true
    · rw [if_pos hk, List.getD_eq_getElem?_getD, hget]; rfl
    · rw [if_neg hk, hget]
      have := all_zipIdx h hget
      simp only [hk, Bool.false_or] at this
      rw [isJunk_eq this]; rfl
  · have hr : (List.range e.length)[i]? = none := by rw [List.getElem?_eq_none]; simpa using hi
    rw [hr, List.getElem?_eq_none (Nat.le_of_not_lt hi)]; rfl
theorem cells_agg (m : Mem) : (m.map AV.agg).map AV.cells = m := by
  rw [List.map_map]
  have : AV.cells ∘ AV.agg = id := by funext x; rfl
  rw [this, List.map_id]

/-- How an exit's state is written, and read. -/
structure XCod (α : Type) where
  dec : RExit → Env → Mem → Option α
  enc : α → RExit × Env × Mem
  el : α → {R : Type} → (RExit → Env → Mem → Option R) → Option R
  ok : ∀ x e m v, dec x e m = some v → enc v = (x, e, m)
  eok : ∀ v (R : Type) (K : RExit → Env → Mem → Option R), el v K = K (enc v).1 (enc v).2.1 (enc v).2.2

def XCod.one {α : Type} (x : RExit) (n : Nat) (ks : List Nat) (c : CodL α) : XCod α where
  dec x' e m := if x' = x ∧ canon n ks e = true then c.dec (ks.map (fun k => e.getD k .junk) ++ m.map .agg) else none
  enc v := (x, mkEnv n ks ((c.enc v).take ks.length), ((c.enc v).drop ks.length).map AV.cells)
  el v _ K := K x (mkEnv n ks ((c.enc v).take ks.length)) (((c.enc v).drop ks.length).map AV.cells)
  ok x' e m v h := by
    simp only [Option.ite_none_right_eq_some] at h
    obtain ⟨⟨rfl, hc⟩, h⟩ := h
    have := c.ok _ _ h
    rw [← this, mkEnv_canon hc]
    congr 2
    rw [List.drop_append_of_le_length (by simp), List.drop_of_length_le (by simp), List.nil_append, cells_agg]
  eok v R K := rfl
def XCod.alt {α β : Type} (x : RExit) (a : XCod α) (b : XCod β) : XCod (α ⊕ β) where
  dec x' e m := if x' = x then (a.dec x' e m).map .inl else (b.dec x' e m).map .inr
  enc v := match v with
    | .inl v => a.enc v
    | .inr v => b.enc v
  el v _ K := Sum.elim (fun v => a.el v K) (fun v => b.el v K) v
  ok x' e m v h := by
    split at h
    · obtain ⟨w, h1, rfl⟩ := Option.map_eq_some_iff.1 h; exact a.ok _ _ _ _ h1
    · obtain ⟨w, h1, rfl⟩ := Option.map_eq_some_iff.1 h; exact b.ok _ _ _ _ h1
  eok v R K := by
    cases v with
    | inl v => exact a.eok v R K
    | inr v => exact b.eok v R K

/-! ### Loops, cuts, functions as they are told -/
noncomputable def LoopU {β : Type} (Q : Prog) (live : List Nat) (c : RCode) (env : Env) (mem : Mem) (X : XCod β) : Option β := ((lim Q).loop live c env mem).bind fun r => X.dec r.1 r.2.1 r.2.2
noncomputable def CutU {β : Type} (Q : Prog) (out : List Nat) (c : RCode) (env : Env) (mem : Mem) (X : XCod β) : Option β := (execCut (lim Q) out c env mem).bind fun r => X.dec r.1 r.2.1 r.2.2
noncomputable def FnU {β : Type} (Q : Prog) (f : FuncId) (ds : List AV) (mem : Mem) (c : CodL β) : Option β := ((lim Q).call f ds mem).bind fun r => c.dec (r.1 :: r.2.map .agg)

def stateDec {α : Type} (n : Nat) (ks : List Nat) (c : CodL α) (env : Env) (mem : Mem) : Option α := if canon n ks env = true then c.dec (ks.map (fun k => env.getD k .junk) ++ mem.map .agg) else none
theorem stateDec_ok {α : Type} {n : Nat} {ks : List Nat} {c : CodL α} {env : Env} {mem : Mem} {v : α} (h : stateDec n ks c env mem = some v) : env = mkEnv n ks ((c.enc v).take ks.length) ∧ mem = ((c.enc v).drop ks.length).map AV.cells := by
  have := (XCod.one .normal n ks c).ok .normal env mem v (by
    unfold stateDec at h
    simp only [XCod.one, true_and]; exact h)
  simp only [XCod.one, Prod.mk.injEq, true_and] at this
  exact ⟨this.1.symm, this.2.symm⟩

def loopH {α β R : Type} (n : Nat) (ks : List Nat) (c : CodL α) (X : XCod β) (F : α → Option β) (env : Env) (mem : Mem) (K : RExit → Env → Mem → Option R) : Option R :=
  (stateDec n ks c env mem).bind fun v => (F v).bind fun w => X.el w K

theorem loopH_ok {α β R : Type} {Q : Prog} {n : Nat} {ks live : List Nat} {c : CodL α} {X : XCod β} {F : α → Option β} {body : RCode} (hF : ∀ v, F v = LoopU Q live body (mkEnv n ks ((c.enc v).take ks.length)) (((c.enc v).drop ks.length).map AV.cells) X)
    {env : Env} {mem : Mem} {K : RExit → Env → Mem → Option R} {r : R} (h : loopH n ks c X F env mem K = some r) : ∃ x e1 m1, (lim Q).loop live body env mem = some (x, e1, m1) ∧ K x e1 m1 = some r := by
  unfold loopH at h
  cases hv : stateDec n ks c env mem with
  | none => rw [hv] at h; cases h
  | some v =>
    rw [hv] at h
    simp only [Option.bind_some] at h
    cases hw : F v with
    | none => rw [hw] at h; cases h
    | some w =>
      rw [hw] at h
      simp only [Option.bind_some, X.eok] at h
      obtain ⟨e1, e2⟩ := stateDec_ok hv
      rw [hF, ← e1, ← e2] at hw
      unfold LoopU at hw
      cases hl : (lim Q).loop live body env mem with
      | none => rw [hl] at hw; cases hw
      | some p =>
        rw [hl] at hw
        simp only [Option.bind_some] at hw
        have := X.ok _ _ _ _ hw
        rw [this] at h
        exact ⟨_, _, _, rfl, h⟩
theorem cutH_ok {α β R : Type} {Q : Prog} {n : Nat} {ks out : List Nat} {c : CodL α} {X : XCod β} {F : α → Option β} {body : RCode} (hF : ∀ v, F v = CutU Q out body (mkEnv n ks ((c.enc v).take ks.length)) (((c.enc v).drop ks.length).map AV.cells) X)
    {env : Env} {mem : Mem} {K : RExit → Env → Mem → Option R} {r : R} (h : loopH n ks c X F env mem K = some r) : ∃ x e1 m1, execCut (lim Q) out body env mem = some (x, e1, m1) ∧ K x e1 m1 = some r := by
  unfold loopH at h
  cases hv : stateDec n ks c env mem with
  | none => rw [hv] at h; cases h
  | some v =>
    rw [hv] at h
    simp only [Option.bind_some] at h
    cases hw : F v with
    | none => rw [hw] at h; cases h
    | some w =>
      rw [hw] at h
      simp only [Option.bind_some, X.eok] at h
      obtain ⟨e1, e2⟩ := stateDec_ok hv
      rw [hF, ← e1, ← e2] at hw
      unfold CutU at hw
      cases hl : execCut (lim Q) out body env mem with
      | none => rw [hl] at hw; cases hw
      | some p =>
        rw [hl] at hw
        simp only [Option.bind_some] at hw
        have := X.ok _ _ _ _ hw
        rw [this] at h
        exact ⟨_, _, _, rfl, h⟩

/-- One round: on, or out. -/
def roundK {α β : Type} (live : List Nat) (n : Nat) (ks : List Nat) (c : CodL α) (X : XCod β) (F : α → Option β) (x : RExit) (e : Env) (m : Mem) : Option β := match x with
  | .normal => (stateDec n ks c (only live e) m).bind F
  | .exit id => X.dec (.exit id) e m
  | .ret => X.dec .ret e m
theorem round_ok {α β : Type} {Q : Prog} {H : Hd} (hH : HdCalls Q H) {n : Nat} {ks live : List Nat} {c : CodL α} {X : XCod β} {F : α → Option β} {body : RCode} (hL : LoopsOk Q H body)
    (hF : ∀ v, F v = LoopU Q live body (mkEnv n ks ((c.enc v).take ks.length)) (((c.enc v).drop ks.length).map AV.cells) X) {env : Env} {mem : Mem} {w : β} (h : codeK H body env mem (roundK live n ks c X F) = some w) : LoopU Q live body env mem X = some w := by
  obtain ⟨x, e1, m1, h1, h2⟩ := codeK_sound hH hL h
  cases x with
  | normal =>
    simp only [roundK] at h2
    cases hv : stateDec n ks c (only live e1) m1 with
    | none => rw [hv] at h2; cases h2
    | some v =>
      rw [hv] at h2
      simp only [Option.bind_some] at h2
      obtain ⟨g1, g2⟩ := stateDec_ok hv
      rw [hF, ← g1, ← g2] at h2
      unfold LoopU at h2 ⊢
      cases hl : (lim Q).loop live body (only live e1) m1 with
      | none => rw [hl] at h2; cases h2
      | some p => rw [hl] at h2; rw [loop_on h1 hl]; exact h2
  | exit id =>
    unfold LoopU
    rw [loop_out h1 (by simp)]; exact h2
  | ret =>
    unfold LoopU
    rw [loop_out h1 (by simp)]; exact h2
def cutK {β : Type} (out : List Nat) (X : XCod β) (x : RExit) (e : Env) (m : Mem) : Option β := match x with
  | .normal => X.dec .normal (only out e) m
  | .exit id => X.dec (.exit id) e m
  | .ret => X.dec .ret e m
theorem cut_ok {β : Type} {Q : Prog} {H : Hd} (hH : HdCalls Q H) {out : List Nat} {X : XCod β} {body : RCode} (hL : LoopsOk Q H body) {env : Env} {mem : Mem} {w : β} (h : codeK H body env mem (cutK out X) = some w) : CutU Q out body env mem X = some w := by
  obtain ⟨x, e1, m1, h1, h2⟩ := codeK_sound hH hL h
  unfold CutU execCut
  rw [h1]
  cases x <;> exact h2
def finK {β : Type} (fn : RFunc) (l0 : Nat) (c : CodL β) (x : RExit) (e : Env) (m : Mem) : Option β := match x with
  | .exit _ => none
  | _ => match resAVs e m fn.results with
    | some ds => if fn.keep || m.length == l0 then c.dec (pack ds :: m.map .agg) else c.dec ((pack ds).scrub l0 :: (m.take l0).map .agg)
    | none => none
theorem fn_ok {β : Type} {Q : Prog} {H : Hd} (hH : HdCalls Q H) {f : FuncId} {fn : RFunc} (he : Q.ext f = none) (hf : Q.fn f = some fn) (hL : LoopsOk Q H fn.body) {ds : List AV} {mem : Mem} {c : CodL β} {w : β} (hlen : ds.length ≤ fn.ntmps)
    (h : codeK H fn.body (ds ++ List.replicate (fn.ntmps - ds.length) .junk) mem (finK fn mem.length c) = some w) : FnU Q f ds mem c = some w := by
  obtain ⟨x, e1, m1, h1, h2⟩ := codeK_sound hH hL h
  have key : ∀ q, callBody (lim Q) fn ds mem = some q → c.dec (q.1 :: q.2.map .agg) = some w → FnU Q f ds mem c = some w := by
    intro q hq hw
    unfold FnU
    rw [call_fn he hf hq]; exact hw
  unfold callBody at key
  simp only [if_pos hlen, h1] at key
  unfold finK at h2
  split at h2
  · cases h2
  · rename_i hne
    cases hr : resAVs e1 m1 fn.results with
    | none => rw [hr] at h2; cases h2
    | some us =>
      rw [hr] at h2 key
      simp only at h2 key
      have key2 : ∀ q, (if fn.keep || m1.length == mem.length then some (pack us, m1) else some ((pack us).scrub mem.length, m1.take mem.length)) = some q → c.dec (q.1 :: q.2.map .agg) = some w → FnU Q f ds mem c = some w := by
        intro q hq hw
        cases x with
        | exit id => exact absurd rfl (hne id)
        | normal => exact key q hq hw
        | ret => exact key q hq hw
      split at h2
      · rename_i hk; exact key2 _ (if_pos hk) h2
      · rename_i hk; exact key2 _ (if_neg hk) h2

/-! ### Calls at any memory -/
/-- The variables handed in, in order; what is made behind them. -/
def rhoL (bs : List Nat) (L : Nat) (c : Nat) : Nat := match bs[c]? with
  | some b => b
  | none => L + (c - bs.length)
def incr : List Nat → Bool
  | [] => true
  | [_] => true
  | a :: b :: l => decide (a < b) && incr (b :: l)
theorem incr_lt : ∀ {l : List Nat}, incr l = true → ∀ {i j a b : Nat}, i < j → l[i]? = some a → l[j]? = some b → a < b
  | [], _, i, j, a, b, hij, ha, hb => by simp at ha
  | [x], _, i, j, a, b, hij, ha, hb => by
    have := lt_of_get hb; simp at this; omega
  | x :: y :: l, h, i, j, a, b, hij, ha, hb => by
    simp only [incr, Bool.and_eq_true, decide_eq_true_eq] at h
    match j, hij, hb with
    | j + 1, hij, hb =>
      simp only [List.getElem?_cons_succ] at hb
      cases i with
      | zero =>
        simp at ha; subst ha
        cases j with
        | zero => simp at hb; subst hb; exact h.1
        | succ j =>
          have := incr_lt h.2 (i := 0) (j := j + 1) (by omega) rfl hb
          omega
      | succ i =>
        simp only [List.getElem?_cons_succ] at ha
        exact incr_lt h.2 (by omega) ha hb
def setAll : Mem → List Nat → Mem → Mem
  | M, b :: bs, cs :: css => setAll (M.set b cs) bs css
  | M, _, _ => M
theorem setAll_len : ∀ (bs : List Nat) (css M : Mem), (setAll M bs css).length = M.length
  | [], css, M => by simp only [setAll]
  | b :: bs, [], M => rfl
  | b :: bs, cs :: css, M => by simp [setAll, setAll_len bs css]
theorem setAll_off : ∀ (bs : List Nat) (css M : Mem) (x : Nat), x ∉ bs → (setAll M bs css)[x]? = M[x]?
  | [], css, M, x, h => by simp only [setAll]
  | b :: bs, [], M, x, h => rfl
  | b :: bs, cs :: css, M, x, h => by
    simp only [List.mem_cons, not_or] at h
    simp only [setAll]
    rw [setAll_off bs css _ x h.2, List.getElem?_set_ne (Ne.symm h.1)]
theorem setAll_at : ∀ (bs : List Nat) (css M : Mem) (i b : Nat), incr bs = true → bs.length = css.length → bs[i]? = some b → b < M.length → (setAll M bs css)[b]? = css[i]?
  | [], css, M, i, b, h, hl, hb, hlt => by simp at hb
  | x :: bs, [], M, i, b, h, hl, hb, hlt => by simp at hl
  | x :: bs, cs :: css, M, i, b, h, hl, hb, hlt => by
    simp only [setAll]
    cases i with
    | zero =>
      simp at hb; subst hb
      have hn : x ∉ bs := by
        intro hm
        obtain ⟨j, hj⟩ := List.getElem?_of_mem hm
        have := incr_lt h (i := 0) (j := j + 1) (by omega) rfl (by simpa using hj)
        omega
      rw [setAll_off bs css _ x hn, List.getElem?_set_self hlt]; rfl
    | succ i =>
      have h' : incr bs = true := by
        cases bs with
        | nil => rfl
        | cons y l => simp only [incr, Bool.and_eq_true] at h; exact h.2
      rw [List.getElem?_cons_succ]
      exact setAll_at bs css _ i b h' (by simpa using hl) (by simpa using hb) (by simpa using hlt)

theorem rhoL_ok {bs : List Nat} {L : Nat} (hi : incr bs = true) (hb : ∀ b ∈ bs, b < L) : RenOk (rhoL bs L) bs.length L := by
  refine ⟨fun a c h => ?_, fun a h => ?_, fun a h => ?_⟩
  · unfold rhoL
    cases ha : bs[a]? with
    | some x =>
      cases hc : bs[c]? with
      | some y => exact incr_lt hi h ha hc
      | none => have := hb x (List.mem_of_getElem? ha); simp only; omega
    | none =>
      have := List.getElem?_eq_none_iff.1 ha
      rw [List.getElem?_eq_none (by omega)]
      simp only; omega
  · unfold rhoL
    rw [List.getElem?_eq_getElem h]
    exact hb _ (List.getElem_mem h)
  · unfold rhoL
    rw [List.getElem?_eq_none h]

/-- **A call told in the memory of what is handed in is told in any.** -/
theorem call_any {Q : Prog} (hQ : ProgRen Q) {f : FuncId} {ds : List AV} {d : AV} {css css' : Mem} (h : (lim Q).call f ds css = some (d, css')) {bs : List Nat} {M : Mem} (hi : incr bs = true) (hl : bs.length = css.length) (hl' : css'.length = css.length)
    (hb : ∀ (i : Nat) b, bs[i]? = some b → M[b]? = css[i]?) (hc : ∀ cs ∈ css, noPtrL cs = true) (hc' : ∀ cs ∈ css', noPtrL cs = true) (hd : d.noPtr = true) : (lim Q).call f (renL (rhoL bs M.length) ds) M = some (d, setAll M bs css') := by
  have hlt : ∀ b ∈ bs, b < M.length := by
    intro b hm
    obtain ⟨i, hi⟩ := List.getElem?_of_mem hm
    have h1 := hb i b hi
    have h2 : i < css.length := by rw [← hl]; exact lt_of_get hi
    rw [List.getElem?_eq_getElem h2] at h1
    exact lt_of_get h1
  have R := rhoL_ok hi hlt
  have S : Sim (rhoL bs M.length) bs.length M.length css M := by
    refine ⟨by omega, by omega, fun b hbl => ?_⟩
    have hbs : b < bs.length := by omega
    have hg : bs[b]? = some bs[b] := List.getElem?_eq_getElem hbs
    have hr : rhoL bs M.length b = bs[b] := by unfold rhoL; rw [hg]
    rw [hr, hb b _ hg]
    rw [List.getElem?_eq_getElem hbl]
    simp only [Option.map_some]
    rw [renL_id (hc _ (List.getElem_mem hbl))]
  obtain ⟨M', h1, S', hO, _⟩ := lim_ren hQ R h S
  rw [ren_id hd] at h1
  have hM : M' = setAll M bs css' := by
    have hlen : M'.length = M.length := by have := S'.len; omega
    apply List.ext_getElem?
    intro x
    by_cases hx : x ∈ bs
    · obtain ⟨i, hix⟩ := List.getElem?_of_mem hx
      have hil : i < css'.length := by have := lt_of_get hix; omega
      have h2 := S'.get i hil
      have hr : rhoL bs M.length i = x := by unfold rhoL; rw [hix]
      rw [hr, List.getElem?_eq_getElem hil] at h2
      simp only [Option.map_some] at h2
      rw [renL_id (hc' _ (List.getElem_mem hil))] at h2
      rw [h2, setAll_at bs css' M i x hi (by omega) hix (hlt x hx), List.getElem?_eq_getElem hil]
    · rw [setAll_off bs css' M x hx]
      rcases Nat.lt_or_ge x M.length with hlx | hge
      · refine hO x fun c e => ?_
        unfold rhoL at e
        cases hc2 : bs[c]? with
        | some b => rw [hc2] at e; simp only at e; subst e; exact hx (List.mem_of_getElem? hc2)
        | none => rw [hc2] at e; simp only at e; omega
      · rw [List.getElem?_eq_none hge, List.getElem?_eq_none (by omega)]
  rw [hM] at h1; exact h1

/-- A function that is handed no pointer. -/
theorem fnU_any {β : Type} {Q : Prog} (hQ : ProgRen Q) {f : FuncId} {ds : List AV} {c : Cod β} {v : β} (h : FnU Q f ds [] (.one c) = some v) (hfr : c.fr = true) (hds : noPtrL ds = true) (M : Mem) : (lim Q).call f ds M = some (c.enc v, M) := by
  unfold FnU at h
  cases hc : (lim Q).call f ds [] with
  | none => rw [hc] at h; cases h
  | some p =>
    obtain ⟨d, m⟩ := p
    rw [hc] at h
    simp only [Option.bind_some, CodL.one] at h
    cases m with
    | nil =>
      have e := c.ok _ _ h
      rw [e] at hc
      exact lim_frame hQ hc hds (c.free hfr v) M
    | cons x m => cases h
end Go.Eng
 end

 section
set_option linter.unusedVariables false
set_option linter.unusedSimpArgs false
set_option linter.unusedSectionVars false
namespace Go.Eng

def mkAnn (tk : List (Nat × Nat × List Bool)) (live : List (Nat × List Nat)) (keep : Bool) (wl : List (Nat × List Nat)) (sx : List (Nat × List (Nat × List Nat))) (out : List (Nat × List Nat)) (mac : List (Nat × Nat))
    (nk : List (Nat × Nat × List Nat)) (cut : List (Nat × List Nat × List Nat)) (exl : List (Nat × List Nat)) (ret : List Nat) (res : List Bool) (sg : List (Nat × List (Nat × Option Nat))) (sh : List (Nat × Nat × Sh)) (fr : List Nat) : Ann where
  tk r i := ((tk.find? fun x => x.1 == r && x.2.1 == i).map (·.2.2)).getD []
  live r := (live.lookup r).getD []
  keep := keep
  wl r := (wl.lookup r).getD []
  sx r := (sx.lookup r).getD []
  out r := (out.lookup r).getD []
  mac r := mac.lookup r
  nk r i := ((nk.find? fun x => x.1 == r && x.2.1 == i).map (·.2.2)).getD []
  cut r := cut.lookup r
  exl r := (exl.lookup r).getD []
  ret := ret
  res := res
  sg r := (sg.lookup r).getD []
  sh r i := ((sh.find? fun x => x.1 == r && x.2.1 == i).map (·.2.2)).getD .any
  fr r := fr.contains r

def argEnv (n : Nat) (ds : List AV) : Env := ds ++ List.replicate (n - ds.length) .junk

/-! ### What is told of loops: of a piece of code from its parts -/
def noLoops : RCode → Bool
  | .loop _ _ _ => false
  | .cut _ _ _ _ => false
  | .seq a b => noLoops a && noLoops b
  | .cond _ a b => noLoops a && noLoops b
  | .block _ c => noLoops c
  | .frame c => noLoops c
  | _ => true
theorem lo_none {Q : Prog} {H : Hd} : ∀ {c : RCode}, noLoops c = true → LoopsOk Q H c := by
  intro c
  induction c with
  | seq a b iha ihb => intro h; simp only [noLoops, Bool.and_eq_true] at h; exact ⟨iha h.1, ihb h.2⟩
  | cond o a b iha ihb => intro h; simp only [noLoops, Bool.and_eq_true] at h; exact ⟨iha h.1, ihb h.2⟩
  | block i c ih => intro h; exact ih h
  | frame c ih => intro h; exact ih h
  | loop i l c ih => intro h; cases h
  | cut i l o c ih => intro h; cases h
  | skip => intro h; trivial
  | stop => intro h; trivial
  | region d l g => intro h; trivial
  | exit i l => intro h; trivial
  | ret l => intro h; trivial
theorem lo_seq {Q : Prog} {H : Hd} {a b : RCode} (h : LoopsOk Q H a) (k : LoopsOk Q H b) : LoopsOk Q H (.seq a b) := ⟨h, k⟩
theorem lo_cond {Q : Prog} {H : Hd} {o : Opd} {a b : RCode} (h : LoopsOk Q H a) (k : LoopsOk Q H b) : LoopsOk Q H (.cond o a b) := ⟨h, k⟩
theorem lo_block {Q : Prog} {H : Hd} {i : Nat} {c : RCode} (h : LoopsOk Q H c) : LoopsOk Q H (.block i c) := h
theorem lo_frame {Q : Prog} {H : Hd} {c : RCode} (h : LoopsOk Q H c) : LoopsOk Q H (.frame c) := h
theorem lo_loop {Q : Prog} {H : Hd} {i : Nat} {l : List Nat} {c : RCode} (h : ∀ e mem (R : Type) (K : RExit → Env → Mem → Option R) r, H.loop i (only l e) mem K = some r → ∃ x e1 m1, (lim Q).loop l c (only l e) mem = some (x, e1, m1) ∧ K x e1 m1 = some r) : LoopsOk Q H (.loop i l c) := h
theorem lo_cut {Q : Prog} {H : Hd} {i : Nat} {l o : List Nat} {c : RCode} (h : ∀ e mem (R : Type) (K : RExit → Env → Mem → Option R) r, H.loop i (only l e) mem K = some r → ∃ x e1 m1, execCut (lim Q) o c (only l e) mem = some (x, e1, m1) ∧ K x e1 m1 = some r) : LoopsOk Q H (.cut i l o c) := h

theorem lookup_mem {β : Type} {l : List (Nat × β)} {a : Nat} {b : β} (h : l.lookup a = some b) : (a, b) ∈ l := by
  induction l with
  | nil => cases h
  | cons x l ih =>
    obtain ⟨k, v⟩ := x
    rw [List.lookup_cons] at h
    split at h
    · rename_i he; cases h; rw [beq_iff_eq] at he; subst he; exact List.mem_cons_self
    · exact List.mem_cons_of_mem _ (ih h)

structure CallT where
  f : FuncId
  quiet : Bool
  run : List AV → Mem → {R : Type} → (AV → Mem → Option R) → Option R
structure LoopT where
  id : Nat
  run : Env → Mem → {R : Type} → (RExit → Env → Mem → Option R) → Option R
def mkHd (l : List CallT) (lp : List LoopT) : Hd where
  call f ds mem _ K := match l.find? (fun t => t.f == f) with
    | some t => t.run ds mem K
    | none => none
  loop id env mem _ K := match lp.find? (fun t => t.id == id) with
    | some t => t.run env mem K
    | none => none
  quiet f := match l.find? (fun t => t.f == f) with
    | some t => t.quiet
    | none => false
def CallT.Ok (Q : Prog) (t : CallT) : Prop := ∀ ds mem (R : Type) (K : AV → Mem → Option R) r, t.run ds mem K = some r → ∃ d mem', (lim Q).call t.f ds mem = some (d, mem') ∧ (t.quiet = true → mem' = mem) ∧ K d mem' = some r
theorem mkHd_ok {Q : Prog} {l : List CallT} {lp : List LoopT} (h : ∀ t ∈ l, t.Ok Q) : HdCalls Q (mkHd l lp) := by
  intro f ds mem R K r hr
  simp only [mkHd] at hr
  split at hr
  · rename_i t ht
    have hf : t.f = f := by have := List.find?_some ht; simpa using this
    obtain ⟨d, m, h1, h2, h3⟩ := h t (List.mem_of_find?_eq_some ht) ds mem R K r hr
    refine ⟨d, m, by rw [← hf]; exact h1, fun hq => h2 ?_, h3⟩
    simp only [mkHd, ht] at hq; exact hq
  · cases hr

theorem mkHd_loop {l : List CallT} {lp : List LoopT} {i : Nat} {t : LoopT} (h : lp.find? (fun t => t.id == i) = some t) {env : Env} {mem : Mem} {R : Type} {K : RExit → Env → Mem → Option R} : (mkHd l lp).loop i env mem K = t.run env mem K := by
  simp only [mkHd, h]
def LoopT.OkL (Q : Prog) (t : LoopT) (live : List Nat) (c : RCode) : Prop := ∀ e mem (R : Type) (K : RExit → Env → Mem → Option R) r, t.run (only live e) mem K = some r → ∃ x e1 m1, (lim Q).loop live c (only live e) mem = some (x, e1, m1) ∧ K x e1 m1 = some r
def LoopT.OkC (Q : Prog) (t : LoopT) (live out : List Nat) (c : RCode) : Prop := ∀ e mem (R : Type) (K : RExit → Env → Mem → Option R) r, t.run (only live e) mem K = some r → ∃ x e1 m1, execCut (lim Q) out c (only live e) mem = some (x, e1, m1) ∧ K x e1 m1 = some r
theorem lo_loopT {Q : Prog} {lc : List CallT} {lp : List LoopT} {t : LoopT} {i : Nat} {l : List Nat} {c : RCode} (h : t.OkL Q l c) (hf : lp.find? (fun t => t.id == i) = some t) : LoopsOk Q (mkHd lc lp) (.loop i l c) := by
  intro e mem R K r hr
  rw [mkHd_loop hf] at hr
  exact h e mem R K r hr
theorem lo_cutT {Q : Prog} {lc : List CallT} {lp : List LoopT} {t : LoopT} {i : Nat} {l o : List Nat} {c : RCode} (h : t.OkC Q l o c) (hf : lp.find? (fun t => t.id == i) = some t) : LoopsOk Q (mkHd lc lp) (.cut i l o c) := by
  intro e mem R K r hr
  rw [mkHd_loop hf] at hr
  exact h e mem R K r hr

def mkT {α β : Type} (id n : Nat) (ks : List Nat) (c : CodL α) (X : XCod β) (F : α → Option β) : LoopT := ⟨id, fun env mem _ K => loopH n ks c X F env mem K⟩
theorem mkT_okL {α β : Type} {Q : Prog} {id n : Nat} {ks live : List Nat} {c : CodL α} {X : XCod β} {F : α → Option β} {body : RCode} (hF : ∀ v, F v = LoopU Q live body (mkEnv n ks ((c.enc v).take ks.length)) (((c.enc v).drop ks.length).map AV.cells) X) : (mkT id n ks c X F).OkL Q live body :=
  fun e mem R K r h => loopH_ok hF h
theorem mkT_okC {α β : Type} {Q : Prog} {id n : Nat} {ks live out : List Nat} {c : CodL α} {X : XCod β} {F : α → Option β} {body : RCode} (hF : ∀ v, F v = CutU Q out body (mkEnv n ks ((c.enc v).take ks.length)) (((c.enc v).drop ks.length).map AV.cells) X) : (mkT id n ks c X F).OkC Q live out body :=
  fun e mem R K r h => cutH_ok hF h

/-- A function that is handed no pointer. -/
theorem pureT_ok {β : Type} {Q : Prog} (hQ : ProgRen Q) {f : FuncId} {ds : List AV} {c : Cod β} {F : Option β} (hF : F = FnU Q f ds [] (.one c)) (hfr : c.fr = true) (hds : noPtrL ds = true) {mem : Mem} {R : Type} {K : AV → Mem → Option R} {r : R}
    (h : (F.bind fun v => K (c.enc v) mem) = some r) : ∃ d mem', (lim Q).call f ds mem = some (d, mem') ∧ (true = true → mem' = mem) ∧ K d mem' = some r := by
  cases hv : F with
  | none => rw [hv] at h; cases h
  | some v =>
    rw [hv] at h
    rw [hF] at hv
    exact ⟨_, _, fnU_any hQ hv hfr hds mem, fun _ => rfl, h⟩

/-! ### Functions that are handed pointers -/
/-- The blocks at these numbers. -/
def getAll (M : Mem) : List Nat → Option Mem
  | [] => some []
  | b :: bs => match M[b]?, getAll M bs with
    | some cs, some css => some (cs :: css)
    | _, _ => none
theorem getAll_ok {M : Mem} : ∀ {bs : List Nat} {css : Mem}, getAll M bs = some css → bs.length = css.length ∧ ∀ (i : Nat) b, bs[i]? = some b → M[b]? = css[i]?
  | [], css, h => by cases h; exact ⟨rfl, fun i b hb => by simp at hb⟩
  | b :: bs, css, h => by
    unfold getAll at h
    split at h
    · rename_i cs css' h1 h2
      cases h
      obtain ⟨l1, l2⟩ := getAll_ok h2
      refine ⟨by simp [l1], fun i b' hb => ?_⟩
      cases i with
      | zero => simp at hb; subst hb; simpa using h1
      | succ i => simp at hb ⊢; exact l2 i b' hb
    · cases h
noncomputable def FnQ {β : Type} (Q : Prog) (f : FuncId) (ds : List AV) (mem : Mem) (c : Cod β) : Option β := ((lim Q).call f ds mem).bind fun r => if eqbM r.2 mem = true then c.dec r.1 else none
/-- It writes: its blocks are read anew. -/
theorem ptrT_ok {α β : Type} {Q : Prog} (hQ : ProgRen Q) {f : FuncId} {ds0 ds : List AV} {c : Cod β} {cm : CodL α} {css : Mem} {F : Option (β × α)} (hF : F = FnU Q f ds0 css (.cons c cm)) (hfr : c.fr = true) (hfm : cm.fr = true) {bs : List Nat} (hi : incr bs = true) {M : Mem} (hg : getAll M bs = some css)
    (hds : ds = renL (rhoL bs M.length) ds0) (hn : css.all noPtrL = true) (hl : ∀ v, (cm.enc v).length = bs.length) {R : Type} {K : AV → Mem → Option R} {r : R}
    (h : (F.bind fun v => K (c.enc v.1) (setAll M bs ((cm.enc v.2).map AV.cells))) = some r) : ∃ d mem', (lim Q).call f ds M = some (d, mem') ∧ (false = true → mem' = M) ∧ K d mem' = some r := by
  cases hv : F with
  | none => rw [hv] at h; cases h
  | some v =>
    rw [hv] at h
    simp only [Option.bind_some] at h
    rw [hF] at hv
    unfold FnU at hv
    cases hc : (lim Q).call f ds0 css with
    | none => rw [hc] at hv; cases hv
    | some p =>
      obtain ⟨d, m⟩ := p
      rw [hc] at hv
      simp only [Option.bind_some] at hv
      have e := (CodL.cons c cm).ok _ _ hv
      simp only [CodL.cons, List.cons.injEq] at e
      obtain ⟨e1, e2⟩ := e
      obtain ⟨l1, l2⟩ := getAll_ok hg
      have hm : m = (cm.enc v.2).map AV.cells := by rw [← e2, cells_agg]
      have hlm : m.length = bs.length := by rw [hm, List.length_map]; exact hl _
      have hfree := cm.free hfm v.2
      rw [← e2] at hfree
      have hmf : ∀ cs ∈ m, noPtrL cs = true := by
        intro cs hcs
        obtain ⟨i, hi⟩ := List.getElem?_of_mem hcs
        have : (m.map AV.agg)[i]? = some (.agg cs) := by rw [List.getElem?_map, hi]; rfl
        have := noPtrL_get hfree this
        exact this
      have key := call_any hQ hc hi l1 (by omega) l2 (List.all_eq_true.1 hn) hmf (by rw [e1]; exact c.free hfr _)
      rw [← hds] at key
      refine ⟨d, _, key, (fun h => by cases h), ?_⟩
      rw [hm, e1]; exact h
/-- It only reads. -/
theorem ptrQ_ok {β : Type} {Q : Prog} (hQ : ProgRen Q) {f : FuncId} {ds0 ds : List AV} {c : Cod β} {css : Mem} {F : Option β} (hF : F = FnQ Q f ds0 css c) (hfr : c.fr = true) {bs : List Nat} (hi : incr bs = true) {M : Mem} (hg : getAll M bs = some css)
    (hds : ds = renL (rhoL bs M.length) ds0) (hn : css.all noPtrL = true) {R : Type} {K : AV → Mem → Option R} {r : R}
    (h : (F.bind fun v => K (c.enc v) M) = some r) : ∃ d mem', (lim Q).call f ds M = some (d, mem') ∧ (true = true → mem' = M) ∧ K d mem' = some r := by
  cases hv : F with
  | none => rw [hv] at h; cases h
  | some v =>
    rw [hv] at h
    simp only [Option.bind_some] at h
    rw [hF] at hv
    unfold FnQ at hv
    cases hc : (lim Q).call f ds0 css with
    | none => rw [hc] at hv; cases hv
    | some p =>
      obtain ⟨d, m⟩ := p
      rw [hc] at hv
      simp only [Option.bind_some, Option.ite_none_right_eq_some] at hv
      obtain ⟨hm, hv⟩ := hv
      have := eqbM_eq _ _ hm
      subst this
      have e1 := c.ok _ _ hv
      obtain ⟨l1, l2⟩ := getAll_ok hg
      have key := call_any hQ hc hi l1 rfl l2 (List.all_eq_true.1 hn) (List.all_eq_true.1 hn) (by rw [e1]; exact c.free hfr _)
      rw [← hds] at key
      have hself : setAll M bs m = M := by
        apply List.ext_getElem?
        intro x
        by_cases hx : x ∈ bs
        · obtain ⟨i, hix⟩ := List.getElem?_of_mem hx
          have h2 := l2 i x hix
          have hlx : x < M.length := by
            have : i < m.length := by rw [← l1]; exact lt_of_get hix
            rw [List.getElem?_eq_getElem this] at h2
            exact lt_of_get h2
          rw [setAll_at bs m M i x hi l1 hix hlx, h2]
        · exact setAll_off bs m M x hx
      rw [hself] at key
      exact ⟨d, M, key, fun _ => rfl, by rw [e1]; exact h⟩

/-- A reader's end: its memory is as it was. -/
def finQ {β : Type} (P : Mem → Bool) (fn : RFunc) (l0 : Nat) (c : Cod β) (x : RExit) (e : Env) (m : Mem) : Option β := match x with
  | .exit _ => none
  | _ => match resAVs e m fn.results with
    | some ds => if fn.keep || m.length == l0 then cond (P m) (c.dec (pack ds)) none else cond (P (m.take l0)) (c.dec ((pack ds).scrub l0)) none
    | none => none
theorem fnQ_ok {β : Type} {Q : Prog} {H : Hd} (hH : HdCalls Q H) {f : FuncId} {fn : RFunc} (he : Q.ext f = none) (hf : Q.fn f = some fn) (hL : LoopsOk Q H fn.body) {ds : List AV} {mem : Mem} {c : Cod β} {w : β} (hlen : ds.length ≤ fn.ntmps)
    (h : codeK H fn.body (ds ++ List.replicate (fn.ntmps - ds.length) .junk) mem (finQ (fun m => eqbM m mem) fn mem.length c) = some w) : FnQ Q f ds mem c = some w := by
  obtain ⟨x, e1, m1, h1, h2⟩ := codeK_sound hH hL h
  have key : ∀ q, callBody (lim Q) fn ds mem = some q → eqbM q.2 mem = true → c.dec q.1 = some w → FnQ Q f ds mem c = some w := by
    intro q hq hm hw
    unfold FnQ
    rw [call_fn he hf hq]
    simp only [Option.bind_some, if_pos hm]; exact hw
  unfold callBody at key
  simp only [if_pos hlen, h1] at key
  unfold finQ at h2
  split at h2
  · cases h2
  · rename_i hne
    cases hr : resAVs e1 m1 fn.results with
    | none => rw [hr] at h2; cases h2
    | some us =>
      rw [hr] at h2 key
      simp only at h2 key
      have key2 : ∀ q, (if fn.keep || m1.length == mem.length then some (pack us, m1) else some ((pack us).scrub mem.length, m1.take mem.length)) = some q → cond (eqbM q.2 mem) (c.dec q.1) none = some w → FnQ Q f ds mem c = some w := by
        intro q hq hw
        cases hm : eqbM q.2 mem with
        | false => rw [hm] at hw; cases hw
        | true =>
          rw [hm] at hw
          cases x with
          | exit id => exact absurd rfl (hne id)
          | normal => exact key q hq hm hw
          | ret => exact key q hq hm hw
      split at h2
      · rename_i hk; exact key2 _ (if_pos hk) h2
      · rename_i hk; exact key2 _ (if_neg hk) h2

/-! ### Without a text -/
def tIndexByte (f : FuncId) : CallT := ⟨f, true, fun ds mem _ K => match ds with
  | [.str s, .int .u8 c] => K (.int .i64 (Lib.indexByte s c.toNat.toUInt8)) mem
  | _ => none⟩
theorem tIndexByte_ok {Q : Prog} {f : FuncId} (h : Q.ext f = some eIndexByte) : (tIndexByte f).Ok Q := by
  intro ds mem R K r hr
  simp only [tIndexByte] at hr
  split at hr
  · exact ⟨_, _, call_ext h rfl, fun _ => rfl, hr⟩
  · cases hr
def tWriteString (f : FuncId) (T E : TypeId) : CallT := ⟨f, false, fun ds mem _ K => match ds with
  | [.ptr b 0, .str s] => match mem[b]? with
    | some [.bld t e, .sl true z xs] => if t = T ∧ e = E ∧ z = 1 then roomL (xs.length + s.length) 1 (K (.tup [.int .i64 (s.length : Int), .nili]) (mem.set b [.bld t e, .sl true 1 (xs ++ s.map byte)])) else none
    | _ => none
  | _ => none⟩
theorem tWriteString_ok {Q : Prog} {f : FuncId} {T E : TypeId} (h : Q.ext f = some (eWriteString T E)) : (tWriteString f T E).Ok Q := by
  intro ds mem R K r hr
  simp only [tWriteString] at hr
  split at hr
  · rename_i b s
    split at hr
    · rename_i t e z xs hm
      simp only [Option.ite_none_right_eq_some, roomL, Nat.mul_one] at hr
      obtain ⟨⟨h1, h2, h3⟩, ⟨h4, h5⟩, hr⟩ := hr
      exact ⟨_, _, call_ext h (by simp only [eWriteString, hm]; rw [if_pos ⟨h1, h2, h3, h4⟩]), (fun hq => by cases hq), hr⟩
    · cases hr
  · cases hr
def tString (f : FuncId) (T E : TypeId) : CallT := ⟨f, false, fun ds mem _ K => match ds with
  | [.ptr b 0] => match mem[b]? with
    | some [.bld t e, .sl true z xs] => if t = T ∧ e = E ∧ z = 1 then bytesK xs (fun l => K (.str l) (mem.set b [.bld t e, .sl false z xs])) else none
    | _ => none
  | _ => none⟩
theorem tString_ok {Q : Prog} {f : FuncId} {T E : TypeId} (h : Q.ext f = some (eString T E)) : (tString f T E).Ok Q := by
  intro ds mem R K r hr
  simp only [tString] at hr
  split at hr
  · rename_i b
    split at hr
    · rename_i t e z xs hm
      simp only [Option.ite_none_right_eq_some, bytesK] at hr
      obtain ⟨⟨h1, h2, h3⟩, h4, hr⟩ := hr
      cases hl : bytesL xs with
      | none => rw [hl] at hr; cases hr
      | some l =>
        rw [hl] at hr
        exact ⟨_, _, call_ext h (by simp only [eString, hm]; rw [if_pos ⟨h1, h2, h3, h4⟩]; simp only [hl]), (fun hq => by cases hq), hr⟩
    · cases hr
  · cases hr

theorem indexByte_ren : ExtRen eIndexByte := by
  intro ρ n N R ds mem d mem' M h S
  unfold eIndexByte at h
  split at h
  · cases h; exact ⟨M, rfl, .refl S⟩
  · cases h
theorem writeString_ren {T E : TypeId} : ExtRen (eWriteString T E) := by
  intro ρ n N R ds mem d mem' M h S
  unfold eWriteString at h
  split at h
  · rename_i b s
    split at h
    · rename_i t e z xs hm
      simp only [Option.ite_none_right_eq_some, Option.some.injEq, Prod.mk.injEq] at h
      obtain ⟨hc, rfl, rfl⟩ := h
      have := S.set R hm [.bld t e, .sl true 1 (xs ++ s.map byte)]
      refine ⟨_, ?_, this.1, this.2, by simp⟩
      simp only [renL, AV.ren, eWriteString]
      rw [S.some hm]
      simp only [renL, AV.ren]
      rw [if_pos hc]
    · cases h
  · cases h
theorem string_ren {T E : TypeId} : ExtRen (eString T E) := by
  intro ρ n N R ds mem d mem' M h S
  unfold eString at h
  split at h
  · rename_i b
    split at h
    · rename_i t e z xs hm
      simp only [Option.ite_none_right_eq_some] at h
      obtain ⟨hc, h⟩ := h
      split at h
      · rename_i l hl
        cases h
        have := S.set R hm [.bld t e, .sl false z xs]
        refine ⟨_, ?_, this.1, this.2, by simp⟩
        simp only [renL, AV.ren, eString]
        rw [S.some hm]
        simp only [renL, AV.ren]
        rw [if_pos hc]
        simp only [hl]
      · cases h
    · cases h
  · cases h
/-! ### Short words for what is printed -/
abbrev gI (d : Nat) (k : OpK) (as : List Opd) : Grp := .one ⟨some d, k, as, none⟩ .any
abbrev gS (k : OpK) (as : List Opd) : Grp := .one ⟨none, k, as, none⟩ .any
abbrev tt (n : Nat) : Opd := .t n false
abbrev ti (n : Int) : Opd := .c (.int .i64 n)
abbrev RR (l : List Nat) (g : List Grp) : RCode := .region none l g
abbrev Bs : Type := List UInt8
abbrev As : Type := List AV
end Go.Eng
 end

 section
set_option linter.unusedVariables false
set_option linter.unusedSimpArgs false
set_option linter.unusedSectionVars false
namespace Go.Eng
open Go.RowKit

/-- The call returns true, and what was there is as it was. -/
theorem walk_of {P : Program} {Q : Prog} (hQ : ProgOk P Q) {f : FuncId} {fm : Func} {c : Code} (hf : P.funcs[f]? = some fm) (hb : fm.body = some c) (hn : (fm.name == "runtime.NumGoroutine") = false) {vs : List Value} {ds : List AV} {w : World} {p : Pers}
    (hp : ∀ b o v, p b o = some v → w.cell? ⟨b, o, none⟩ = some v) (hr : RepL p [] vs ds) (ho : ds.all AV.noOwn = true) (h : (lim Q).call f ds [] = some (.bool true, [])) :
    Calls P f ⟨vs⟩ w fun e w' => e = .returned (.bool true) ∧ Below w.heap.size w w' := by
  have hown : ∀ (us : List Value) (es : List AV), es.all AV.noOwn = true → ownL us es = [] := by
    intro us
    induction us with
    | nil => intro es _; simp [ownL]
    | cons u us ih =>
      intro es he
      cases es with
      | nil => simp [ownL]
      | cons e es =>
        simp only [List.all_cons, Bool.and_eq_true] at he
        have := ih es he.2
        unfold ownL at this ⊢
        simp only [List.zip_cons_cons, List.flatMap_cons, noOwn_own he.1, this, List.append_nil]
  have hcl : claims ⟨p, [], []⟩ vs ds [] = [] := by
    unfold claims ownM
    simp [hown vs ds ho]
  have hI : Inv ⟨p, [], []⟩ w vs ds [] [] := by
    refine ⟨hr, fun i v d a b => noOwn_ok (List.all_eq_true.1 ho d (List.mem_of_getElem? b)), rfl, rfl, hp, fun i b us cs k1 k2 k3 => by simp at k1, ?_, fun t ht => by simp at ht, fun i cs k => by simp at k⟩
    rw [hcl]; exact List.nodup_nil
  have hS := lim_sound hQ f ds [] (.bool true) [] h ⟨p, [], []⟩ w vs [] hI
  unfold OpPost at hS
  rw [run_callFunc hf hb hn] at hS
  refine hS.mono fun e w' ⟨v, he, g', i1, G⟩ => ?_
  have hv := rep_bool (i1.envRep.2 0 v _ rfl rfl)
  subst hv
  refine ⟨he, G.ext.os, G.ext.tape, G.ext.output, G.ext.size, fun k hk => (G.ext.same k hk ?_).1⟩
  rw [hcl]; simp
theorem all_cons {α : Type} {p : α → Prop} {x : α} {l : List α} (h : p x) (k : ∀ y ∈ l, p y) : ∀ y ∈ x :: l, p y := List.forall_mem_cons.2 ⟨h, k⟩
theorem all_nil {α : Type} {p : α → Prop} : ∀ y ∈ ([] : List α), p y := fun y h => by cases h
theorem noPers {w : World} : ∀ b o v, (fun _ _ => none : Pers) b o = some v → w.cell? ⟨b, o, none⟩ = some v := fun b o v h => by cases h
theorem rep_nothing {p : Pers} {bl : List Nat} {s : ByteArray} : Rep p bl (.string s) (.str s.data.toList) := Rep.str s.data.toList
end Go.Eng
 end

 section
set_option linter.unusedVariables false
set_option linter.unusedSimpArgs false
set_option linter.unusedSectionVars false
namespace Go.Eng
open Go

/-- All cells of a world are kept. -/
def persAll (w : World) : Pers := fun b o => w.cell? ⟨b, o, none⟩
def packT (agg : Bool) (ds : List AV) : AV := if agg then .agg ds else ds.headD .junk
theorem packT_cells {agg : Bool} {ds : List AV} (h : agg = false → ∃ d, ds = [d] ∧ d.cells = [d]) : (packT agg ds).cells = ds := by
  cases agg with
  | true => rfl
  | false => obtain ⟨d, rfl, hd⟩ := h rfl; exact hd
/-- What a value of a type is, in the engine's words. -/
def Fit (P : Program) : Nat → TypeId → List AV → Prop
  | 0, _, _ => False
  | n + 1, t, ds => match P.underlying t with
    | some .bool => ∃ b, ds = [.bool b]
    | some (.int k) => ∃ i, ds = [.int k i] ∧ (Lit.int k i).wf = true
    | some .string => ∃ s, ds = [.str s] ∧ s.length ≤ 9223372036854775807
    | some (.slice e) => ∃ xs, ds = [.sl false (szOf P e) xs] ∧ xs.length ≤ 9223372036854775807 ∧ ∀ x ∈ xs, ∃ cs, Fit P n e cs ∧ x = packT (aggT P e) cs
    | some (.struct fs) => ∃ parts : List (List AV), ds = parts.flatten ∧ parts.length = fs.size ∧ ∀ (i : Nat) f p, fs[i]? = some f → parts[i]? = some p → Fit P n f.type p
    | _ => False
def contig (P : Program) : List Field → Nat → Nat → Bool
  | [], o, n => o == n
  | f :: fs, o, n => f.offset == o && contig P fs (o + P.cellsOf f.type) n
/-- Types of bools, numbers, texts, slices and structs, closed. -/
def closedT (P : Program) (S : List TypeId) : Bool := S.all fun t => match P.underlying t with
  | some .bool => szOf P t == 1
  | some (.int _) => szOf P t == 1
  | some .string => szOf P t == 1
  | some (.slice e) => S.contains e && szOf P e != 0 && szOf P t == 1
  | some (.struct fs) => contig P fs.toList 0 (P.cellsOf t) && fs.toList.all fun f => S.contains f.type
  | _ => false

theorem mapM_some {α β : Type} {f : α → Option β} : ∀ {l : List α} {r : List β}, l.mapM f = some r → r.length = l.length ∧ ∀ (i : Nat) a b, l[i]? = some a → r[i]? = some b → f a = some b
  | [], r, h => by
    simp at h
    subst h
    exact ⟨rfl, fun i a b h => by simp at h⟩
  | x :: l, r, h => by
    rw [List.mapM_cons] at h
    cases hx : f x with
    | none => rw [hx] at h; cases h
    | some y =>
      rw [hx] at h
      cases hl : l.mapM f with
      | none => rw [hl] at h; cases h
      | some ys =>
        rw [hl] at h
        cases h
        obtain ⟨g1, g2⟩ := mapM_some hl
        refine ⟨by rw [List.length_cons, List.length_cons, g1], ?_⟩
        intro i a b ha hb
        cases i with
        | zero => simp at ha hb; subst ha; subst hb; exact hx
        | succ i => exact g2 i a b (by simpa using ha) (by simpa using hb)

variable {H : Type} {enc : TypeId × Value → H} {P : Program} {w : World}

def Got (P : Program) (w : World) (n : Nat) (t : TypeId) (cs : List Value) : Prop :=
  ∃ ds, RepL (persAll w) [] cs ds ∧ Fit P n t ds ∧ (∀ v ∈ cs, oneCell v = true) ∧ ds.length = szOf P t ∧ (aggT P t = false → ∃ d, ds = [d] ∧ d.cells = [d])

theorem one_got {p : Pers} {v : Value} {d : AV} (h : Rep p [] v d) : RepL p [] [v] [d] :=
  ⟨rfl, fun i a b ha hb => by
    cases i with
    | zero => simp at ha hb; subst ha; subst hb; exact h
    | succ i => simp at ha⟩
theorem repL_append {p : Pers} {bl : List Nat} {vs vs' : List Value} {ds ds' : List AV} (h : RepL p bl vs ds) (h' : RepL p bl vs' ds') : RepL p bl (vs ++ vs') (ds ++ ds') := by
  refine ⟨by rw [List.length_append, List.length_append, h.1, h'.1], fun i v d hv hd => ?_⟩
  rcases Nat.lt_or_ge i vs.length with hi | hi
  · rw [List.getElem?_append_left hi] at hv
    rw [List.getElem?_append_left (by rw [← h.1]; exact hi)] at hd
    exact h.2 i v d hv hd
  · rw [List.getElem?_append_right hi] at hv
    rw [List.getElem?_append_right (by rw [← h.1]; exact hi), ← h.1] at hd
    exact h'.2 _ v d hv hd
theorem cells_some {base : Nat} {a : Addr} {n : Nat} {cs : List Value} (h : w.cells? base a n = some cs) : cs.length = n ∧ ∀ (i : Nat) v, cs[i]? = some v → w.cell? (a.add i) = some v := by
  unfold World.cells? at h
  split at h
  · obtain ⟨h1, h2⟩ := mapM_some h
    rw [List.length_range] at h1
    refine ⟨h1, fun i v hv => ?_⟩
    have hi : i < n := by rw [← h1]; exact (List.getElem?_eq_some_iff.1 hv).1
    exact h2 i i v (by rw [List.getElem?_range hi]) hv
  · cases h
theorem cell_spot {a : Addr} {v : Value} (h : w.cell? a = some v) : a.spot = none := by
  unfold World.cell? at h
  split at h
  · cases hs : a.spot with
    | none => rfl
    | some s => rw [hs] at h; cases h
  · cases h
theorem addr_eq {a : Addr} (h : a.spot = none) : (⟨a.block, a.off, none⟩ : Addr) = a := by cases a; simp at h; subst h; rfl
theorem flatMap_length {α β : Type} {f : α → List β} {z : Nat} : ∀ {l : List α}, (∀ x ∈ l, (f x).length = z) → (l.flatMap f).length = l.length * z
  | [], _ => by simp
  | a :: l, h => by
    rw [List.flatMap_cons, List.length_append, h a List.mem_cons_self, flatMap_length fun x hx => h x (List.mem_cons_of_mem _ hx), List.length_cons, Nat.add_mul]
    omega
theorem repL_flatMap {p : Pers} {bl : List Nat} {α : Type} {f : α → List Value} {g : α → List AV} : ∀ {l : List α}, (∀ x ∈ l, RepL p bl (f x) (g x)) → RepL p bl (l.flatMap f) (l.flatMap g)
  | [], _ => ⟨rfl, fun i v d h => by simp at h⟩
  | a :: l, h => by
    rw [List.flatMap_cons, List.flatMap_cons]
    exact repL_append (h a List.mem_cons_self) (repL_flatMap fun x hx => h x (List.mem_cons_of_mem _ hx))
/-- A place in rows of equal length, laid one behind another. -/
theorem flatMap_get {β : Type} {f : Nat → List β} {z : Nat} : ∀ {n s : Nat}, (∀ i, s ≤ i → i < s + n → (f i).length = z) → ∀ (k : Nat) b, ((List.range' s n).flatMap f)[k]? = some b → ∃ i j, i < n ∧ j < z ∧ k = i * z + j ∧ (f (s + i))[j]? = some b
  | 0, s, h, k, b, hk => by simp at hk
  | n + 1, s, h, k, b, hk => by
    rw [List.range'_succ, List.flatMap_cons] at hk
    have h0 := h s (by omega) (by omega)
    rcases Nat.lt_or_ge k z with hz | hz
    · rw [List.getElem?_append_left (by rw [h0]; exact hz)] at hk
      exact ⟨0, k, by omega, hz, by simp, by simpa using hk⟩
    · rw [List.getElem?_append_right (by rw [h0]; exact hz), h0] at hk
      obtain ⟨i, j, h1, h2, h3, h4⟩ := flatMap_get (n := n) (s := s + 1) (fun i a b => h i (by omega) (by omega)) (k - z) b hk
      refine ⟨i + 1, j, by omega, h2, by rw [Nat.add_mul]; omega, ?_⟩
      rw [show s + (i + 1) = s + 1 + i by omega]; exact h4
theorem got_struct {n : Nat} {fs : List Field} {total : Nat} : ∀ (o : Nat) (cs : List Value), contig P fs o total = true → cs.length = total → o ≤ total →
    (∀ f ∈ fs, Got P w n f.type ((cs.drop f.offset).take (P.cellsOf f.type))) →
    ∃ parts : List (List AV), RepL (persAll w) [] (cs.drop o) parts.flatten ∧ parts.length = fs.length ∧ (∀ (i : Nat) f p, fs[i]? = some f → parts[i]? = some p → Fit P n f.type p) ∧ (∀ v ∈ cs.drop o, oneCell v = true) := by
  induction fs with
  | nil =>
    intro o cs hc hl ho _
    have : o = total := by simpa [contig] using hc
    subst this
    rw [List.drop_eq_nil_of_le (by omega)]
    exact ⟨[], ⟨rfl, fun i v d h => by simp at h⟩, rfl, fun i f p h => by simp at h, fun v h => by simp at h⟩
  | cons f fs ih =>
    intro o cs hc hl ho hG
    simp only [contig, Bool.and_eq_true, beq_iff_eq] at hc
    obtain ⟨hf, hc⟩ := hc
    obtain ⟨ds, h1, h2, h3, h4, h5⟩ := hG f List.mem_cons_self
    rw [hf] at h1 h3
    have hle : o + P.cellsOf f.type ≤ total := by
      have := h1.1
      rw [List.length_take, List.length_drop, h4, show szOf P f.type = P.cellsOf f.type from rfl] at this
      omega
    obtain ⟨parts, g1, g2, g3, g4⟩ := ih (o + P.cellsOf f.type) cs hc hl hle fun x hx => hG x (List.mem_cons_of_mem _ hx)
    have hsplit : cs.drop o = (cs.drop o).take (P.cellsOf f.type) ++ cs.drop (o + P.cellsOf f.type) := by
      rw [← List.drop_drop, List.take_append_drop]
    refine ⟨ds :: parts, ?_, by rw [List.length_cons, List.length_cons, g2], ?_, ?_⟩
    · rw [hsplit, List.flatten_cons]
      exact repL_append h1 g1
    · intro i f' p hf' hp'
      cases i with
      | zero => simp at hf' hp'; subst hf'; subst hp'; exact h2
      | succ i => exact g3 i f' p (by simpa using hf') (by simpa using hp')
    · intro v hv
      rw [hsplit] at hv
      rcases List.mem_append.1 hv with hv | hv
      · exact h3 v hv
      · exact g4 v hv
theorem got_of {S : List TypeId} (hS : closedT P S = true) {base : Nat} {held : Bool} : ∀ (n : Nat) (t : TypeId) (cs : List Value) (x : DataW H × List MemPlace), t ∈ S →
    DataW.trod enc P w base (fun _ => true) held n t cs = some x → Got P w n t cs
  | 0, t, cs, x, ht, h => by simp [DataW.trod] at h
  | n + 1, t, cs, x, ht, h => by
    have hs := List.all_eq_true.1 hS t ht
    cases hu : P.underlying t with
    | none => rw [hu] at hs; cases hs
    | some u =>
      rw [hu] at hs
      cases u with
      | bool =>
        simp only [DataW.trod, hu] at h
        split at h <;> simp_all
        rename_i b
        refine ⟨[.bool b], one_got (.bool b), ?_, ?_, ?_, fun _ => ⟨_, rfl, rfl⟩⟩
        · unfold Fit; rw [hu]; exact ⟨b, rfl⟩
        · intro v hv; simp at hv; subst hv; rfl
        · simp [hs]
      | int k =>
        simp only [DataW.trod, hu] at h
        split at h <;> simp_all
        rename_i m _
        obtain rfl := h.1.1
        refine ⟨[.int _ m], one_got (.int _ m), ?_, ?_, ?_, fun _ => ⟨_, rfl, rfl⟩⟩
        · unfold Fit; rw [hu]; exact ⟨m, rfl, h.1.2⟩
        · intro v hv; simp at hv; subst hv; rfl
        · simp [hs]
      | string =>
        simp only [DataW.trod, hu] at h
        split at h <;> simp_all
        rename_i s
        refine ⟨[.str s.data.toList], one_got rep_nothing, ?_, ?_, ?_, fun _ => ⟨_, rfl, rfl⟩⟩
        · unfold Fit; rw [hu]; exact ⟨_, rfl, by have := h.1; unfold maxLen at this; simpa using this⟩
        · intro v hv; simp at hv; subst hv; rfl
        · simp [hs]
      | slice e =>
        simp only [Bool.and_eq_true, bne_iff_ne, beq_iff_eq, List.contains_iff_mem] at hs
        obtain ⟨⟨he, hz⟩, h1⟩ := hs
        rcases DataW.trod_slice hu h with ⟨rfl, _⟩ | ⟨a, len, cap, elems, rest, k, hk, rfl, _, hb, hlc, hcm, hlen, hel, hsp, _⟩
        · refine ⟨[.sl false (szOf P e) []], one_got (.sl none 0 0 false (szOf P e) [] [] (fun x h => by cases h) rfl (Nat.le_refl _) (by simp) (.inl rfl) (fun _ ad h => by cases h) (fun _ => rfl) (fun v h => by cases h) (fun h => absurd h hz) (fun i v d h => by simp at h)), ?_, ?_, ?_, fun _ => ⟨_, rfl, rfl⟩⟩
          · unfold Fit; rw [hu]; exact ⟨[], rfl, by simp, fun x h => by cases h⟩
          · intro v hv; simp at hv; subst hv; rfl
          · simp [h1]
        · have hkn : k = n := by omega
          subst hkn
          have key : ∀ i : Nat, ∃ q : List Value × List AV, i < len → (w.cells? base (a.add (i * szOf P e)) (szOf P e) = some q.1 ∧ RepL (persAll w) [] q.1 q.2 ∧ Fit P k e q.2 ∧ (∀ v ∈ q.1, oneCell v = true) ∧ q.2.length = szOf P e ∧ (aggT P e = false → ∃ d, q.2 = [d] ∧ d.cells = [d])) := by
            intro i
            by_cases hi : i < len
            · have h2 := hel i hi
              rw [List.getElem?_eq_getElem (by omega)] at h2
              obtain ⟨cs', g1, g2⟩ := Option.bind_eq_some_iff.1 h2
              obtain ⟨ds, k1, k2, k3, k4, k5⟩ := got_of hS k e cs' _ he g2
              exact ⟨(cs', ds), fun _ => ⟨g1, k1, k2, k3, k4, k5⟩⟩
            · exact ⟨([], []), fun h => absurd h hi⟩
          obtain ⟨F, hF⟩ : ∃ F : Nat → List Value × List AV, ∀ i, i < len → (w.cells? base (a.add (i * szOf P e)) (szOf P e) = some (F i).1 ∧ RepL (persAll w) [] (F i).1 (F i).2 ∧ Fit P k e (F i).2 ∧ (∀ v ∈ (F i).1, oneCell v = true) ∧ (F i).2.length = szOf P e ∧ (aggT P e = false → ∃ d, (F i).2 = [d] ∧ d.cells = [d])) :=
            ⟨fun i => Classical.choose (key i), fun i => Classical.choose_spec (key i)⟩
          have hFl : ∀ i, i < len → (F i).1.length = szOf P e := fun i hi => (cells_some (hF i hi).1).1
          have hspot : cap ≠ 0 → a.spot = none := by
            intro hc
            have : ∃ cs', w.cells? base a (szOf P e) = some cs' := by
              by_cases h0 : 0 < len
              · have := (hF 0 h0).1
                rw [Nat.zero_mul] at this
                exact ⟨_, this⟩
              · have hl0 : len = 0 := by omega
                obtain ⟨r1, r2⟩ := hsp rfl
                have r3 := r2 0 (by omega)
                rw [List.getElem?_eq_getElem (by omega)] at r3
                obtain ⟨cs', g1, _⟩ := Option.bind_eq_some_iff.1 r3
                rw [hl0] at g1
                simp only [Nat.zero_add, Nat.zero_mul] at g1
                exact ⟨cs', g1⟩
            obtain ⟨cs', hc'⟩ := this
            obtain ⟨l1, l2⟩ := cells_some hc'
            have l3 := l2 0 (cs'[0]'(by omega)) (List.getElem?_eq_getElem (by omega))
            exact cell_spot l3
          have hrep : RepL (persAll w) [] ((List.range len).flatMap fun i => (F i).1) ((List.range len).flatMap fun i => (F i).2) :=
            repL_flatMap fun i hi => (hF i (List.mem_range.1 hi)).2.1
          have hpk : ∀ i, i < len → (packT (aggT P e) (F i).2).cells = (F i).2 := fun i hi => packT_cells (hF i hi).2.2.2.2.2
          have hflat : flat ((List.range len).map fun i => packT (aggT P e) (F i).2) = (List.range len).flatMap fun i => (F i).2 := by
            unfold flat
            rw [List.flatMap_map]
            exact Deep.flatMap_congr_range hpk
          have hone : ∀ v ∈ (List.range len).flatMap (fun i => (F i).1), oneCell v = true := by
            intro v hv
            obtain ⟨i, hi, hv⟩ := List.mem_flatMap.1 hv
            exact (hF i (List.mem_range.1 hi)).2.2.2.1 v hv
          refine ⟨[.sl false (szOf P e) ((List.range len).map fun i => packT (aggT P e) (F i).2)], one_got (.sl (some a) len cap false (szOf P e) _ ((List.range len).flatMap fun i => (F i).1) ?_ (by simp) hlc ?_ ?_ ?_ (fun h => by cases h) hone (fun h => absurd h hz) ?_), ?_, ?_, ?_, fun _ => ⟨_, rfl, rfl⟩⟩
          · intro x hx
            obtain ⟨i, hi, rfl⟩ := List.mem_map.1 hx
            have hi := List.mem_range.1 hi
            rw [hpk i hi]
            exact (hF i hi).2.2.2.2.1
          · rw [flatMap_length fun i hi => hFl i (List.mem_range.1 hi), List.length_range]
          · by_cases h0 : len = 0
            · left; subst h0; rfl
            · right
              have hs0 := hspot (by omega)
              refine ⟨a, rfl, hs0, fun q v hv => ?_⟩
              rw [List.range_eq_range'] at hv
              obtain ⟨i, j, g1, g2, g3, g4⟩ := flatMap_get (z := szOf P e) (fun i _ h => hFl i (by omega)) q v hv
              rw [Nat.zero_add] at g4
              have := (cells_some (hF i g1).1).2 j v g4
              rw [Deep.add_add, ← g3, add_none hs0] at this
              exact this
          · intro hc ad had
            cases had
            exact hspot (hc.elim (fun e => by cases e) id)
          · rw [hflat]; exact hrep.2
          · unfold Fit; rw [hu]
            refine ⟨_, rfl, by rw [List.length_map, List.length_range]; unfold maxLen at hcm; omega, ?_⟩
            intro x hx
            obtain ⟨i, hi, rfl⟩ := List.mem_map.1 hx
            exact ⟨(F i).2, (hF i (List.mem_range.1 hi)).2.2.1, rfl⟩
          · intro v hv; simp at hv; subst hv; rfl
          · simp [h1]
      | struct fs =>
        simp only [Bool.and_eq_true, List.all_eq_true, List.contains_iff_mem] at hs
        obtain ⟨hc, hf⟩ := hs
        have h2 : cs.length = P.cellsOf t ∧ ∃ xs, fs.toList.mapM (fun f => DataW.trod enc P w base (fun _ => true) held n f.type ((cs.drop f.offset).take (P.cellsOf f.type))) = some xs := by
          have h3 := h
          unfold DataW.trod at h3
          rw [hu] at h3
          simp only at h3
          split at h3
          · rename_i hl
            obtain ⟨xs, hx, _⟩ := Option.map_eq_some_iff.1 h3
            exact ⟨hl, xs, hx⟩
          · cases h3
        obtain ⟨hl, xs, hx⟩ := h2
        obtain ⟨m1, m2⟩ := mapM_some hx
        have hG : ∀ f ∈ fs.toList, Got P w n f.type ((cs.drop f.offset).take (P.cellsOf f.type)) := by
          intro f hfm
          obtain ⟨i, hi⟩ := List.getElem?_of_mem hfm
          have hlt := (List.getElem?_eq_some_iff.1 hi).1
          exact got_of hS n f.type _ _ (hf f hfm) (m2 i f (xs[i]'(by omega)) hi (List.getElem?_eq_getElem (by omega)))
        obtain ⟨parts, g1, g2, g3, g4⟩ := got_struct 0 cs hc hl (by omega) hG
        rw [List.drop_zero] at g1 g4
        refine ⟨parts.flatten, g1, ?_, g4, ?_, ?_⟩
        · unfold Fit; rw [hu]
          exact ⟨parts, rfl, by rw [g2]; simp, fun i f p hf hp => g3 i f p (by rw [← hf]; simp) hp⟩
        · rw [← g1.1, hl]; rfl
        · intro hag
          unfold aggT at hag
          rw [hu] at hag
          cases hag
      | _ => cases hs
/-- An argument, read. -/
theorem arg_read {S : List TypeId} (hS : closedT P S = true) {held : Bool} {t : TypeId} {v : Value} {d : DataW H} {ps : List MemPlace} (ht : t ∈ S) (h : DataW.Trod enc P w 0 (fun _ => true) held t v d ps) :
    ∃ n ds, RepL (persAll w) [] v.cells.toList ds ∧ Fit P n t ds ∧ ds.length = szOf P t := by
  obtain ⟨n, h⟩ := h
  obtain ⟨ds, h1, h2, h3, h4, h5⟩ := got_of hS n t _ _ ht h
  exact ⟨n, ds, h1, h2, h4⟩
end Go.Eng
 end

 section
set_option linter.unusedVariables false
set_option linter.unusedSimpArgs false
set_option linter.unusedSectionVars false
namespace Go.Eng
open Go Go.RowKit Go.ChangeShapes Go.WideShapes Go.ChangeAt Go.RowKit

theorem fit_own1 {P : Program} : ∀ (n : Nat) (t : TypeId) (ds : List AV), Fit P n t ds → ∀ d ∈ ds, d.noOwn1 = true ∧ d.noOwn = true
  | 0, t, ds, h => by unfold Fit at h; exact h.elim
  | n + 1, t, ds, h => by
    unfold Fit at h
    intro d hd
    split at h
    · obtain ⟨b, rfl⟩ := h; simp at hd; subst hd; exact ⟨rfl, rfl⟩
    · obtain ⟨i, rfl, _⟩ := h; simp at hd; subst hd; exact ⟨rfl, rfl⟩
    · obtain ⟨s, rfl, _⟩ := h; simp at hd; subst hd; exact ⟨rfl, rfl⟩
    · obtain ⟨xs, rfl, _⟩ := h; simp at hd; subst hd; exact ⟨rfl, rfl⟩
    · rename_i fs hu
      obtain ⟨parts, rfl, h1, h2⟩ := h
      obtain ⟨p, hp, hd⟩ := List.mem_flatten.1 hd
      obtain ⟨i, hi⟩ := List.getElem?_of_mem hp
      have hlt := (List.getElem?_eq_some_iff.1 hi).1
      exact fit_own1 n _ p (h2 i (fs[i]'(by omega)) p (by rw [Array.getElem?_eq_getElem (by omega)]) hi) d hd
    · exact h.elim
/-- What the arguments are. -/
def FitL (P : Program) : List TypeId → List AV → Prop
  | [], [] => True
  | t :: ts, d :: ds => (∃ n cs, Fit P n t cs ∧ d = packT (aggT P t) cs ∧ cs.length = szOf P t) ∧ FitL P ts ds
  | _, _ => False
variable {H : Type} {enc : TypeId × Value → H} {P : Program} {W : World}
theorem rep_pack {S : List TypeId} (hS : closedT P S = true) {held : Bool} {t : TypeId} {v : Value} {d : DataW H} {ps : List MemPlace} {base : Nat} (ht : t ∈ S) (hv : Value.okWide P W .any base t v)
    (h : DataW.Trod enc P W 0 (fun _ => true) held t v d ps) : ∃ n cs, Fit P n t cs ∧ cs.length = szOf P t ∧ Rep (persAll W) [] v (packT (aggT P t) cs) ∧ (packT (aggT P t) cs).noOwn = true := by
  obtain ⟨n, h⟩ := h
  obtain ⟨cs, h1, h2, h3, h4, h5⟩ := got_of hS n t _ _ ht h
  have ho := fit_own1 n t cs h2
  have hs := List.all_eq_true.1 hS t ht
  refine ⟨n, cs, h2, h4, ?_⟩
  have hv' := hv
  unfold Value.okWide at hv'
  cases hag : aggT P t with
  | true =>
    have : ∃ vs, v = .agg vs := by
      unfold aggT at hag
      split at hag
      · rename_i hu; rw [hu] at hv'; obtain ⟨vs, e, _⟩ := hv'; exact ⟨vs, e⟩
      · rename_i hu; rw [hu] at hv'; obtain ⟨vs, e, _⟩ := hv'; exact ⟨vs, e⟩
      · cases hag
    obtain ⟨vs, rfl⟩ := this
    refine ⟨?_, ?_⟩
    · show Rep (persAll W) [] (.agg ⟨vs.toList⟩) (.agg cs)
      exact .agg vs.toList cs h1.1 h1.2
    · show cs.all AV.noOwn1 = true
      exact List.all_eq_true.2 fun x hx => (ho x hx).1
  | false =>
    obtain ⟨d, rfl, hd⟩ := h5 hag
    have hc : v.cells.toList = [v] := by
      cases v with
      | agg vs =>
        exfalso
        unfold aggT at hag
        cases hu : P.underlying t with
        | none => rw [hu] at hs; cases hs
        | some u => cases u <;> simp_all [Cell.okWide, Cell.ok]
      | _ => rfl
    rw [hc] at h1
    refine ⟨h1.2 0 _ _ rfl rfl, ?_⟩
    exact (ho d (by simp)).2
theorem args_read {S : List TypeId} (hS : closedT P S = true) {held : Bool} {base : Nat} : ∀ {ts : List TypeId} {vs : List Value} {ds : List (DataW H)} {ps : List MemPlace}, (∀ t ∈ ts, t ∈ S) →
    (∀ (j : Nat) t v, ts[j]? = some t → vs[j]? = some v → Value.okWide P W .any base t v) → DataW.TrodAll enc P W 0 (fun _ => true) held ts vs ds ps →
    ds.length = ts.length ∧ ∃ avs, RepL (persAll W) [] vs avs ∧ avs.all AV.noOwn = true ∧ FitL P ts avs
  | [], vs, ds, ps, _, _, h => by
    obtain ⟨rfl, rfl, rfl⟩ := trodAll_nil h
    exact ⟨rfl, [], repL_nil, rfl, trivial⟩
  | t :: ts, vs, ds, ps, hm, hv, h => by
    obtain ⟨v, vs', d, ds', p, q, rfl, rfl, rfl, h1, h2⟩ := trodAll_cons h
    obtain ⟨l, avs, g1, g2, g3⟩ := args_read hS (fun t ht => hm t (List.mem_cons_of_mem _ ht)) (fun j t v a b => hv (j + 1) t v (by simpa using a) (by simpa using b)) h2
    obtain ⟨n, cs, k1, k2, k3, k4⟩ := rep_pack hS (hm t List.mem_cons_self) (hv 0 t v rfl rfl) h1
    exact ⟨by simp [l], _ :: avs, repL_mk k3 g1, by simp [g2, k4], ⟨n, cs, k1, rfl, k2⟩, g3⟩
theorem args_shut (hl : laidOutB P = true) {W' : World} (hb : Below W.heap.size W W') : ∀ {ts : List TypeId} {vs : List Value} {ds : List (DataW H)} {ps : List MemPlace}, (∀ t ∈ ts, P.readableRec t = true ∧ t < P.types.size) →
    (∀ x ∈ ps, x.block < W.heap.size) → DataW.TrodAll enc P W 0 (fun _ => true) true ts vs ds ps → DataW.TrodAll enc P W' 0 (fun b => decide (b < W.heap.size)) true ts vs ds ps
  | [], vs, ds, ps, _, _, h => by
    obtain ⟨rfl, rfl, rfl⟩ := trodAll_nil h
    exact trodAll_mk0
  | t :: ts, vs, ds, ps, hm, hlt, h => by
    obtain ⟨v, vs', d, ds', p, q, rfl, rfl, rfl, h1, h2⟩ := trodAll_cons h
    have k1 := Below.trod hl (hm t List.mem_cons_self).1 (hm t List.mem_cons_self).2 h1 hb fun x hx => hlt x (by simp [hx])
    have k2 := args_shut hl hb (fun t ht => hm t (List.mem_cons_of_mem _ ht)) (fun x hx => hlt x (by simp [hx])) h2
    exact trodAll_cons_mk k1 k2
/-- The row. -/
theorem row_true {S : List TypeId} (hS : closedT P S = true) (hl : laidOutB P = true) {f : FuncId} {fm : Func} {s : ChangeSpec} (hps : fm.params.toList.all (fun t => S.contains t && (P.readableRec t && decide (t < P.types.size))) = true) (hvars : s.vars = []) {tb : TypeId} (hres : fm.resultTypes = #[tb])
    (hb : P.underlying tb = some .bool) (hsf : ∀ ds : List (DataW H), ds.length = fm.params.size → s.fn H ds = { results := [.lit (.bool true)], args := ds })
    (walk : ∀ (w : World) (args : Array Value) (avs : List AV), RepL (persAll w) [] args.toList avs → avs.all AV.noOwn = true → FitL P fm.params.toList avs → Calls P f args w fun e w' => e = .returned (.bool true) ∧ Below w.heap.size w w')
    {base : Nat} {args : Array Value} {ds gs : List (DataW H)} {before : List MemPlace} (hval : ∀ (j : Nat) t v, fm.params[j]? = some t → args[j]? = some v → Value.okWide P W .any base t v)
    (hW : DataW.Whole enc P fm.params.toList s.vars false W args.toList ds gs before) : Calls P f args W fun e W' => ∃ v, e = .returned v ∧ s.post enc P fm false true false false W args v W' := by
  have hW' := hW
  rw [hvars] at hW
  obtain ⟨p, q, hA, hV, rfl, hfz, hnd⟩ := hW
  obtain ⟨rfl, rfl⟩ := trodVars_none hV
  have hp : ∀ t ∈ fm.params.toList, t ∈ S ∧ P.readableRec t = true ∧ t < P.types.size := by
    intro t ht
    have := List.all_eq_true.1 hps t ht
    simpa using this
  obtain ⟨l, avs, g1, g2, g3⟩ := args_read (base := base) hS (fun t ht => (hp t ht).1) (fun j t v a b => hval j t v (by simpa using a) (by simpa using b)) hA
  refine (walk W args avs g1 g2 g3).mono fun e W' ⟨he, bel⟩ => ?_
  subst he
  have hlt : ∀ x ∈ p, x.block < W.heap.size := fun x hx => hW'.lt x (by simp [hx])
  have hf : s.fn H (ds ++ []) = { results := [.lit (.bool true)], args := ds } := by rw [List.append_nil]; exact hsf ds (by simpa using l)
  refine ⟨_, rfl, ds, [], _, [], p, [], hW', ?_, ?_, ?_, bel.frame _, fun h => by cases h⟩
  · rw [hf, hres]; exact trodAll_mk1 (shut_bool hb _)
  · rw [hf]; exact args_shut hl bel (fun t ht => (hp t ht).2) hlt hA
  · rw [hf, hvars]; rfl
end Go.Eng
 end

 section
set_option linter.unusedVariables false
set_option linter.unusedSimpArgs false
set_option linter.unusedSectionVars false
namespace Go.Eng
open Go
variable {P : Program} {n : Nat} {t : TypeId} {ds : List AV}
theorem fit_bool (hu : P.underlying t = some .bool) (h : Fit P n t ds) : ∃ b, ds = [.bool b] := by
  cases n with
  | zero => unfold Fit at h; exact h.elim
  | succ n => unfold Fit at h; rw [hu] at h; exact h
theorem fit_int {k : IntKind} (hu : P.underlying t = some (.int k)) (h : Fit P n t ds) : ∃ i, ds = [.int k i] ∧ (Lit.int k i).wf = true := by
  cases n with
  | zero => unfold Fit at h; exact h.elim
  | succ n => unfold Fit at h; rw [hu] at h; exact h
theorem fit_string (hu : P.underlying t = some .string) (h : Fit P n t ds) : ∃ s, ds = [.str s] ∧ s.length ≤ 9223372036854775807 := by
  cases n with
  | zero => unfold Fit at h; exact h.elim
  | succ n => unfold Fit at h; rw [hu] at h; exact h
theorem fit_slice {e : TypeId} (hu : P.underlying t = some (.slice e)) (h : Fit P n t ds) : ∃ m xs, n = m + 1 ∧ ds = [.sl false (szOf P e) xs] ∧ xs.length ≤ 9223372036854775807 ∧ ∀ x ∈ xs, ∃ cs, Fit P m e cs ∧ x = packT (aggT P e) cs := by
  cases n with
  | zero => unfold Fit at h; exact h.elim
  | succ n => unfold Fit at h; rw [hu] at h; obtain ⟨xs, h1, h2, h3⟩ := h; exact ⟨n, xs, rfl, h1, h2, h3⟩
def FitP (P : Program) (n : Nat) : List TypeId → List AV → Prop
  | [], ds => ds = []
  | t :: ts, ds => ∃ p q, ds = p ++ q ∧ Fit P n t p ∧ FitP P n ts q
theorem fitP_of {n : Nat} : ∀ {fs : List Field} {parts : List (List AV)}, parts.length = fs.length → (∀ (i : Nat) f p, fs[i]? = some f → parts[i]? = some p → Fit P n f.type p) → FitP P n (fs.map (·.type)) parts.flatten
  | [], [], _, _ => rfl
  | f :: fs, p :: parts, hl, h => ⟨p, parts.flatten, rfl, h 0 f p rfl rfl, fitP_of (by simpa using hl) fun i f p a b => h (i + 1) f p (by simpa using a) (by simpa using b)⟩
  | [], _ :: _, hl, _ => by simp at hl
  | _ :: _, [], hl, _ => by simp at hl
theorem fit_struct {fs : Array Field} {ts : List TypeId} (hu : P.underlying t = some (.struct fs)) (he : fs.toList.map (·.type) = ts) (h : Fit P n t ds) : ∃ m, n = m + 1 ∧ FitP P m ts ds := by
  cases n with
  | zero => unfold Fit at h; exact h.elim
  | succ n =>
    unfold Fit at h; rw [hu] at h
    obtain ⟨parts, rfl, h1, h2⟩ := h
    refine ⟨n, rfl, ?_⟩
    rw [← he]
    exact fitP_of (by simpa using h1) fun i f p a b => h2 i f p (by simpa using a) b
theorem fitL_nil {ds : List AV} (h : FitL P [] ds) : ds = [] := by
  cases ds with
  | nil => rfl
  | cons d ds => exact h.elim
theorem fitL_cons {t : TypeId} {ts : List TypeId} {ds : List AV} (h : FitL P (t :: ts) ds) : ∃ n cs ds', ds = packT (aggT P t) cs :: ds' ∧ Fit P n t cs ∧ FitL P ts ds' := by
  cases ds with
  | nil => exact h.elim
  | cons d ds =>
    obtain ⟨⟨n, cs, h1, rfl, _⟩, h2⟩ := h
    exact ⟨n, cs, ds, rfl, h1, h2⟩
theorem persAll_ok {w : World} : ∀ b o v, persAll w b o = some v → w.cell? ⟨b, o, none⟩ = some v := fun b o v h => h
end Go.Eng
 end

 section
set_option linter.unusedVariables false
set_option linter.unusedSimpArgs false
set_option linter.unusedSectionVars false
namespace Go.Eng
def tWriteByte (f : FuncId) (T E : TypeId) : CallT := ⟨f, false, fun ds mem _ K => match ds with
  | [.ptr b 0, .int .u8 n] => match mem[b]? with
    | some [.bld t e, .sl true z xs] => if t = T ∧ e = E ∧ z = 1 then roomL (xs.length + 1) 1 (K .nili (mem.set b [.bld t e, .sl true 1 (xs ++ [.int .u8 n])])) else none
    | _ => none
  | _ => none⟩
theorem tWriteByte_ok {Q : Prog} {f : FuncId} {T E : TypeId} (h : Q.ext f = some (eWriteByte T E)) : (tWriteByte f T E).Ok Q := by
  intro ds mem R K r hr
  simp only [tWriteByte] at hr
  split at hr
  · rename_i b s
    split at hr
    · rename_i t e z xs hm
      simp only [Option.ite_none_right_eq_some, roomL, Nat.mul_one] at hr
      obtain ⟨⟨h1, h2, h3⟩, ⟨h4, h5⟩, hr⟩ := hr
      exact ⟨_, _, call_ext h (by simp only [eWriteByte, hm]; rw [if_pos ⟨h1, h2, h3, h4⟩]), (fun hq => by cases hq), hr⟩
    · cases hr
  · cases hr
theorem writeByte_ren {T E : TypeId} : ExtRen (eWriteByte T E) := by
  intro ρ n N R ds mem d mem' M h S
  unfold eWriteByte at h
  split at h
  · rename_i b s
    split at h
    · rename_i t e z xs hm
      simp only [Option.ite_none_right_eq_some, Option.some.injEq, Prod.mk.injEq] at h
      obtain ⟨hc, rfl, rfl⟩ := h
      have := S.set R hm [.bld t e, .sl true 1 (xs ++ [.int .u8 s])]
      refine ⟨_, ?_, this.1, this.2, by simp⟩
      simp only [renL, AV.ren, eWriteByte]
      rw [S.some hm]
      simp only [renL, AV.ren]
      rw [if_pos hc]
    · cases h
  · cases h
def tTrimLeft (f : FuncId) : CallT := ⟨f, true, fun ds mem _ K => match ds with
  | [.str s, .str c] => if asciiOk c = true then K (.str (Lib.trimLeftS s c)) mem else none
  | _ => none⟩
theorem tTrimLeft_ok {Q : Prog} {f : FuncId} (h : Q.ext f = some eTrimLeft) : (tTrimLeft f).Ok Q := by
  intro ds mem R K r hr
  simp only [tTrimLeft] at hr
  split at hr
  · simp only [Option.ite_none_right_eq_some] at hr
    exact ⟨_, _, call_ext h (by simp only [eTrimLeft]; rw [if_pos hr.1]), fun _ => rfl, hr.2⟩
  · cases hr
theorem trimLeft_ren : ExtRen eTrimLeft := by
  intro ρ n N R ds mem d mem' M h S
  unfold eTrimLeft at h
  split at h
  · simp only [Option.ite_none_right_eq_some, Option.some.injEq, Prod.mk.injEq] at h
    obtain ⟨hc, rfl, rfl⟩ := h
    exact ⟨M, by simp only [renL, AV.ren, eTrimLeft]; rw [if_pos hc], .refl S⟩
  · cases h
end Go.Eng
 end
