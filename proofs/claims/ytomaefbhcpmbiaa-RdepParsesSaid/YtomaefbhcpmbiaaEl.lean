/- The run in continuations: code, loops, functions; and calls at any memory.
   The tables of what is told; contracts of functions without a text, in continuations.
   From a run of the engine to what a row asks. -/
import Derived.Test.YtomaefbhcpmbiaaEk
import Derived.Test.YtomaefbhcpmbiaaEi
import Derived.Below
 section
set_option linter.unusedVariables false
set_option linter.unusedSimpArgs false
set_option linter.unusedSectionVars false
namespace Go.Eng
 section
variable {R : Type}

def codeK (H : Hd) : RCode → Env → Mem → (RExit → Env → Mem → Option R) → Option R
  | .skip, env, mem, K => K .normal env mem
  | .stop, env, mem, K => none
  | .region dr live gs, env, mem, K => grpK H dr (flatG gs) gs 0 [] env mem fun F env' mem' => if F.all (fun t => !live.contains t) then K .normal (only live env') mem' else none
  | .seq a b, env, mem, K => codeK H a env mem fun x e m => match x with
    | .normal => codeK H b e m K
    | .exit id => K (.exit id) e m
    | .ret => K .ret e m
  | .cond c x y, env, mem, K => match c.ev env with
    | .bool b => cond b (codeK H x env mem K) (codeK H y env mem K)
    | _ => none
  | .block id c, env, mem, K => codeK H c env mem fun x e m => match x with
    | .normal => K .normal e m
    | .exit id' => if id' = id then K .normal e m else K (.exit id') e m
    | .ret => K .ret e m
  | .loop id live c, env, mem, K => H.loop id (only live env) mem K
  | .cut id live out c, env, mem, K => H.loop id (only live env) mem K
  | .frame c, env, mem, K => codeK H c env mem fun x e m => K x (scrubL mem.length e) (m.take mem.length)
  | .exit id live, env, mem, K => K (.exit id) (only live env) mem
  | .ret live, env, mem, K => K .ret (only live env) mem

def execCut (Φ : Oracle) (out : List Nat) (c : RCode) (env : Env) (mem : Mem) : Option (RExit × Env × Mem) :=
  match exec Φ c env mem with
  | some (.normal, env', mem') => some (.normal, only out env', mem')
  | r => r

/-- What is told of the loops and cuts of a piece of code is so. -/
def LoopsOk (Q : Prog) (H : Hd) : RCode → Prop
  | .loop id live c => ∀ e mem (R : Type) (K : RExit → Env → Mem → Option R) r, H.loop id (only live e) mem K = some r → ∃ x e1 m1, (lim Q).loop live c (only live e) mem = some (x, e1, m1) ∧ K x e1 m1 = some r
  | .cut id live out c => ∀ e mem (R : Type) (K : RExit → Env → Mem → Option R) r, H.loop id (only live e) mem K = some r → ∃ x e1 m1, execCut (lim Q) out c (only live e) mem = some (x, e1, m1) ∧ K x e1 m1 = some r
  | .seq a b => LoopsOk Q H a ∧ LoopsOk Q H b
  | .cond _ a b => LoopsOk Q H a ∧ LoopsOk Q H b
  | .block _ c => LoopsOk Q H c
  | .frame c => LoopsOk Q H c
  | _ => True

theorem only_same {F live : List Nat} {e e' : Env} (h : SameF F e e') (hF : F.all (fun t => !live.contains t) = true) : only live e = only live e' := by
  apply List.ext_getElem?
  intro i
  unfold only
  rw [List.getElem?_map, List.getElem?_map, List.getElem?_zipIdx, List.getElem?_zipIdx]
  by_cases hi : i < e.length
  · have hi' : i < e'.length := by rw [← h.len]; exact hi
    rw [List.getElem?_eq_getElem hi, List.getElem?_eq_getElem hi']
    simp only [Option.map_some, Nat.zero_add]
    by_cases hl : live.contains i = true
    · rw [if_pos hl, if_pos hl]
      have hn : i ∉ F := by
        intro hm
        have := List.all_eq_true.1 hF i hm
        rw [hl] at this; cases this
      have := h.get i hn
      rw [List.getD_eq_getElem?_getD, List.getD_eq_getElem?_getD, List.getElem?_eq_getElem hi, List.getElem?_eq_getElem hi'] at this
      simpa using this
    · rw [if_neg hl, if_neg hl]
  · rw [List.getElem?_eq_none (Nat.le_of_not_lt hi), List.getElem?_eq_none (by rw [← h.len]; omega)]

theorem codeK_sound {Q : Prog} {H : Hd} (hH : HdCalls Q H) : ∀ {c : RCode} (hL : LoopsOk Q H c) {env : Env} {mem : Mem} {K : RExit → Env → Mem → Option R} {r : R}, codeK H c env mem K = some r →
    ∃ x e1 m1, exec (lim Q) c env mem = some (x, e1, m1) ∧ K x e1 m1 = some r := by
  intro c
  induction c with
  | skip => intro _ env mem K r h; exact ⟨_, _, _, rfl, h⟩
  | stop => intro _ env mem K r h; cases h
  | region dr live gs =>
    intro _ env mem K r h
    simp only [codeK] at h
    obtain ⟨F1, e1, e1', m1, h1, h2, h3⟩ := grpK_sound hH (F := []) ⟨rfl, fun _ _ => rfl⟩ h
    simp only [Option.ite_none_right_eq_some] at h3
    obtain ⟨h4, h3⟩ := h3
    rw [only_same h2 h4] at h3
    refine ⟨_, _, _, ?_, h3⟩
    cases dr with
    | none =>
      simp only [execX] at h1
      simp only [exec, h1]
    | some p =>
      obtain ⟨wl, sx⟩ := p
      simp only [execX] at h1
      simp only [exec, h1]
  | seq a b iha ihb =>
    intro hL env mem K r h
    simp only [codeK] at h
    obtain ⟨x, e1, m1, h1, h2⟩ := iha hL.1 h
    cases x with
    | normal =>
      obtain ⟨x2, e2, m2, h3, h4⟩ := ihb hL.2 h2
      exact ⟨x2, e2, m2, by simp only [exec, h1, h3], h4⟩
    | exit id => exact ⟨_, e1, m1, by simp only [exec, h1], h2⟩
    | ret => exact ⟨_, e1, m1, by simp only [exec, h1], h2⟩
  | cond o a b iha ihb =>
    intro hL env mem K r h
    simp only [codeK] at h
    split at h
    · rename_i q hq
      cases q with
      | true =>
        obtain ⟨x, e1, m1, h1, h2⟩ := iha hL.1 h
        exact ⟨x, e1, m1, by simp only [exec, hq, h1], h2⟩
      | false =>
        obtain ⟨x, e1, m1, h1, h2⟩ := ihb hL.2 h
        exact ⟨x, e1, m1, by simp only [exec, hq, h1], h2⟩
    · cases h
  | block id c ih =>
    intro hL env mem K r h
    simp only [codeK] at h
    obtain ⟨x, e1, m1, h1, h2⟩ := ih hL h
    cases x with
    | normal => exact ⟨_, e1, m1, by simp only [exec, h1], h2⟩
    | exit id' =>
      simp only at h2
      split at h2
      · rename_i hid; exact ⟨_, e1, m1, by simp only [exec, h1, if_pos hid], h2⟩
      · rename_i hid; exact ⟨_, e1, m1, by simp only [exec, h1, if_neg hid], h2⟩
    | ret => exact ⟨_, e1, m1, by simp only [exec, h1], h2⟩
  | loop id live c ih =>
    intro hL env mem K r h
    simp only [codeK] at h
    obtain ⟨x, e1, m1, h1, h2⟩ := hL env mem R K r h
    exact ⟨x, e1, m1, h1, h2⟩
  | cut id live out c ih =>
    intro hL env mem K r h
    simp only [codeK] at h
    obtain ⟨x, e1, m1, h1, h2⟩ := hL env mem R K r h
    exact ⟨x, e1, m1, h1, h2⟩
  | frame c ih =>
    intro hL env mem K r h
    simp only [codeK] at h
    obtain ⟨x, e1, m1, h1, h2⟩ := ih hL h
    exact ⟨x, _, _, by simp only [exec, h1], h2⟩
  | exit id live => intro _ env mem K r h; exact ⟨_, _, _, rfl, h⟩
  | ret live => intro _ env mem K r h; exact ⟨_, _, _, rfl, h⟩
 end

/-! ### Environments of a known form -/
def AV.isJunk : AV → Bool
  | .junk => true
  | _ => false
theorem isJunk_eq {d : AV} (h : d.isJunk = true) : d = .junk := by cases d <;> first | rfl | cases h
def mkEnv (n : Nat) (ks : List Nat) (ds : List AV) : Env := (List.range n).map fun i => ((ks.zip ds).lookup i).getD .junk
def canon (n : Nat) (ks : List Nat) (e : Env) : Bool := e.length == n && e.zipIdx.all fun (d, i) => ks.contains i || d.isJunk
theorem lookup_zip {f : Nat → AV} (i : Nat) : ∀ (ks : List Nat) (rest : List AV), (ks.zip (ks.map f ++ rest)).lookup i = if ks.contains i then some (f i) else none
  | [], rest => by simp
  | k :: ks, rest => by
    simp only [List.map_cons, List.cons_append, List.zip_cons_cons, List.lookup_cons]
    by_cases h : i = k
    · subst h; simp
    · have h1 : (i == k) = false := by simpa using h
      rw [h1, lookup_zip i ks rest]
      have h2 : (k :: ks).contains i = ks.contains i := by simp only [List.contains_cons, h1, Bool.false_or]
      rw [h2]
theorem mkEnv_canon {n : Nat} {ks : List Nat} {e : Env} (h : canon n ks e = true) (rest : List AV) : mkEnv n ks ((ks.map (fun k => e.getD k .junk) ++ rest).take ks.length) = e := by
  rw [List.take_left' (by simp)]
  have happ : ks.map (fun k => e.getD k .junk) = ks.map (fun k => e.getD k .junk) ++ [] := by simp
  rw [happ]
  unfold canon at h
  simp only [Bool.and_eq_true, beq_iff_eq] at h
  obtain ⟨rfl, h⟩ := h
  unfold mkEnv
  apply List.ext_getElem?
  intro i
  rw [List.getElem?_map]
  by_cases hi : i < e.length
  · rw [List.getElem?_range hi]
    simp only [Option.map_some]
    rw [lookup_zip i ks []]
    have hget : e[i]? = some e[i] := List.getElem?_eq_getElem hi
    by_cases hk : ks.contains i = true
    · rw [if_pos hk, List.getD_eq_getElem?_getD, hget]; rfl
    · rw [if_neg hk, hget]
      have := all_zipIdx h hget
      simp only [hk, Bool.false_or] at this
      rw [isJunk_eq this]; rfl
  · have hr : (List.range e.length)[i]? = none := by rw [List.getElem?_eq_none]; simpa using hi
    rw [hr, List.getElem?_eq_none (Nat.le_of_not_lt hi)]; rfl
theorem cells_agg (m : Mem) : (m.map AV.agg).map AV.cells = m := by
  rw [List.map_map]
  have : AV.cells ∘ AV.agg = id := by funext x; rfl
  rw [this, List.map_id]

/-- How an exit's state is written, and read. -/
structure XCod (α : Type) where
  dec : RExit → Env → Mem → Option α
  enc : α → RExit × Env × Mem
  el : α → {R : Type} → (RExit → Env → Mem → Option R) → Option R
  ok : ∀ x e m v, dec x e m = some v → enc v = (x, e, m)
  eok : ∀ v (R : Type) (K : RExit → Env → Mem → Option R), el v K = K (enc v).1 (enc v).2.1 (enc v).2.2

def XCod.one {α : Type} (x : RExit) (n : Nat) (ks : List Nat) (c : CodL α) : XCod α where
  dec x' e m := if x' = x ∧ canon n ks e = true then c.dec (ks.map (fun k => e.getD k .junk) ++ m.map .agg) else none
  enc v := (x, mkEnv n ks ((c.enc v).take ks.length), ((c.enc v).drop ks.length).map AV.cells)
  el v _ K := K x (mkEnv n ks ((c.enc v).take ks.length)) (((c.enc v).drop ks.length).map AV.cells)
  ok x' e m v h := by
    simp only [Option.ite_none_right_eq_some] at h
    obtain ⟨⟨rfl, hc⟩, h⟩ := h
    have := c.ok _ _ h
    rw [← this, mkEnv_canon hc]
    congr 2
    rw [List.drop_append_of_le_length (by simp), List.drop_of_length_le (by simp), List.nil_append, cells_agg]
  eok v R K := rfl
def XCod.alt {α β : Type} (x : RExit) (a : XCod α) (b : XCod β) : XCod (α ⊕ β) where
  dec x' e m := if x' = x then (a.dec x' e m).map .inl else (b.dec x' e m).map .inr
  enc v := match v with
    | .inl v => a.enc v
    | .inr v => b.enc v
  el v _ K := Sum.elim (fun v => a.el v K) (fun v => b.el v K) v
  ok x' e m v h := by
    split at h
    · obtain ⟨w, h1, rfl⟩ := Option.map_eq_some_iff.1 h; exact a.ok _ _ _ _ h1
    · obtain ⟨w, h1, rfl⟩ := Option.map_eq_some_iff.1 h; exact b.ok _ _ _ _ h1
  eok v R K := by
    cases v with
    | inl v => exact a.eok v R K
    | inr v => exact b.eok v R K

/-! ### Loops, cuts, functions as they are told -/
noncomputable def LoopU {β : Type} (Q : Prog) (live : List Nat) (c : RCode) (env : Env) (mem : Mem) (X : XCod β) : Option β := ((lim Q).loop live c env mem).bind fun r => X.dec r.1 r.2.1 r.2.2
noncomputable def CutU {β : Type} (Q : Prog) (out : List Nat) (c : RCode) (env : Env) (mem : Mem) (X : XCod β) : Option β := (execCut (lim Q) out c env mem).bind fun r => X.dec r.1 r.2.1 r.2.2
noncomputable def FnU {β : Type} (Q : Prog) (f : FuncId) (ds : List AV) (mem : Mem) (c : CodL β) : Option β := ((lim Q).call f ds mem).bind fun r => c.dec (r.1 :: r.2.map .agg)

def stateDec {α : Type} (n : Nat) (ks : List Nat) (c : CodL α) (env : Env) (mem : Mem) : Option α := if canon n ks env = true then c.dec (ks.map (fun k => env.getD k .junk) ++ mem.map .agg) else none
theorem stateDec_ok {α : Type} {n : Nat} {ks : List Nat} {c : CodL α} {env : Env} {mem : Mem} {v : α} (h : stateDec n ks c env mem = some v) : env = mkEnv n ks ((c.enc v).take ks.length) ∧ mem = ((c.enc v).drop ks.length).map AV.cells := by
  have := (XCod.one .normal n ks c).ok .normal env mem v (by
    unfold stateDec at h
    simp only [XCod.one, true_and]; exact h)
  simp only [XCod.one, Prod.mk.injEq, true_and] at this
  exact ⟨this.1.symm, this.2.symm⟩

def loopH {α β R : Type} (n : Nat) (ks : List Nat) (c : CodL α) (X : XCod β) (F : α → Option β) (env : Env) (mem : Mem) (K : RExit → Env → Mem → Option R) : Option R :=
  (stateDec n ks c env mem).bind fun v => (F v).bind fun w => X.el w K

theorem loopH_ok {α β R : Type} {Q : Prog} {n : Nat} {ks live : List Nat} {c : CodL α} {X : XCod β} {F : α → Option β} {body : RCode} (hF : ∀ v, F v = LoopU Q live body (mkEnv n ks ((c.enc v).take ks.length)) (((c.enc v).drop ks.length).map AV.cells) X)
    {env : Env} {mem : Mem} {K : RExit → Env → Mem → Option R} {r : R} (h : loopH n ks c X F env mem K = some r) : ∃ x e1 m1, (lim Q).loop live body env mem = some (x, e1, m1) ∧ K x e1 m1 = some r := by
  unfold loopH at h
  cases hv : stateDec n ks c env mem with
  | none => rw [hv] at h; cases h
  | some v =>
    rw [hv] at h
    simp only [Option.bind_some] at h
    cases hw : F v with
    | none => rw [hw] at h; cases h
    | some w =>
      rw [hw] at h
      simp only [Option.bind_some, X.eok] at h
      obtain ⟨e1, e2⟩ := stateDec_ok hv
      rw [hF, ← e1, ← e2] at hw
      unfold LoopU at hw
      cases hl : (lim Q).loop live body env mem with
      | none => rw [hl] at hw; cases hw
      | some p =>
        rw [hl] at hw
        simp only [Option.bind_some] at hw
        have := X.ok _ _ _ _ hw
        rw [this] at h
        exact ⟨_, _, _, rfl, h⟩
theorem cutH_ok {α β R : Type} {Q : Prog} {n : Nat} {ks out : List Nat} {c : CodL α} {X : XCod β} {F : α → Option β} {body : RCode} (hF : ∀ v, F v = CutU Q out body (mkEnv n ks ((c.enc v).take ks.length)) (((c.enc v).drop ks.length).map AV.cells) X)
    {env : Env} {mem : Mem} {K : RExit → Env → Mem → Option R} {r : R} (h : loopH n ks c X F env mem K = some r) : ∃ x e1 m1, execCut (lim Q) out body env mem = some (x, e1, m1) ∧ K x e1 m1 = some r := by
  unfold loopH at h
  cases hv : stateDec n ks c env mem with
  | none => rw [hv] at h; cases h
  | some v =>
    rw [hv] at h
    simp only [Option.bind_some] at h
    cases hw : F v with
    | none => rw [hw] at h; cases h
    | some w =>
      rw [hw] at h
      simp only [Option.bind_some, X.eok] at h
      obtain ⟨e1, e2⟩ := stateDec_ok hv
      rw [hF, ← e1, ← e2] at hw
      unfold CutU at hw
      cases hl : execCut (lim Q) out body env mem with
      | none => rw [hl] at hw; cases hw
      | some p =>
        rw [hl] at hw
        simp only [Option.bind_some] at hw
        have := X.ok _ _ _ _ hw
        rw [this] at h
        exact ⟨_, _, _, rfl, h⟩

/-- One round: on, or out. -/
def roundK {α β : Type} (live : List Nat) (n : Nat) (ks : List Nat) (c : CodL α) (X : XCod β) (F : α → Option β) (x : RExit) (e : Env) (m : Mem) : Option β := match x with
  | .normal => (stateDec n ks c (only live e) m).bind F
  | .exit id => X.dec (.exit id) e m
  | .ret => X.dec .ret e m
theorem round_ok {α β : Type} {Q : Prog} {H : Hd} (hH : HdCalls Q H) {n : Nat} {ks live : List Nat} {c : CodL α} {X : XCod β} {F : α → Option β} {body : RCode} (hL : LoopsOk Q H body)
    (hF : ∀ v, F v = LoopU Q live body (mkEnv n ks ((c.enc v).take ks.length)) (((c.enc v).drop ks.length).map AV.cells) X) {env : Env} {mem : Mem} {w : β} (h : codeK H body env mem (roundK live n ks c X F) = some w) : LoopU Q live body env mem X = some w := by
  obtain ⟨x, e1, m1, h1, h2⟩ := codeK_sound hH hL h
  cases x with
  | normal =>
    simp only [roundK] at h2
    cases hv : stateDec n ks c (only live e1) m1 with
    | none => rw [hv] at h2; cases h2
    | some v =>
      rw [hv] at h2
      simp only [Option.bind_some] at h2
      obtain ⟨g1, g2⟩ := stateDec_ok hv
      rw [hF, ← g1, ← g2] at h2
      unfold LoopU at h2 ⊢
      cases hl : (lim Q).loop live body (only live e1) m1 with
      | none => rw [hl] at h2; cases h2
      | some p => rw [hl] at h2; rw [loop_on h1 hl]; exact h2
  | exit id =>
    unfold LoopU
    rw [loop_out h1 (by simp)]; exact h2
  | ret =>
    unfold LoopU
    rw [loop_out h1 (by simp)]; exact h2
def cutK {β : Type} (out : List Nat) (X : XCod β) (x : RExit) (e : Env) (m : Mem) : Option β := match x with
  | .normal => X.dec .normal (only out e) m
  | .exit id => X.dec (.exit id) e m
  | .ret => X.dec .ret e m
theorem cut_ok {β : Type} {Q : Prog} {H : Hd} (hH : HdCalls Q H) {out : List Nat} {X : XCod β} {body : RCode} (hL : LoopsOk Q H body) {env : Env} {mem : Mem} {w : β} (h : codeK H body env mem (cutK out X) = some w) : CutU Q out body env mem X = some w := by
  obtain ⟨x, e1, m1, h1, h2⟩ := codeK_sound hH hL h
  unfold CutU execCut
  rw [h1]
  cases x <;> exact h2
def finK {β : Type} (fn : RFunc) (l0 : Nat) (c : CodL β) (x : RExit) (e : Env) (m : Mem) : Option β := match x with
  | .exit _ => none
  | _ => match resAVs e m fn.results with
    | some ds => if fn.keep || m.length == l0 then c.dec (pack ds :: m.map .agg) else c.dec ((pack ds).scrub l0 :: (m.take l0).map .agg)
    | none => none
theorem fn_ok {β : Type} {Q : Prog} {H : Hd} (hH : HdCalls Q H) {f : FuncId} {fn : RFunc} (he : Q.ext f = none) (hf : Q.fn f = some fn) (hL : LoopsOk Q H fn.body) {ds : List AV} {mem : Mem} {c : CodL β} {w : β} (hlen : ds.length ≤ fn.ntmps)
    (h : codeK H fn.body (ds ++ List.replicate (fn.ntmps - ds.length) .junk) mem (finK fn mem.length c) = some w) : FnU Q f ds mem c = some w := by
  obtain ⟨x, e1, m1, h1, h2⟩ := codeK_sound hH hL h
  have key : ∀ q, callBody (lim Q) fn ds mem = some q → c.dec (q.1 :: q.2.map .agg) = some w → FnU Q f ds mem c = some w := by
    intro q hq hw
    unfold FnU
    rw [call_fn he hf hq]; exact hw
  unfold callBody at key
  simp only [if_pos hlen, h1] at key
  unfold finK at h2
  split at h2
  · cases h2
  · rename_i hne
    cases hr : resAVs e1 m1 fn.results with
    | none => rw [hr] at h2; cases h2
    | some us =>
      rw [hr] at h2 key
      simp only at h2 key
      have key2 : ∀ q, (if fn.keep || m1.length == mem.length then some (pack us, m1) else some ((pack us).scrub mem.length, m1.take mem.length)) = some q → c.dec (q.1 :: q.2.map .agg) = some w → FnU Q f ds mem c = some w := by
        intro q hq hw
        cases x with
        | exit id => exact absurd rfl (hne id)
        | normal => exact key q hq hw
        | ret => exact key q hq hw
      split at h2
      · rename_i hk; exact key2 _ (if_pos hk) h2
      · rename_i hk; exact key2 _ (if_neg hk) h2

/-! ### Calls at any memory -/
/-- The variables handed in, in order; what is made behind them. -/
def rhoL (bs : List Nat) (L : Nat) (c : Nat) : Nat := match bs[c]? with
  | some b => b
  | none => L + (c - bs.length)
def incr : List Nat → Bool
  | [] => true
  | [_] => true
  | a :: b :: l => decide (a < b) && incr (b :: l)
theorem incr_lt : ∀ {l : List Nat}, incr l = true → ∀ {i j a b : Nat}, i < j → l[i]? = some a → l[j]? = some b → a < b
  | [], _, i, j, a, b, hij, ha, hb => by simp at ha
  | [x], _, i, j, a, b, hij, ha, hb => by
    have := lt_of_get hb; simp at this; omega
  | x :: y :: l, h, i, j, a, b, hij, ha, hb => by
    simp only [incr, Bool.and_eq_true, decide_eq_true_eq] at h
    match j, hij, hb with
    | j + 1, hij, hb =>
      simp only [List.getElem?_cons_succ] at hb
      cases i with
      | zero =>
        simp at ha; subst ha
        cases j with
        | zero => simp at hb; subst hb; exact h.1
        | succ j =>
          have := incr_lt h.2 (i := 0) (j := j + 1) (by omega) rfl hb
          omega
      | succ i =>
        simp only [List.getElem?_cons_succ] at ha
        exact incr_lt h.2 (by omega) ha hb
def setAll : Mem → List Nat → Mem → Mem
  | M, b :: bs, cs :: css => setAll (M.set b cs) bs css
  | M, _, _ => M
theorem setAll_len : ∀ (bs : List Nat) (css M : Mem), (setAll M bs css).length = M.length
  | [], css, M => by simp only [setAll]
  | b :: bs, [], M => rfl
  | b :: bs, cs :: css, M => by simp [setAll, setAll_len bs css]
theorem setAll_off : ∀ (bs : List Nat) (css M : Mem) (x : Nat), x ∉ bs → (setAll M bs css)[x]? = M[x]?
  | [], css, M, x, h => by simp only [setAll]
  | b :: bs, [], M, x, h => rfl
  | b :: bs, cs :: css, M, x, h => by
    simp only [List.mem_cons, not_or] at h
    simp only [setAll]
    rw [setAll_off bs css _ x h.2, List.getElem?_set_ne (Ne.symm h.1)]
theorem setAll_at : ∀ (bs : List Nat) (css M : Mem) (i b : Nat), incr bs = true → bs.length = css.length → bs[i]? = some b → b < M.length → (setAll M bs css)[b]? = css[i]?
  | [], css, M, i, b, h, hl, hb, hlt => by simp at hb
  | x :: bs, [], M, i, b, h, hl, hb, hlt => by simp at hl
  | x :: bs, cs :: css, M, i, b, h, hl, hb, hlt => by
    simp only [setAll]
    cases i with
    | zero =>
      simp at hb; subst hb
      have hn : x ∉ bs := by
        intro hm
        obtain ⟨j, hj⟩ := List.getElem?_of_mem hm
        have := incr_lt h (i := 0) (j := j + 1) (by omega) rfl (by simpa using hj)
        omega
      rw [setAll_off bs css _ x hn, List.getElem?_set_self hlt]; rfl
    | succ i =>
      have h' : incr bs = true := by
        cases bs with
        | nil => rfl
        | cons y l => simp only [incr, Bool.and_eq_true] at h; exact h.2
      rw [List.getElem?_cons_succ]
      exact setAll_at bs css _ i b h' (by simpa using hl) (by simpa using hb) (by simpa using hlt)

theorem rhoL_ok {bs : List Nat} {L : Nat} (hi : incr bs = true) (hb : ∀ b ∈ bs, b < L) : RenOk (rhoL bs L) bs.length L := by
  refine ⟨fun a c h => ?_, fun a h => ?_, fun a h => ?_⟩
  · unfold rhoL
    cases ha : bs[a]? with
    | some x =>
      cases hc : bs[c]? with
      | some y => exact incr_lt hi h ha hc
      | none => have := hb x (List.mem_of_getElem? ha); simp only; omega
    | none =>
      have := List.getElem?_eq_none_iff.1 ha
      rw [List.getElem?_eq_none (by omega)]
      simp only; omega
  · unfold rhoL
    rw [List.getElem?_eq_getElem h]
    exact hb _ (List.getElem_mem h)
  · unfold rhoL
    rw [List.getElem?_eq_none h]

/-- **A call told in the memory of what is handed in is told in any.** -/
theorem call_any {Q : Prog} (hQ : ProgRen Q) {f : FuncId} {ds : List AV} {d : AV} {css css' : Mem} (h : (lim Q).call f ds css = some (d, css')) {bs : List Nat} {M : Mem} (hi : incr bs = true) (hl : bs.length = css.length) (hl' : css'.length = css.length)
    (hb : ∀ (i : Nat) b, bs[i]? = some b → M[b]? = css[i]?) (hc : ∀ cs ∈ css, noPtrL cs = true) (hc' : ∀ cs ∈ css', noPtrL cs = true) (hd : d.noPtr = true) : (lim Q).call f (renL (rhoL bs M.length) ds) M = some (d, setAll M bs css') := by
  have hlt : ∀ b ∈ bs, b < M.length := by
    intro b hm
    obtain ⟨i, hi⟩ := List.getElem?_of_mem hm
    have h1 := hb i b hi
    have h2 : i < css.length := by rw [← hl]; exact lt_of_get hi
    rw [List.getElem?_eq_getElem h2] at h1
    exact lt_of_get h1
  have R := rhoL_ok hi hlt
  have S : Sim (rhoL bs M.length) bs.length M.length css M := by
    refine ⟨by omega, by omega, fun b hbl => ?_⟩
    have hbs : b < bs.length := by omega
    have hg : bs[b]? = some bs[b] := List.getElem?_eq_getElem hbs
    have hr : rhoL bs M.length b = bs[b] := by unfold rhoL; rw [hg]
    rw [hr, hb b _ hg]
    rw [List.getElem?_eq_getElem hbl]
    simp only [Option.map_some]
    rw [renL_id (hc _ (List.getElem_mem hbl))]
  obtain ⟨M', h1, S', hO, _⟩ := lim_ren hQ R h S
  rw [ren_id hd] at h1
  have hM : M' = setAll M bs css' := by
    have hlen : M'.length = M.length := by have := S'.len; omega
    apply List.ext_getElem?
    intro x
    by_cases hx : x ∈ bs
    · obtain ⟨i, hix⟩ := List.getElem?_of_mem hx
      have hil : i < css'.length := by have := lt_of_get hix; omega
      have h2 := S'.get i hil
      have hr : rhoL bs M.length i = x := by unfold rhoL; rw [hix]
      rw [hr, List.getElem?_eq_getElem hil] at h2
      simp only [Option.map_some] at h2
      rw [renL_id (hc' _ (List.getElem_mem hil))] at h2
      rw [h2, setAll_at bs css' M i x hi (by omega) hix (hlt x hx), List.getElem?_eq_getElem hil]
    · rw [setAll_off bs css' M x hx]
      rcases Nat.lt_or_ge x M.length with hlx | hge
      · refine hO x fun c e => ?_
        unfold rhoL at e
        cases hc2 : bs[c]? with
        | some b => rw [hc2] at e; simp only at e; subst e; exact hx (List.mem_of_getElem? hc2)
        | none => rw [hc2] at e; simp only at e; omega
      · rw [List.getElem?_eq_none hge, List.getElem?_eq_none (by omega)]
  rw [hM] at h1; exact h1

/-- A function that is handed no pointer. -/
theorem fnU_any {β : Type} {Q : Prog} (hQ : ProgRen Q) {f : FuncId} {ds : List AV} {c : Cod β} {v : β} (h : FnU Q f ds [] (.one c) = some v) (hfr : c.fr = true) (hds : noPtrL ds = true) (M : Mem) : (lim Q).call f ds M = some (c.enc v, M) := by
  unfold FnU at h
  cases hc : (lim Q).call f ds [] with
  | none => rw [hc] at h; cases h
  | some p =>
    obtain ⟨d, m⟩ := p
    rw [hc] at h
    simp only [Option.bind_some, CodL.one] at h
    cases m with
    | nil =>
      have e := c.ok _ _ h
      rw [e] at hc
      exact lim_frame hQ hc hds (c.free hfr v) M
    | cons x m => cases h
end Go.Eng
 end

 section
set_option linter.unusedVariables false
set_option linter.unusedSimpArgs false
set_option linter.unusedSectionVars false
namespace Go.Eng

def mkAnn (tk : List (Nat × Nat × List Bool)) (live : List (Nat × List Nat)) (keep : Bool) (wl : List (Nat × List Nat)) (sx : List (Nat × List (Nat × List Nat))) (out : List (Nat × List Nat)) (mac : List (Nat × Nat))
    (nk : List (Nat × Nat × List Nat)) (cut : List (Nat × List Nat × List Nat)) (exl : List (Nat × List Nat)) (ret : List Nat) (res : List Bool) (sg : List (Nat × List (Nat × Option Nat))) (sh : List (Nat × Nat × Sh)) (fr : List Nat) : Ann where
  tk r i := ((tk.find? fun x => x.1 == r && x.2.1 == i).map (·.2.2)).getD []
  live r := (live.lookup r).getD []
  keep := keep
  wl r := (wl.lookup r).getD []
  sx r := (sx.lookup r).getD []
  out r := (out.lookup r).getD []
  mac r := mac.lookup r
  nk r i := ((nk.find? fun x => x.1 == r && x.2.1 == i).map (·.2.2)).getD []
  cut r := cut.lookup r
  exl r := (exl.lookup r).getD []
  ret := ret
  res := res
  sg r := (sg.lookup r).getD []
  sh r i := ((sh.find? fun x => x.1 == r && x.2.1 == i).map (·.2.2)).getD .any
  fr r := fr.contains r

def argEnv (n : Nat) (ds : List AV) : Env := ds ++ List.replicate (n - ds.length) .junk

/-! ### What is told of loops: of a piece of code from its parts -/
def noLoops : RCode → Bool
  | .loop _ _ _ => false
  | .cut _ _ _ _ => false
  | .seq a b => noLoops a && noLoops b
  | .cond _ a b => noLoops a && noLoops b
  | .block _ c => noLoops c
  | .frame c => noLoops c
  | _ => true
theorem lo_none {Q : Prog} {H : Hd} : ∀ {c : RCode}, noLoops c = true → LoopsOk Q H c := by
  intro c
  induction c with
  | seq a b iha ihb => intro h; simp only [noLoops, Bool.and_eq_true] at h; exact ⟨iha h.1, ihb h.2⟩
  | cond o a b iha ihb => intro h; simp only [noLoops, Bool.and_eq_true] at h; exact ⟨iha h.1, ihb h.2⟩
  | block i c ih => intro h; exact ih h
  | frame c ih => intro h; exact ih h
  | loop i l c ih => intro h; cases h
  | cut i l o c ih => intro h; cases h
  | skip => intro h; trivial
  | stop => intro h; trivial
  | region d l g => intro h; trivial
  | exit i l => intro h; trivial
  | ret l => intro h; trivial
theorem lo_seq {Q : Prog} {H : Hd} {a b : RCode} (h : LoopsOk Q H a) (k : LoopsOk Q H b) : LoopsOk Q H (.seq a b) := ⟨h, k⟩
theorem lo_cond {Q : Prog} {H : Hd} {o : Opd} {a b : RCode} (h : LoopsOk Q H a) (k : LoopsOk Q H b) : LoopsOk Q H (.cond o a b) := ⟨h, k⟩
theorem lo_block {Q : Prog} {H : Hd} {i : Nat} {c : RCode} (h : LoopsOk Q H c) : LoopsOk Q H (.block i c) := h
theorem lo_frame {Q : Prog} {H : Hd} {c : RCode} (h : LoopsOk Q H c) : LoopsOk Q H (.frame c) := h
theorem lo_loop {Q : Prog} {H : Hd} {i : Nat} {l : List Nat} {c : RCode} (h : ∀ e mem (R : Type) (K : RExit → Env → Mem → Option R) r, H.loop i (only l e) mem K = some r → ∃ x e1 m1, (lim Q).loop l c (only l e) mem = some (x, e1, m1) ∧ K x e1 m1 = some r) : LoopsOk Q H (.loop i l c) := h
theorem lo_cut {Q : Prog} {H : Hd} {i : Nat} {l o : List Nat} {c : RCode} (h : ∀ e mem (R : Type) (K : RExit → Env → Mem → Option R) r, H.loop i (only l e) mem K = some r → ∃ x e1 m1, execCut (lim Q) o c (only l e) mem = some (x, e1, m1) ∧ K x e1 m1 = some r) : LoopsOk Q H (.cut i l o c) := h

theorem lookup_mem {β : Type} {l : List (Nat × β)} {a : Nat} {b : β} (h : l.lookup a = some b) : (a, b) ∈ l := by
  induction l with
  | nil => cases h
  | cons x l ih =>
    obtain ⟨k, v⟩ := x
    rw [List.lookup_cons] at h
    split at h
    · rename_i he; cases h; rw [beq_iff_eq] at he; subst he; exact List.mem_cons_self
    · exact List.mem_cons_of_mem _ (ih h)

structure CallT where
  f : FuncId
  quiet : Bool
  run : List AV → Mem → {R : Type} → (AV → Mem → Option R) → Option R
structure LoopT where
  id : Nat
  run : Env → Mem → {R : Type} → (RExit → Env → Mem → Option R) → Option R
def mkHd (l : List CallT) (lp : List LoopT) : Hd where
  call f ds mem _ K := match l.find? (fun t => t.f == f) with
    | some t => t.run ds mem K
    | none => none
  loop id env mem _ K := match lp.find? (fun t => t.id == id) with
    | some t => t.run env mem K
    | none => none
  quiet f := match l.find? (fun t => t.f == f) with
    | some t => t.quiet
    | none => false
def CallT.Ok (Q : Prog) (t : CallT) : Prop := ∀ ds mem (R : Type) (K : AV → Mem → Option R) r, t.run ds mem K = some r → ∃ d mem', (lim Q).call t.f ds mem = some (d, mem') ∧ (t.quiet = true → mem' = mem) ∧ K d mem' = some r
theorem mkHd_ok {Q : Prog} {l : List CallT} {lp : List LoopT} (h : ∀ t ∈ l, t.Ok Q) : HdCalls Q (mkHd l lp) := by
  intro f ds mem R K r hr
  simp only [mkHd] at hr
  split at hr
  · rename_i t ht
    have hf : t.f = f := by have := List.find?_some ht; simpa using this
    obtain ⟨d, m, h1, h2, h3⟩ := h t (List.mem_of_find?_eq_some ht) ds mem R K r hr
    refine ⟨d, m, by rw [← hf]; exact h1, fun hq => h2 ?_, h3⟩
    simp only [mkHd, ht] at hq; exact hq
  · cases hr

theorem mkHd_loop {l : List CallT} {lp : List LoopT} {i : Nat} {t : LoopT} (h : lp.find? (fun t => t.id == i) = some t) {env : Env} {mem : Mem} {R : Type} {K : RExit → Env → Mem → Option R} : (mkHd l lp).loop i env mem K = t.run env mem K := by
  simp only [mkHd, h]
def LoopT.OkL (Q : Prog) (t : LoopT) (live : List Nat) (c : RCode) : Prop := ∀ e mem (R : Type) (K : RExit → Env → Mem → Option R) r, t.run (only live e) mem K = some r → ∃ x e1 m1, (lim Q).loop live c (only live e) mem = some (x, e1, m1) ∧ K x e1 m1 = some r
def LoopT.OkC (Q : Prog) (t : LoopT) (live out : List Nat) (c : RCode) : Prop := ∀ e mem (R : Type) (K : RExit → Env → Mem → Option R) r, t.run (only live e) mem K = some r → ∃ x e1 m1, execCut (lim Q) out c (only live e) mem = some (x, e1, m1) ∧ K x e1 m1 = some r
theorem lo_loopT {Q : Prog} {lc : List CallT} {lp : List LoopT} {t : LoopT} {i : Nat} {l : List Nat} {c : RCode} (h : t.OkL Q l c) (hf : lp.find? (fun t => t.id == i) = some t) : LoopsOk Q (mkHd lc lp) (.loop i l c) := by
  intro e mem R K r hr
  rw [mkHd_loop hf] at hr
  exact h e mem R K r hr
theorem lo_cutT {Q : Prog} {lc : List CallT} {lp : List LoopT} {t : LoopT} {i : Nat} {l o : List Nat} {c : RCode} (h : t.OkC Q l o c) (hf : lp.find? (fun t => t.id == i) = some t) : LoopsOk Q (mkHd lc lp) (.cut i l o c) := by
  intro e mem R K r hr
  rw [mkHd_loop hf] at hr
  exact h e mem R K r hr

def mkT {α β : Type} (id n : Nat) (ks : List Nat) (c : CodL α) (X : XCod β) (F : α → Option β) : LoopT := ⟨id, fun env mem _ K => loopH n ks c X F env mem K⟩
theorem mkT_okL {α β : Type} {Q : Prog} {id n : Nat} {ks live : List Nat} {c : CodL α} {X : XCod β} {F : α → Option β} {body : RCode} (hF : ∀ v, F v = LoopU Q live body (mkEnv n ks ((c.enc v).take ks.length)) (((c.enc v).drop ks.length).map AV.cells) X) : (mkT id n ks c X F).OkL Q live body :=
  fun e mem R K r h => loopH_ok hF h
theorem mkT_okC {α β : Type} {Q : Prog} {id n : Nat} {ks live out : List Nat} {c : CodL α} {X : XCod β} {F : α → Option β} {body : RCode} (hF : ∀ v, F v = CutU Q out body (mkEnv n ks ((c.enc v).take ks.length)) (((c.enc v).drop ks.length).map AV.cells) X) : (mkT id n ks c X F).OkC Q live out body :=
  fun e mem R K r h => cutH_ok hF h

/-- A function that is handed no pointer. -/
theorem pureT_ok {β : Type} {Q : Prog} (hQ : ProgRen Q) {f : FuncId} {ds : List AV} {c : Cod β} {F : Option β} (hF : F = FnU Q f ds [] (.one c)) (hfr : c.fr = true) (hds : noPtrL ds = true) {mem : Mem} {R : Type} {K : AV → Mem → Option R} {r : R}
    (h : (F.bind fun v => K (c.enc v) mem) = some r) : ∃ d mem', (lim Q).call f ds mem = some (d, mem') ∧ (true = true → mem' = mem) ∧ K d mem' = some r := by
  cases hv : F with
  | none => rw [hv] at h; cases h
  | some v =>
    rw [hv] at h
    rw [hF] at hv
    exact ⟨_, _, fnU_any hQ hv hfr hds mem, fun _ => rfl, h⟩

/-! ### Functions that are handed pointers -/
/-- The blocks at these numbers. -/
def getAll (M : Mem) : List Nat → Option Mem
  | [] => some []
  | b :: bs => match M[b]?, getAll M bs with
    | some cs, some css => some (cs :: css)
    | _, _ => none
theorem getAll_ok {M : Mem} : ∀ {bs : List Nat} {css : Mem}, getAll M bs = some css → bs.length = css.length ∧ ∀ (i : Nat) b, bs[i]? = some b → M[b]? = css[i]?
  | [], css, h => by cases h; exact ⟨rfl, fun i b hb => by simp at hb⟩
  | b :: bs, css, h => by
    unfold getAll at h
    split at h
    · rename_i cs css' h1 h2
      cases h
      obtain ⟨l1, l2⟩ := getAll_ok h2
      refine ⟨by simp [l1], fun i b' hb => ?_⟩
      cases i with
      | zero => simp at hb; subst hb; simpa using h1
      | succ i => simp at hb ⊢; exact l2 i b' hb
    · cases h
noncomputable def FnQ {β : Type} (Q : Prog) (f : FuncId) (ds : List AV) (mem : Mem) (c : Cod β) : Option β := ((lim Q).call f ds mem).bind fun r => if eqbM r.2 mem = true then c.dec r.1 else none
/-- It writes: its blocks are read anew. -/
theorem ptrT_ok {α β : Type} {Q : Prog} (hQ : ProgRen Q) {f : FuncId} {ds0 ds : List AV} {c : Cod β} {cm : CodL α} {css : Mem} {F : Option (β × α)} (hF : F = FnU Q f ds0 css (.cons c cm)) (hfr : c.fr = true) (hfm : cm.fr = true) {bs : List Nat} (hi : incr bs = true) {M : Mem} (hg : getAll M bs = some css)
    (hds : ds = renL (rhoL bs M.length) ds0) (hn : css.all noPtrL = true) (hl : ∀ v, (cm.enc v).length = bs.length) {R : Type} {K : AV → Mem → Option R} {r : R}
    (h : (F.bind fun v => K (c.enc v.1) (setAll M bs ((cm.enc v.2).map AV.cells))) = some r) : ∃ d mem', (lim Q).call f ds M = some (d, mem') ∧ (false = true → mem' = M) ∧ K d mem' = some r := by
  cases hv : F with
  | none => rw [hv] at h; cases h
  | some v =>
    rw [hv] at h
    simp only [Option.bind_some] at h
    rw [hF] at hv
    unfold FnU at hv
    cases hc : (lim Q).call f ds0 css with
    | none => rw [hc] at hv; cases hv
    | some p =>
      obtain ⟨d, m⟩ := p
      rw [hc] at hv
      simp only [Option.bind_some] at hv
      have e := (CodL.cons c cm).ok _ _ hv
      simp only [CodL.cons, List.cons.injEq] at e
      obtain ⟨e1, e2⟩ := e
      obtain ⟨l1, l2⟩ := getAll_ok hg
      have hm : m = (cm.enc v.2).map AV.cells := by rw [← e2, cells_agg]
      have hlm : m.length = bs.length := by rw [hm, List.length_map]; exact hl _
      have hfree := cm.free hfm v.2
      rw [← e2] at hfree
      have hmf : ∀ cs ∈ m, noPtrL cs = true := by
        intro cs hcs
        obtain ⟨i, hi⟩ := List.getElem?_of_mem hcs
        have : (m.map AV.agg)[i]? = some (.agg cs) := by rw [List.getElem?_map, hi]; rfl
        have := noPtrL_get hfree this
        exact this
      have key := call_any hQ hc hi l1 (by omega) l2 (List.all_eq_true.1 hn) hmf (by rw [e1]; exact c.free hfr _)
      rw [← hds] at key
      refine ⟨d, _, key, (fun h => by cases h), ?_⟩
      rw [hm, e1]; exact h
/-- It only reads. -/
theorem ptrQ_ok {β : Type} {Q : Prog} (hQ : ProgRen Q) {f : FuncId} {ds0 ds : List AV} {c : Cod β} {css : Mem} {F : Option β} (hF : F = FnQ Q f ds0 css c) (hfr : c.fr = true) {bs : List Nat} (hi : incr bs = true) {M : Mem} (hg : getAll M bs = some css)
    (hds : ds = renL (rhoL bs M.length) ds0) (hn : css.all noPtrL = true) {R : Type} {K : AV → Mem → Option R} {r : R}
    (h : (F.bind fun v => K (c.enc v) M) = some r) : ∃ d mem', (lim Q).call f ds M = some (d, mem') ∧ (true = true → mem' = M) ∧ K d mem' = some r := by
  cases hv : F with
  | none => rw [hv] at h; cases h
  | some v =>
    rw [hv] at h
    simp only [Option.bind_some] at h
    rw [hF] at hv
    unfold FnQ at hv
    cases hc : (lim Q).call f ds0 css with
    | none => rw [hc] at hv; cases hv
    | some p =>
      obtain ⟨d, m⟩ := p
      rw [hc] at hv
      simp only [Option.bind_some, Option.ite_none_right_eq_some] at hv
      obtain ⟨hm, hv⟩ := hv
      have := eqbM_eq _ _ hm
      subst this
      have e1 := c.ok _ _ hv
      obtain ⟨l1, l2⟩ := getAll_ok hg
      have key := call_any hQ hc hi l1 rfl l2 (List.all_eq_true.1 hn) (List.all_eq_true.1 hn) (by rw [e1]; exact c.free hfr _)
      rw [← hds] at key
      have hself : setAll M bs m = M := by
        apply List.ext_getElem?
        intro x
        by_cases hx : x ∈ bs
        · obtain ⟨i, hix⟩ := List.getElem?_of_mem hx
          have h2 := l2 i x hix
          have hlx : x < M.length := by
            have : i < m.length := by rw [← l1]; exact lt_of_get hix
            rw [List.getElem?_eq_getElem this] at h2
            exact lt_of_get h2
          rw [setAll_at bs m M i x hi l1 hix hlx, h2]
        · exact setAll_off bs m M x hx
      rw [hself] at key
      exact ⟨d, M, key, fun _ => rfl, by rw [e1]; exact h⟩

/-- A reader's end: its memory is as it was. -/
def finQ {β : Type} (P : Mem → Bool) (fn : RFunc) (l0 : Nat) (c : Cod β) (x : RExit) (e : Env) (m : Mem) : Option β := match x with
  | .exit _ => none
  | _ => match resAVs e m fn.results with
    | some ds => if fn.keep || m.length == l0 then cond (P m) (c.dec (pack ds)) none else cond (P (m.take l0)) (c.dec ((pack ds).scrub l0)) none
    | none => none
theorem fnQ_ok {β : Type} {Q : Prog} {H : Hd} (hH : HdCalls Q H) {f : FuncId} {fn : RFunc} (he : Q.ext f = none) (hf : Q.fn f = some fn) (hL : LoopsOk Q H fn.body) {ds : List AV} {mem : Mem} {c : Cod β} {w : β} (hlen : ds.length ≤ fn.ntmps)
    (h : codeK H fn.body (ds ++ List.replicate (fn.ntmps - ds.length) .junk) mem (finQ (fun m => eqbM m mem) fn mem.length c) = some w) : FnQ Q f ds mem c = some w := by
  obtain ⟨x, e1, m1, h1, h2⟩ := codeK_sound hH hL h
  have key : ∀ q, callBody (lim Q) fn ds mem = some q → eqbM q.2 mem = true → c.dec q.1 = some w → FnQ Q f ds mem c = some w := by
    intro q hq hm hw
    unfold FnQ
    rw [call_fn he hf hq]
    simp only [Option.bind_some, if_pos hm]; exact hw
  unfold callBody at key
  simp only [if_pos hlen, h1] at key
  unfold finQ at h2
  split at h2
  · cases h2
  · rename_i hne
    cases hr : resAVs e1 m1 fn.results with
    | none => rw [hr] at h2; cases h2
    | some us =>
      rw [hr] at h2 key
      simp only at h2 key
      have key2 : ∀ q, (if fn.keep || m1.length == mem.length then some (pack us, m1) else some ((pack us).scrub mem.length, m1.take mem.length)) = some q → cond (eqbM q.2 mem) (c.dec q.1) none = some w → FnQ Q f ds mem c = some w := by
        intro q hq hw
        cases hm : eqbM q.2 mem with
        | false => rw [hm] at hw; cases hw
        | true =>
          rw [hm] at hw
          cases x with
          | exit id => exact absurd rfl (hne id)
          | normal => exact key q hq hm hw
          | ret => exact key q hq hm hw
      split at h2
      · rename_i hk; exact key2 _ (if_pos hk) h2
      · rename_i hk; exact key2 _ (if_neg hk) h2

/-! ### Without a text -/
def tIndexByte (f : FuncId) : CallT := ⟨f, true, fun ds mem _ K => match ds with
  | [.str s, .int .u8 c] => K (.int .i64 (Lib.indexByte s c.toNat.toUInt8)) mem
  | _ => none⟩
theorem tIndexByte_ok {Q : Prog} {f : FuncId} (h : Q.ext f = some eIndexByte) : (tIndexByte f).Ok Q := by
  intro ds mem R K r hr
  simp only [tIndexByte] at hr
  split at hr
  · exact ⟨_, _, call_ext h rfl, fun _ => rfl, hr⟩
  · cases hr
def tWriteString (f : FuncId) (T E : TypeId) : CallT := ⟨f, false, fun ds mem _ K => match ds with
  | [.ptr b 0, .str s] => match mem[b]? with
    | some [.bld t e, .sl true z xs] => if t = T ∧ e = E ∧ z = 1 then roomL (xs.length + s.length) 1 (K (.tup [.int .i64 (s.length : Int), .nili]) (mem.set b [.bld t e, .sl true 1 (xs ++ s.map byte)])) else none
    | _ => none
  | _ => none⟩
theorem tWriteString_ok {Q : Prog} {f : FuncId} {T E : TypeId} (h : Q.ext f = some (eWriteString T E)) : (tWriteString f T E).Ok Q := by
  intro ds mem R K r hr
  simp only [tWriteString] at hr
  split at hr
  · rename_i b s
    split at hr
    · rename_i t e z xs hm
      simp only [Option.ite_none_right_eq_some, roomL, Nat.mul_one] at hr
      obtain ⟨⟨h1, h2, h3⟩, ⟨h4, h5⟩, hr⟩ := hr
      exact ⟨_, _, call_ext h (by simp only [eWriteString, hm]; rw [if_pos ⟨h1, h2, h3, h4⟩]), (fun hq => by cases hq), hr⟩
    · cases hr
  · cases hr
def bytesK {R : Type} (xs : List AV) (K : List UInt8 → Option R) : Option R := if xs.length ≤ 9223372036854775807 then (bytesL xs).bind K else none
def tString (f : FuncId) (T E : TypeId) : CallT := ⟨f, false, fun ds mem _ K => match ds with
  | [.ptr b 0] => match mem[b]? with
    | some [.bld t e, .sl true z xs] => if t = T ∧ e = E ∧ z = 1 then bytesK xs (fun l => K (.str l) (mem.set b [.bld t e, .sl false z xs])) else none
    | _ => none
  | _ => none⟩
theorem tString_ok {Q : Prog} {f : FuncId} {T E : TypeId} (h : Q.ext f = some (eString T E)) : (tString f T E).Ok Q := by
  intro ds mem R K r hr
  simp only [tString] at hr
  split at hr
  · rename_i b
    split at hr
    · rename_i t e z xs hm
      simp only [Option.ite_none_right_eq_some, bytesK] at hr
      obtain ⟨⟨h1, h2, h3⟩, h4, hr⟩ := hr
      cases hl : bytesL xs with
      | none => rw [hl] at hr; cases hr
      | some l =>
        rw [hl] at hr
        exact ⟨_, _, call_ext h (by simp only [eString, hm]; rw [if_pos ⟨h1, h2, h3, h4⟩]; simp only [hl]), (fun hq => by cases hq), hr⟩
    · cases hr
  · cases hr

theorem indexByte_ren : ExtRen eIndexByte := by
  intro ρ n N R ds mem d mem' M h S
  unfold eIndexByte at h
  split at h
  · cases h; exact ⟨M, rfl, .refl S⟩
  · cases h
theorem writeString_ren {T E : TypeId} : ExtRen (eWriteString T E) := by
  intro ρ n N R ds mem d mem' M h S
  unfold eWriteString at h
  split at h
  · rename_i b s
    split at h
    · rename_i t e z xs hm
      simp only [Option.ite_none_right_eq_some, Option.some.injEq, Prod.mk.injEq] at h
      obtain ⟨hc, rfl, rfl⟩ := h
      have := S.set R hm [.bld t e, .sl true 1 (xs ++ s.map byte)]
      refine ⟨_, ?_, this.1, this.2, by simp⟩
      simp only [renL, AV.ren, eWriteString]
      rw [S.some hm]
      simp only [renL, AV.ren]
      rw [if_pos hc]
    · cases h
  · cases h
theorem string_ren {T E : TypeId} : ExtRen (eString T E) := by
  intro ρ n N R ds mem d mem' M h S
  unfold eString at h
  split at h
  · rename_i b
    split at h
    · rename_i t e z xs hm
      simp only [Option.ite_none_right_eq_some] at h
      obtain ⟨hc, h⟩ := h
      split at h
      · rename_i l hl
        cases h
        have := S.set R hm [.bld t e, .sl false z xs]
        refine ⟨_, ?_, this.1, this.2, by simp⟩
        simp only [renL, AV.ren, eString]
        rw [S.some hm]
        simp only [renL, AV.ren]
        rw [if_pos hc]
        simp only [hl]
      · cases h
    · cases h
  · cases h
end Go.Eng
 end

 section
set_option linter.unusedVariables false
set_option linter.unusedSimpArgs false
set_option linter.unusedSectionVars false
namespace Go.Eng
open Go.RowKit

/-- The call returns true, and what was there is as it was. -/
theorem walk_of {P : Program} {Q : Prog} (hQ : ProgOk P Q) {f : FuncId} {fm : Func} {c : Code} (hf : P.funcs[f]? = some fm) (hb : fm.body = some c) (hn : (fm.name == "runtime.NumGoroutine") = false) {vs : List Value} {ds : List AV} {w : World} {p : Pers}
    (hp : ∀ b o v, p b o = some v → w.cell? ⟨b, o, none⟩ = some v) (hr : RepL p [] vs ds) (ho : ds.all AV.noOwn = true) (h : (lim Q).call f ds [] = some (.bool true, [])) :
    Calls P f ⟨vs⟩ w fun e w' => e = .returned (.bool true) ∧ Below w.heap.size w w' := by
  have hown : ∀ (us : List Value) (es : List AV), es.all AV.noOwn = true → ownL us es = [] := by
    intro us
    induction us with
    | nil => intro es _; simp [ownL]
    | cons u us ih =>
      intro es he
      cases es with
      | nil => simp [ownL]
      | cons e es =>
        simp only [List.all_cons, Bool.and_eq_true] at he
        have := ih es he.2
        unfold ownL at this ⊢
        simp only [List.zip_cons_cons, List.flatMap_cons, noOwn_own he.1, this, List.append_nil]
  have hcl : claims ⟨p, [], []⟩ vs ds [] = [] := by
    unfold claims ownM
    simp [hown vs ds ho]
  have hI : Inv ⟨p, [], []⟩ w vs ds [] [] := by
    refine ⟨hr, fun i v d a b => noOwn_ok (List.all_eq_true.1 ho d (List.mem_of_getElem? b)), rfl, rfl, hp, fun i b us cs k1 k2 k3 => by simp at k1, ?_, fun t ht => by simp at ht, fun i cs k => by simp at k⟩
    rw [hcl]; exact List.nodup_nil
  have hS := lim_sound hQ f ds [] (.bool true) [] h ⟨p, [], []⟩ w vs [] hI
  unfold OpPost at hS
  rw [run_callFunc hf hb hn] at hS
  refine hS.mono fun e w' ⟨v, he, g', i1, G⟩ => ?_
  have hv := rep_bool (i1.envRep.2 0 v _ rfl rfl)
  subst hv
  refine ⟨he, G.ext.os, G.ext.tape, G.ext.output, G.ext.size, fun k hk => (G.ext.same k hk ?_).1⟩
  rw [hcl]; simp
theorem all_cons {α : Type} {p : α → Prop} {x : α} {l : List α} (h : p x) (k : ∀ y ∈ l, p y) : ∀ y ∈ x :: l, p y := List.forall_mem_cons.2 ⟨h, k⟩
theorem all_nil {α : Type} {p : α → Prop} : ∀ y ∈ ([] : List α), p y := fun y h => by cases h
theorem noPers {w : World} : ∀ b o v, (fun _ _ => none : Pers) b o = some v → w.cell? ⟨b, o, none⟩ = some v := fun b o v h => by cases h
theorem rep_nothing {p : Pers} {bl : List Nat} {s : ByteArray} : Rep p bl (.string s) (.str s.data.toList) := Rep.str s.data.toList
end Go.Eng
 end
