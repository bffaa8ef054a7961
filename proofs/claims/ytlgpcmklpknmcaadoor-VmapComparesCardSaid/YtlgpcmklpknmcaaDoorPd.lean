/- VmapCompares is proved: for every two cores, on every system, the program's comparing is the reference's.
   Conditions: those of the given card alone; no other premise. -/
import Derived.Test.YtlgpcmklpknmcaaDoorYd
import Derived.Test.YtlgpcmklpknmcaaDoorPb
import Derived.Test.YtlgpcmklpknmcaaDoorPc
import Derived.Test.YtlgpcmklpknmcaaDoorEl
import Derived.Test.YtlgpcmklpknmcaaDoorTie
import Derived.Test.YtlgpcmklpknmcaaDoorCards
import Derived.WalkKit
import Derived.ProofKit
import Derived.OpenShut
import Derived.Below
import Derived.SizedLaws
import Derived.LaidMore
import Derived.Lay
import Derived.SevenTiedAt
import Derived.Stop.Joined
set_option linter.unusedVariables false
namespace Go.Proofs.YtlgpcmklpknmcaaDoor.vmapCompares
open Go.ChangeShapes Go.WideShapes Go.ChangeAt Go.RowKit
open Go.Eng

theorem g29 : aggT Tryd.prog 29 = true := by kernel_rfl
theorem g3 : aggT Tryd.prog 3 = false := by kernel_rfl
theorem z3 : szOf Tryd.prog 3 = 1 := by kernel_rfl
theorem own : ownKnob Tryd.prog.godebug = none := by kernel_rfl
theorem closed : closedT Tryd.prog [3, 9, 27, 29] = true := by kernel_rfl
theorem fit_nums {n : Nat} {ds : List AV} (h : Fit Tryd.prog n 27 ds) : ∃ ns : List Int, ds = [.sl false 1 (iA ns)] := by
  obtain ⟨m, xs, hm, rfl, hlen, hx⟩ := fit_slice Tryd.underlying27 h
  have : ∃ ns : List Int, xs = iA ns := by
    clear h hlen
    induction xs with
    | nil => exact ⟨[], rfl⟩
    | cons x xs ih =>
      obtain ⟨ns, rfl⟩ := ih fun y hy => hx y (List.mem_cons_of_mem _ hy)
      obtain ⟨cs, c1, hxe⟩ := hx x List.mem_cons_self
      obtain ⟨i, rfl, _⟩ := fit_int Tryd.underlying3 c1
      rw [g3] at hxe
      exact ⟨i :: ns, by rw [hxe]; rfl⟩
  obtain ⟨ns, rfl⟩ := this
  rw [z3]
  exact ⟨ns, rfl⟩
theorem fit_core {n : Nat} {ds : List AV} (h : Fit Tryd.prog n 29 ds) : ∃ (e : Int) (ns : List Int) (le pre : List UInt8) (pn rev : Int), ds = [.int .i64 e, .sl false 1 (iA ns), .str le, .str pre, .int .i64 pn, .int .i64 rev] := by
  obtain ⟨m, hm, p1, q1, rfl, h1, p2, q2, rfl, h2, p3, q3, rfl, h3, p4, q4, rfl, h4, p5, q5, rfl, h5, p6, q6, rfl, h6, rfl⟩ := fit_struct (ts := [3, 27, 9, 9, 3, 3]) Tryd.underlying29 rfl h
  obtain ⟨e, rfl, _⟩ := fit_int Tryd.underlying3 h1
  obtain ⟨ns, rfl⟩ := fit_nums h2
  obtain ⟨le, rfl, _⟩ := fit_string Tryd.underlying9 h3
  obtain ⟨pre, rfl, _⟩ := fit_string Tryd.underlying9 h4
  obtain ⟨pn, rfl, _⟩ := fit_int Tryd.underlying3 h5
  obtain ⟨rev, rfl, _⟩ := fit_int Tryd.underlying3 h6
  exact ⟨e, ns, le, pre, pn, rev, rfl⟩
theorem walk (w : World) (args : Array Value) (avs : List AV) (hr : RepL (persAll w) [] args.toList avs) (ho : avs.all AV.noOwn = true) (hf : FitL Tryd.prog Tryd.f10.params.toList avs) :
    Calls Tryd.prog 10 args w fun e w' => e = .returned (.bool true) ∧ Below w.heap.size w w' := by
  rw [Tryd.params10] at hf
  obtain ⟨n1, c1, d1, rfl, h1, hf⟩ := fitL_cons hf
  obtain ⟨n2, c2, d2, rfl, h2, hf⟩ := fitL_cons hf
  obtain rfl := fitL_nil hf
  obtain ⟨e, ns, le, pre, pn, rev, rfl⟩ := fit_core h1
  obtain ⟨e', ns', le', pre', pn', rev', rfl⟩ := fit_core h2
  rw [g29] at hr ho
  cases args
  have h5 : (lim tp).call 10 [.agg [.int .i64 e, .sl false 1 (iA ns), .str le, .str pre, .int .i64 pn, .int .i64 rev], .agg [.int .i64 e', .sl false 1 (iA ns'), .str le', .str pre', .int .i64 pn', .int .i64 rev']] [] = some (.bool true, []) :=
    fnU_any tp_ren (c := Cod.bool) (compares_law awake_true e e' ns ns' le le' pre pre' pn pn' rev rev') rfl rfl []
  exact walk_of tp_ok Tryd.func10 rfl (by kernel_rfl) persAll_ok hr ho h5
set_option maxRecDepth 100000 in
theorem lifted (os : Os) (started : os.Started) (H : Type) (enc : TypeId × Value → H) :
    ReturnsInHanded {} Tryd.checked os 10 .any (fun w args => (Rows.vmapComparesSpec.pre enc Tryd.prog Tryd.f10 Rows.vmapComparesRow.domain false w args ∧ laidMetH Tryd.prog Rows.vmapComparesRow.laid w) ∧ sizedMet enc Tryd.prog Tryd.f10 (OpenSpec.ofChange Rows.vmapComparesSpec) false w args)
      (Rows.vmapComparesSpec.post enc Tryd.prog Tryd.f10 false true false false) := by
  refine returnsInHanded_of_change_and (C := Tryd.checked) (X := fun w _ => laidMetH Tryd.prog Rows.vmapComparesRow.laid w) (fun _ _ _ hh h => h.of_heap hh) own started (by kernel_rfl) Tryd.func10
    (ChangeSpec.witness_shaped (enc := enc) (C := Tryd.checked) (os := os) (X := fun w _ => laidMetH Tryd.prog Rows.vmapComparesRow.laid w) false (World.laidAll Tryd.prog os Rows.vmapComparesRow.laid) #[.agg #[.int .i64 0, .slice none 0 0, .string ByteArray.empty, .string ByteArray.empty, .int .i64 0, .int .i64 0], .agg #[.int .i64 0, .slice none 0 0, .string ByteArray.empty, .string ByteArray.empty, .int .i64 0, .int .i64 0]] 8 (World.laidAll_os _ _ _)
      (World.shaped_of_ZipB (by kernel_rfl) (by kernel_rfl)) (by kernel_rfl) (by kernel_rfl) (by kernel_rfl)
      (by rw [MakeChecks.laidMetH_plain _ _ _ (by kernel_rfl)]; exact laidMet_laidAll _ (by kernel_rfl) (by kernel_rfl))) ?_
  intro W base args ds gs before hval hW hcnd hsz hL _
  exact row_true closed (by kernel_rfl) (by kernel_rfl) rfl (tb := 4) (by kernel_rfl) Tryd.underlying4 (fun ds h => by
    match ds, h with
    | [a, b], _ => rfl) walk hval hW
theorem row_holds : Rows.VmapComparesSaid :=
  OpenClaim.holds_of_wide 10 Tryd.f10 rfl rfl rfl rfl rfl rfl rfl ⟨rfl, rfl, rfl, rfl, rfl⟩ rfl rfl rfl rfl rfl (by kernel_rfl) Tryd.func10 (by kernel_rfl)
    (of_decide_eq_true (by kernel_rfl)) (by unfold Func.isWrapper; first | (rw [if_pos (by decide +kernel)]; kernel_rfl) | (rw [if_neg (by decide +kernel)]; exact ⟨rfl, rfl⟩))
    (fun os started H enc _ => lifted os started H enc)
theorem proved : Rows.VmapComparesCardSaid :=
  Claim7.holds_tied_plain_at .later [] [.data, .pinned] true (true, "d5e453901ad4ef34035fa10401a7529025d63f0b9a8f5f2d5da604c4e6576016") true
    row_holds (fun _ h => by cases h) (by kernel_rfl) (fun _ h => by cases h) vmapCompares_row_tie rfl ⟨rfl, rfl⟩ (by kernel_rfl) rfl
    (fun f fn hf hfn => by
      obtain rfl : f = 10 := Option.some.inj ((show Tryd.prog.funcNamed "drayage/drayagelaw13.VmapCompares" = some 10 by kernel_rfl).symm.trans hf) |>.symm
      obtain rfl : fn = Tryd.f10 := (Option.some.inj (Tryd.func10.symm.trans hfn)).symm
      exact ⟨by kernel_rfl, fun j t ht => by
        rw [Tryd.params10] at ht
        have hm : t ∈ [29, 29] := by simpa using Array.mem_of_getElem? ht
        have hall : ([29, 29].all fun u => !Tryd.prog.wantsStandIn u) = true := by kernel_rfl
        exact (show Tryd.prog.wantsStandIn t = false by simpa using List.all_eq_true.1 hall t hm)⟩)
    (by kernel_rfl)
end Go.Proofs.YtlgpcmklpknmcaaDoor.vmapCompares
