/- VmapTranslates is proved: for every input, on every system.
   Conditions: those of the given card alone; no other premise. -/
import Derived.Test.YtlgpcmklpknmcaaDoorTd
import Derived.Test.YtlgpcmklpknmcaaDoorQe
import Derived.Test.YtlgpcmklpknmcaaDoorQf
import Derived.Test.YtlgpcmklpknmcaaDoorEl
import Derived.Test.YtlgpcmklpknmcaaDoorTie
import Derived.Test.YtlgpcmklpknmcaaDoorCards
import Derived.WalkKit
import Derived.ProofKit
import Derived.OpenShut
import Derived.Below
import Derived.SizedLaws
import Derived.LaidMore
import Derived.Lay
import Derived.SevenTiedAt
import Derived.Stop.Joined
set_option linter.unusedVariables false
namespace Go.Proofs.YtlgpcmklpknmcaaDoor.vmapTranslates
open Go.ChangeShapes Go.WideShapes Go.ChangeAt Go.RowKit
open Go.Eng

theorem g9 : aggT Tryd.prog 9 = false := by kernel_rfl
theorem g3 : aggT Tryd.prog 3 = false := by kernel_rfl
theorem own : ownKnob Tryd.prog.godebug = none := by kernel_rfl
theorem closed : closedT Tryd.prog [3, 9] = true := by kernel_rfl
theorem walk (w : World) (args : Array Value) (avs : List AV) (hr : RepL (persAll w) [] args.toList avs) (ho : avs.all AV.noOwn = true) (hf : FitL Tryd.prog Tryd.f5.params.toList avs) :
    Calls Tryd.prog 5 args w fun e w' => e = .returned (.bool true) ∧ Below w.heap.size w w' := by
  rw [Tryd.params5] at hf
  obtain ⟨n1, c1, d1, rfl, h1, hf⟩ := fitL_cons hf
  obtain ⟨n2, c2, d2, rfl, h2, hf⟩ := fitL_cons hf
  obtain ⟨n3, c3, d3, rfl, h3, hf⟩ := fitL_cons hf
  obtain rfl := fitL_nil hf
  obtain ⟨x1, rfl, _⟩ := fit_int Tryd.underlying3 h1
  obtain ⟨x2, rfl, _⟩ := fit_int Tryd.underlying3 h2
  obtain ⟨x3, rfl, _⟩ := fit_string Tryd.underlying9 h3
  have e1 : ∀ f : Int, packT (aggT Tryd.prog 3) [.int .i64 f] = .int .i64 f := fun f => by rw [g3]; rfl
  have e2 : ∀ s : List UInt8, packT (aggT Tryd.prog 9) [.str s] = .str s := fun s => by rw [g9]; rfl
  rw [e1, e1, e2] at hr ho
  cases args
  have h5 : (lim tp).call 5 [.int .i64 x1, .int .i64 x2, .str x3] [] = some (.bool true, []) :=
    fnU_any tp_ren (c := Cod.bool) (translates_law awake_true x1 x2 x3) rfl rfl []
  exact walk_of tp_ok Tryd.func5 rfl (by kernel_rfl) persAll_ok hr ho h5
set_option maxRecDepth 100000 in
theorem lifted (os : Os) (started : os.Started) (H : Type) (enc : TypeId × Value → H) :
    ReturnsInHanded {} Tryd.checked os 5 .any (fun w args => (Rows.vmapTranslatesSpec.pre enc Tryd.prog Tryd.f5 Rows.vmapTranslatesRow.domain false w args ∧ laidMetH Tryd.prog Rows.vmapTranslatesRow.laid w) ∧ sizedMet enc Tryd.prog Tryd.f5 (OpenSpec.ofChange Rows.vmapTranslatesSpec) false w args)
      (Rows.vmapTranslatesSpec.post enc Tryd.prog Tryd.f5 false true false false) := by
  refine returnsInHanded_of_change_and (C := Tryd.checked) (X := fun w _ => laidMetH Tryd.prog Rows.vmapTranslatesRow.laid w) (fun _ _ _ hh h => h.of_heap hh) own started (by kernel_rfl) Tryd.func5
    (ChangeSpec.witness_shaped (enc := enc) (C := Tryd.checked) (os := os) (X := fun w _ => laidMetH Tryd.prog Rows.vmapTranslatesRow.laid w) false (World.laidAll Tryd.prog os Rows.vmapTranslatesRow.laid) #[.int .i64 0, .int .i64 0, .string ByteArray.empty] 8 (World.laidAll_os _ _ _)
      (World.shaped_of_ZipB (by kernel_rfl) (by kernel_rfl)) (by kernel_rfl) (by kernel_rfl) (by kernel_rfl)
      (by rw [MakeChecks.laidMetH_plain _ _ _ (by kernel_rfl)]; exact laidMet_laidAll _ (by kernel_rfl) (by kernel_rfl))) ?_
  intro W base args ds gs before hval hW hcnd hsz hL _
  exact row_true closed (by kernel_rfl) (by kernel_rfl) rfl (tb := 4) (by kernel_rfl) Tryd.underlying4 (fun ds h => by
    match ds, h with
    | [a, b, c], _ => rfl) walk hval hW
theorem row_holds : Rows.VmapTranslatesSaid :=
  OpenClaim.holds_of_wide 5 Tryd.f5 rfl rfl rfl rfl rfl rfl rfl ⟨rfl, rfl, rfl, rfl, rfl⟩ rfl rfl rfl rfl rfl (by kernel_rfl) Tryd.func5 (by kernel_rfl)
    (of_decide_eq_true (by kernel_rfl)) (by unfold Func.isWrapper; first | (rw [if_pos (by decide +kernel)]; kernel_rfl) | (rw [if_neg (by decide +kernel)]; exact ⟨rfl, rfl⟩))
    (fun os started H enc _ => lifted os started H enc)
theorem proved : Rows.VmapTranslatesCardSaid :=
  Claim7.holds_tied_plain_at .later [] [.data, .pinned] true (true, "d5e453901ad4ef34035fa10401a7529025d63f0b9a8f5f2d5da604c4e6576016") true
    row_holds (fun _ h => by cases h) (by kernel_rfl) (fun _ h => by cases h) vmapTranslates_row_tie rfl ⟨rfl, rfl⟩ (by kernel_rfl) rfl
    (fun f fn hf hfn => by
      obtain rfl : f = 5 := Option.some.inj ((show Tryd.prog.funcNamed "drayage/drayagelaw13.VmapTranslates" = some 5 by kernel_rfl).symm.trans hf) |>.symm
      obtain rfl : fn = Tryd.f5 := (Option.some.inj (Tryd.func5.symm.trans hfn)).symm
      exact ⟨by kernel_rfl, fun j t ht => by
        rw [Tryd.params5] at ht
        have hm : t ∈ [3, 3, 9] := by simpa using Array.mem_of_getElem? ht
        have hall : ([3, 3, 9].all fun u => !Tryd.prog.wantsStandIn u) = true := by kernel_rfl
        exact (show Tryd.prog.wantsStandIn t = false by simpa using List.all_eq_true.1 hall t hm)⟩)
    (by kernel_rfl)
end Go.Proofs.YtlgpcmklpknmcaaDoor.vmapTranslates
