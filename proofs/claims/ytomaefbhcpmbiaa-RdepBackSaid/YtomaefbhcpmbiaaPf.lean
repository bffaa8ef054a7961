/- RdepBack: the row, out of the pure law. -/
import Derived.Test.YtomaefbhcpmbiaaYd
import Derived.Test.YtomaefbhcpmbiaaPe
import Derived.Test.YtomaefbhcpmbiaaEl
import Derived.Test.YtomaefbhcpmbiaaRows
import Derived.WalkKit
import Derived.ProofKit
import Derived.OpenShut
import Derived.Below
import Derived.SizedLaws
set_option linter.unusedVariables false
namespace Go.Proofs.Ytomaefbhcpmbiaa.rdepBack
open Go.ChangeShapes Go.WideShapes Go.ChangeAt Go.RowKit
open Go.Eng

theorem z27 : szOf Try.prog 27 = 5 := by kernel_rfl
theorem g27 : aggT Try.prog 27 = true := by kernel_rfl
theorem g9 : aggT Try.prog 9 = false := by kernel_rfl
theorem fit_tree (n : Nat) : ∀ (ds : List AV), Fit Try.prog n 27 ds → ∃ T : Tree, packT true ds = T.av := by
  induction n using Nat.strongRecOn with
  | ind n IH =>
    intro ds h
    obtain ⟨m, hm, p1, q1, rfl, h1, p2, q2, rfl, h2, p3, q3, rfl, h3, rfl⟩ := fit_struct (ts := [9, 24, 25]) Try.underlying27 rfl h
    obtain ⟨o, rfl, _⟩ := fit_string Try.underlying9 h1
    obtain ⟨m2, _, a1, b1, rfl, k1, a2, b2, rfl, k2, a3, b3, rfl, k3, rfl⟩ := fit_struct (ts := [9, 3, 9]) Try.underlying24 rfl h2
    obtain ⟨nm, rfl, _⟩ := fit_string Try.underlying9 k1
    obtain ⟨a, rfl, _⟩ := fit_int Try.underlying3 k2
    obtain ⟨v, rfl, _⟩ := fit_string Try.underlying9 k3
    obtain ⟨m3, xs, hm3, rfl, hlen, hx⟩ := fit_slice Try.underlying25 h3
    have : ∃ ks : List Tree, xs = avL ks := by
      clear h h3 hlen
      induction xs with
      | nil => exact ⟨[], rfl⟩
      | cons x xs ih =>
        obtain ⟨ks, rfl⟩ := ih fun y hy => hx y (List.mem_cons_of_mem _ hy)
        obtain ⟨cs, c1, hxe⟩ := hx x List.mem_cons_self
        rw [g27] at hxe
        subst hxe
        obtain ⟨T, hT⟩ := IH m3 (by omega) cs c1

        refine ⟨T :: ks, ?_⟩
        rw [avL]
        exact congrArg (· :: avL ks) hT
    obtain ⟨ks, rfl⟩ := this
    rw [z27]
    exact ⟨.mk o nm a v ks, rfl⟩
theorem own : ownKnob Try.prog.godebug = none := by kernel_rfl
theorem closed : closedT Try.prog [3, 9, 24, 25, 27] = true := by kernel_rfl
theorem walk (w : World) (args : Array Value) (avs : List AV) (hr : RepL (persAll w) [] args.toList avs) (ho : avs.all AV.noOwn = true) (hf : FitL Try.prog Try.f4.params.toList avs) :
    Calls Try.prog 4 args w fun e w' => e = .returned (.bool true) ∧ Below w.heap.size w w' := by
  rw [Try.params4] at hf
  obtain ⟨n1, c1, d1, rfl, h1, hf⟩ := fitL_cons hf
  obtain ⟨n2, c2, d2, rfl, h2, hf⟩ := fitL_cons hf
  obtain rfl := fitL_nil hf
  obtain ⟨T, hT⟩ := fit_tree n1 c1 h1
  obtain ⟨s, rfl, _⟩ := fit_string Try.underlying9 h2
  have e1 : packT (aggT Try.prog 27) c1 = T.av := by rw [g27]; exact hT
  have e2 : packT (aggT Try.prog 9) [.str s] = .str s := by rw [g9]; rfl
  rw [e1, e2] at hr ho
  cases args
  have h3 : (lim tp).call 4 [T.av, .str s] [] = some (.bool true, []) := by
    obtain ⟨o, nm, a, v, ks⟩ := T
    exact fnU_any tp_ren (c := Cod.bool) (pure_law (.mk o nm a v ks) s) rfl rfl []
  exact walk_of tp_ok Try.func4 rfl (by kernel_rfl) persAll_ok hr ho h3
set_option maxRecDepth 100000 in
theorem lifted (os : Os) (started : os.Started) (H : Type) (enc : TypeId × Value → H) :
    ReturnsInHanded {} Try.checked os 4 .any (Rows.rdepBackSpec.pre6 enc Try.prog Try.f4 Rows.rdepBackRow.domain false) (Rows.rdepBackSpec.post enc Try.prog Try.f4 false true false false) := by
  refine returnsInHanded_of_change_sized (C := Try.checked) own started (by kernel_rfl) Try.func4
    (ChangeSpec.witness6 (enc := enc) (C := Try.checked) false ⟨#[], #[.agg #[.string ByteArray.empty, .string ByteArray.empty, .int .i64 0, .string ByteArray.empty, .slice none 0 0], .string ByteArray.empty], []⟩ 8 (by kernel_rfl) (by kernel_rfl) (by kernel_rfl) (by kernel_rfl)) ?_
  intro W base args ds gs before hval hW hcnd hsz _
  exact row_true closed (by kernel_rfl) (by kernel_rfl) rfl (tb := 4) (by kernel_rfl) Try.underlying4 (fun ds h => by
    match ds, h with
    | [a, b], _ => rfl) walk hval hW
theorem proved : Rows.RdepBackSaid :=
  OpenClaim.holds_of_wide 4 Try.f4 rfl rfl rfl rfl rfl rfl rfl ⟨rfl, rfl, rfl, rfl, rfl⟩ rfl rfl rfl rfl rfl (by kernel_rfl) Try.func4 (by kernel_rfl)
    (of_decide_eq_true (by kernel_rfl)) (by unfold Func.isWrapper; first | (rw [if_pos (by decide +kernel)]; kernel_rfl) | (rw [if_neg (by decide +kernel)]; exact ⟨rfl, rfl⟩))
    (fun os started H enc _ => lifted os started H enc)
end Go.Proofs.Ytomaefbhcpmbiaa.rdepBack
