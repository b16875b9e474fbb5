/- TopTurns answers true for every input, and each argument reads as it did. Condition: the listed package-level variables start as the program's text lays them (the card ties them). -/
import Derived.Test.YtlfbommppenlcaaGreatDoorRows
import Derived.Test.YtlfbommppenlcaaGreatDoorTie
import Derived.Test.YtlfbommppenlcaaGreatDoorCards
import Derived.Test.YtlfbommppenlcaaGreatDoorR0
import Derived.Test.YtlfbommppenlcaaGreatDoorC0
import Derived.Test.YtlfbommppenlcaaGreatDoorC3
import Derived.Test.YtlfbommppenlcaaGreatDoorT6
import Derived.WalkKit
import Derived.ProofKit
import Derived.OpenShut
import Derived.Below
import Derived.LaidMore
import Derived.ChangeOld
import Derived.Deep.DeepHandedRow
namespace Go.Proofs.YtlfbommppenlcaaGreatDoor.topTurns
open Go Go.ChangeShapes Go.WideShapes Go.ChangeAt Go.RowKit
set_option linter.unusedVariables false

theorem walk (a0 : Option Addr) (len0 cap0 : Nat) (z0 : List Int) (W : World) (w0 : IsRow .u8 W a0 len0 cap0 z0) :
    Calls Tryz.prog 3 #[.slice a0 len0 cap0] W fun e w' => e = .returned (.bool true) ∧ Below W.heap.size W w' := by
  have h := turns_calls (cap := cap0) w0.raw (fun hl => w0.lt (by rw [w0.cells.1] at hl; exact hl))
  rw [w0.cells.1] at h
  exact h

set_option maxRecDepth 100000 in
theorem contract (H : Type) (enc : TypeId × Value → H) (W : World) (base : Nat) (args : Array Value) (ds gs : List (DataW H)) (before : List MemPlace)
    (hval0 : ∀ (j : Nat) t v, Tryz.f3.params[j]? = some t → args[j]? = some v → Value.okWide Tryz.prog W .any base t v)
    (hW : DataW.Whole enc Tryz.prog Tryz.f3.params.toList Rows.topTurnsSpec.vars false W args.toList ds gs before) :
    Calls Tryz.prog 3 args W fun e W' => ∃ v, e = .returned v ∧ Rows.topTurnsSpec.post enc Tryz.prog Tryz.f3 false true false false W args v W' := by
  have hval : ∀ (j : Nat) t v, Tryz.f3.params[j]? = some t → args[j]? = some v → Value.okWide Tryz.prog W .any base t v := hval0
  have hW' := hW
  obtain ⟨p, q, hA0, hV, rfl, hfz, hnd⟩ := hW
  have hA : DataW.TrodAll enc Tryz.prog W 0 (fun _ => true) true Tryz.f3.params.toList args.toList ds p := hA0
  rw [Tryz.params3] at hA hval
  obtain ⟨v0, vs0, d0, ds0, p0, q0, hargs, rfl, rfl, h0, r0⟩ := trodAll_cons hA
  obtain ⟨rfl, rfl, rfl⟩ := trodAll_nil r0
  obtain rfl : args = #[v0] := by cases args; simp_all
  obtain ⟨rfl, rfl⟩ := trodVars_none hV
  obtain ⟨a0, len0, cap0, rfl⟩ := okWide_slice Tryz.underlying22 (hval 0 22 v0 rfl rfl)
  have k0 := h0
  have lt0 : ∀ x ∈ p0, x.block < W.heap.size := by obtain ⟨m, hm⟩ := k0; exact DataW.trod_lt m _ _ _ hm
  obtain ⟨z0, w0⟩ : ∃ zs, IsRow .u8 W a0 len0 cap0 zs := by
    obtain ⟨fuel, hf⟩ := h0
    rcases open_ints Tryz.underlying22 Tryz.underlying5 (by kernel_rfl) hf with ⟨hcs, _⟩ | ⟨x, l, c, zs, hcs, _, hl, hm, hz, _, hcell, hwz⟩
    · simp [Value.cells] at hcs
      obtain ⟨rfl, rfl, rfl⟩ := hcs
      exact ⟨[], .inl ⟨rfl, rfl, rfl, rfl⟩⟩
    · simp [Value.cells] at hcs
      obtain ⟨rfl, rfl, rfl⟩ := hcs
      exact ⟨zs, .inr ⟨_, rfl, hl, hm, by simpa using hz, hcell, hwz⟩⟩
  clear hA0 hval0
  refine (walk a0 len0 cap0 z0 W w0).mono fun e W' ⟨he, bel⟩ => ?_
  subst he
  exact ⟨_, rfl, _, _, _, [], _, [], hW', trodAll_mk1 (shut_bool Tryz.underlying4 _), (trodAll_cons_mk (Below.trod Closed.laidOut (by kernel_rfl) (of_decide_eq_true (by kernel_rfl)) k0 bel lt0) trodAll_mk0), rfl, bel.frame _, fun h => by cases h⟩

theorem door_met (os : Os) : laidMet Tryz.prog Rows.topTurnsRow.laid ((World.doorLaid Tryz.prog 69 os).forCall (fun _ _ => 0) ⟨#[], #[.slice none 0 0], []⟩).memory :=
  laidMet_of_run' 8 (by kernel_rfl) (by kernel_rfl)
theorem shaped (os : Os) : ((World.doorLaid Tryz.prog 69 os).forCall (fun _ _ => 0) ⟨#[], #[.slice none 0 0], []⟩).Shaped Tryz.prog :=
  World.shaped_of_RefB (by kernel_rfl) (by kernel_rfl)

set_option maxRecDepth 100000 in
theorem lifted (os : Os) (started : os.Started) (H : Type) (enc : TypeId × Value → H) :
    ReturnsInHanded {} Tryz.checked os 3 .any (fun w args => (Rows.topTurnsSpec.pre enc Tryz.prog Tryz.f3 [] false w args ∧ laidMet Tryz.prog Rows.topTurnsRow.laid w) ∧ sizedMet enc Tryz.prog Tryz.f3 (OpenSpec.ofChange Rows.topTurnsSpec) false w args)
      (Rows.topTurnsSpec.post enc Tryz.prog Tryz.f3 false true false false) := by
  refine returnsInHanded_of_change_and (C := Tryz.checked) (X := fun w _ => laidMet Tryz.prog Rows.topTurnsRow.laid w) (fun _ _ _ hh h => h.of_heap hh) Closed.own started k31 Tryz.func3
    (ChangeSpec.witness_shaped (enc := enc) (C := Tryz.checked) (os := os) (X := fun w _ => laidMet Tryz.prog Rows.topTurnsRow.laid w) false (World.doorLaid Tryz.prog 69 os) #[.slice none 0 0] 8 rfl (shaped os) (by as_aux_lemma => kernel_rfl) (by as_aux_lemma => kernel_rfl) (by as_aux_lemma => kernel_rfl) (door_met os)) ?_
  intro W base args ds gs before hval0 hW _ _ _ _
  exact contract H enc W base args ds gs before hval0 hW

theorem wrapped : Tryz.f3.isWrapper Tryz.prog Rows.topTurnsRow.wrapper Rows.topTurnsRow.mainSum := by unfold Func.isWrapper; first | (rw [if_pos (by decide +kernel)]; kernel_rfl) | (rw [if_neg (by decide +kernel)]; exact ⟨rfl, rfl⟩)
theorem instance_ : Tryz.f3.isInstance Tryz.prog Rows.topTurnsRow.origin Rows.topTurnsRow.targs := of_decide_eq_true (by kernel_rfl)

theorem over : Rows.topTurnsRow.holds Tryz.pinned (OpenSpec.ofChange Rows.topTurnsSpec) :=
  OpenClaim.holds_of_wide 3 Tryz.f3 rfl rfl rfl rfl rfl rfl rfl ⟨rfl, rfl, rfl, rfl, rfl⟩ rfl rfl rfl rfl rfl k30 Tryz.func3 facts
    instance_ wrapped
    (fun os started H enc _ => lifted os started H enc)

/-- The statement of the row. -/
theorem proved : Rows.TopTurnsSaid := over

theorem plain (f : FuncId) (fn : Func) (hf : Tryz.pinned.checked.prog.funcNamed "webster/webstertop.TopTurns" = some f) (hfn : Tryz.pinned.checked.prog.funcs[f]? = some fn) :
    true = Tryz.pinned.checked.prog.looks [] ∧ ∀ (j : Nat) t, fn.params[j]? = some t → Tryz.pinned.checked.prog.wantsStandIn t = false := by
  obtain rfl : f = 3 := Option.some.inj (k30.symm.trans hf) |>.symm
  obtain rfl : fn = Tryz.f3 := (Option.some.inj (Tryz.func3.symm.trans hfn)).symm
  refine ⟨Closed.looks, fun j t ht => ?_⟩
  rw [Tryz.params3] at ht
  rcases j with _ | j
  · obtain rfl : 22 = t := by simpa using ht
    exact (show Tryz.prog.wantsStandIn 22 = false by kernel_rfl)
  · simp at ht
/-- The tied card. -/
theorem card_holds : Rows.TopTurnsCardSaid :=
  Claim7.holds_tied_plain_at .later [] [.data, .data] true (true, "361a9e0961ddece2a32cf960fe085fb8237f928e875a27f959e8a21f9e023e7b") true
    proved (fun _ h => by cases h) k32 (fun _ h => by cases h) topTurns_row_tie rfl ⟨rfl, rfl⟩ Closed.mainIs rfl plain k33
end Go.Proofs.YtlfbommppenlcaaGreatDoor.topTurns

namespace Go.Proofs.YtlfbommppenlcaaGreatDoor
/-- TopTurns answers true for every input, and each argument reads as it did. Condition: the listed package-level variables start as the program's text lays them (the card ties them). -/
theorem topTurns_card : Rows.TopTurnsCardSaid := topTurns.card_holds
#print axioms topTurns_card
end Go.Proofs.YtlfbommppenlcaaGreatDoor
