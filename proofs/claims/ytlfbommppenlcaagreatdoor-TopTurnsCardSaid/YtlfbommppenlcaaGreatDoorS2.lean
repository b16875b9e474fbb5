/- A queue of the scheduler (a slice in a cell of a struct): add, first, drop and list do to the list what their names say. Conditions: the queue's row is not the struct's own block; fewer than a million numbers. -/
import Derived.Test.YtlfbommppenlcaaGreatDoorS1
namespace Go.Proofs.YtlfbommppenlcaaGreatDoor
open Go.RowKit Go.Mem

/-- Behind a call the slice in a cell is another one: where it lies. -/
def Near (w : World) (v v' : Value) : Prop := v'.ownBlock = v.ownBlock ∨ ∃ g, v'.ownBlock = some g ∧ w.heap.size ≤ g

theorem q_add {w : World} {b o : Nat} {c : Array Value} {T : Nat} {v : Value} {zs : List Int} (p : Int)
    (hb : w.heap[b]? = some (.cells c T (0,0))) (hv : c[o]? = some v) (hS : Sl w 3 v (ints zs)) (hne : v.ownBlock ≠ some b) (hn : zs.length < 1000000) :
    Calls Tryz.prog 93 #[.pointer (some ⟨b, o, none⟩), .int .i64 p] w fun e w' => e = .returned (.tuple #[]) ∧
      ∃ v', Sl w' 3 v' (ints (zs ++ [p])) ∧ w'.heap[b]? = some (.cells (c.setIfInBounds o v') T (0,0)) ∧ Chg (fun k => k = b ∨ some k = v.ownBlock) w w' ∧ Near w v v' := by
  have hc : w.cell? ⟨b, o, none⟩ = some v := cell_of_block hb hv
  have hf := free_of_block hb o
  have hbl := lt_of_block hb
  have HB := Lib.hid hb
  have HV := Lib.hid hv
  clear hb hv
  go_enter Tryz.func93, Tryz.ntmps93
  go_wp2_with (at_builtin; go_must (refine wpList_push rfl _ _ 28 3 rfl (.int .i64 0) 8 Tryz.underlying28 info3 rfl _ (ints zs) rfl (Sl.chg hS ((Chg.refl (fun _ => False) w).alloc _) (fun _ _ h => h)) w.heap.size (.int .i64 p) rfl (by simp) rfl (by simp; omega) ?_))
  intro g' cap' w1 hS1 hC1 hloc
  have hC : Chg (fun k => k = b ∨ some k = v.ownBlock) w w1 := ((Chg.refl _ w).alloc _).trans hC1 (fun i _ h => .inr h)
  have hb1 : w1.heap[b]? = some (.cells c T (0,0)) := hC1.get (heap_alloc_get HB.out) (fun h => hne h.symm)
  have hc1 : w1.cell? ⟨b, o, none⟩ = some v := cell_of_block hb1 HV.out
  have hf1 := free_of_block hb1 o
  have HB1 := Lib.hid hb1
  have HL := Lib.hid hloc
  have HS1 := Lib.hid hS1
  clear hc hf hb1 hloc hS1
  go_wp2
  go_end0
  refine ⟨rfl, _, ?_, heap_setCell_at HB1.out, hC.setCell (fun _ => .inl rfl) _, ?_⟩
  · rw [ints_append]
    refine Sl.kept HS1.out fun g hg => heap_setCell_ne ?_
    simp [Value.ownBlock] at hg
    subst hg
    rintro rfl
    rcases HL.out with h | h
    · exact hne h
    · omega
  · rcases HL.out with h | h
    · exact .inl h.symm
    · exact .inr ⟨g', rfl, by omega⟩

theorem q_list {w : World} {b o : Nat} {c : Array Value} {T : Nat} {v : Value} {zs : List Int}
    (hb : w.heap[b]? = some (.cells c T (0,0))) (hv : c[o]? = some v) (hS : Sl w 3 v (ints zs)) (hn : zs.length < 1000000) :
    Calls Tryz.prog 65 #[.pointer (some ⟨b, o, none⟩)] w fun e w' => ∃ v', e = .returned v' ∧ Sl w' 3 v' (ints zs) ∧ Below w.heap.size w w' ∧ ∀ g, v'.ownBlock = some g → w.heap.size ≤ g := by
  have hc : w.cell? ⟨b, o, none⟩ = some v := cell_of_block hb hv
  clear hb hv
  go_enter Tryz.func65, Tryz.ntmps65
  go_wp2_with fail
  refine (sl_clone hS (by omega)).mono ?_
  rintro e w' ⟨v', rfl, h1, h2, h3⟩
  have H := Lib.hid h3
  clear h3 hS
  go_wp2
  go_ret
  exact ⟨_, rfl, h1, h2, H.out⟩

theorem q_first_none {w : World} {b o : Nat} {c : Array Value} {T : Nat} {v : Value}
    (hb : w.heap[b]? = some (.cells c T (0,0))) (hv : c[o]? = some v) (hS : Sl w 3 v (ints [])) :
    Calls Tryz.prog 94 #[.pointer (some ⟨b, o, none⟩)] w fun e w' => e = .returned (.int .i64 0) ∧ w = w' := by
  have hc : w.cell? ⟨b, o, none⟩ = some v := cell_of_block hb hv
  obtain ⟨a, cap, rfl⟩ := hS.shape
  simp only [length_ints, List.length_nil] at *
  clear hb hv hS
  go_enter Tryz.func94, Tryz.ntmps94
  go_wp2
  go_ret
  exact ⟨rfl, rfl⟩

theorem q_first_some {w : World} {b o : Nat} {c : Array Value} {T : Nat} {v : Value} {z : Int} {zs : List Int}
    (hb : w.heap[b]? = some (.cells c T (0,0))) (hv : c[o]? = some v) (hS : Sl w 3 v (ints (z :: zs))) (hne : v.ownBlock ≠ some b) (hn : zs.length < 1000000) :
    Calls Tryz.prog 94 #[.pointer (some ⟨b, o, none⟩)] w fun e w' => e = .returned (.int .i64 z) ∧
      ∃ v', Sl w' 3 v' (ints zs) ∧ w'.heap[b]? = some (.cells (c.setIfInBounds o v') T (0,0)) ∧ Chg (fun k => k = b ∨ some k = v.ownBlock) w w' ∧ Near w v v' := by
  have hc : w.cell? ⟨b, o, none⟩ = some v := cell_of_block hb hv
  obtain ⟨g, cap, rfl, h1, h2, h3, h4⟩ := hS.at (by simp)
  have hz : w.cell? ⟨g, 0, none⟩ = some (.int .i64 z) := h3 0 _ (by simp [ints])
  have hb0 : ((zs.length : Int) + 1 == 0) = false := by simp; omega
  have hgb : g ≠ b := fun e => hne (by simp [Value.ownBlock, e])
  have HB := Lib.hid hb
  have HV := Lib.hid hv
  have HS := Lib.hid hS
  have HG := Lib.hid hgb
  have h1' : zs.length + 1 ≤ cap := by simpa using h1
  simp only [length_ints, List.length_cons] at hc
  clear hb hv hS h3 h4 hne hgb h1
  go_enter Tryz.func94, Tryz.ntmps94
  go_wp2_with fail
  have hS := HS.out
  simp only [length_ints, List.length_cons] at hS
  refine (sl_delete 0 1 hS (by omega) (by simp)).mono ?_
  rintro e w1 ⟨n', rfl, hS1, hC1⟩
  have hb1 : w1.heap[b]? = some (.cells c T (0,0)) := hC1.get HB.out (fun h => HG.out h.symm)
  have hc1 := cell_of_block hb1 HV.out
  have hf1 := free_of_block hb1 o
  have HB1 := Lib.hid hb1
  clear hb1 hc hz hS
  have HS1 := Lib.hid hS1
  clear hS1
  go_wp2
  go_ret
  refine ⟨rfl, _, Sl.kept HS1.out fun g' hg' => heap_setCell_ne ?_, heap_setCell_at HB1.out, (hC1.mono (fun k _ h => .inr (by simp [Value.ownBlock, h]))).setCell (fun _ => .inl rfl) _, .inl rfl⟩
  simp [Value.ownBlock] at hg'
  subst hg'
  exact HG.out
end Go.Proofs.YtlfbommppenlcaaGreatDoor
