/- What every statement asks ahead: 'known' answers true and changes nothing that was there. Conditions: none. -/
import Derived.Test.YtlfbommppenlcaaGreatDoorS1
import Derived.Lib.SlBytesConst
namespace Go.Proofs.YtlfbommppenlcaaGreatDoor
open Go.RowKit Go.Mem

theorem hself {w : World} {o : Obj} {n : Nat} (h : n = w.heap.size) : (w.alloc o).heap[n]? = some o := by subst h; exact heap_alloc_self

theorem get_nil (w : World) : Calls Tryz.prog 158 #[.slice none 0 0, .int .i64 0] w fun e w' => e = .returned (.tuple #[.int .i64 0, .int .i64 2]) ∧ w = w' := by
  have kc := fun (w : World) (C : Array Value) (n c : Nat) => Lib.run_convert_bytes_const (P := Tryz.prog) w 22 5 C n c Tryz.underlying22 Tryz.underlying5
  go_enter Tryz.func158, Tryz.ntmps158
  go_wp2
  go_ret2
  exact ⟨rfl, rfl⟩

theorem num_nil (w : World) (b : Nat) (bad : Bool) (hb : w.heap[b]? = some (.cells #[.slice none 0 0, .bool bad] 223 (0, 0))) :
    Calls Tryz.prog 121 #[.pointer (some ⟨b, 0, none⟩)] w fun e w' => e = .returned (.int .i64 0) ∧ w' = w.setCell ⟨b, 1, none⟩ (.bool true) := by
  have h0 : w.cell? ⟨b, 0, none⟩ = some (.slice none 0 0) := cell_of_block hb rfl
  have h1 : w.cell? ⟨b, 1, none⟩ = some (.bool bad) := cell_of_block hb rfl
  have f1 := free_of_block hb 1
  go_enter Tryz.func121, Tryz.ntmps121
  go_wp2_with fail
  refine (get_nil _).mono ?_
  rintro e w' ⟨rfl, rfl⟩
  go_wp2
  go_ret
  exact ⟨rfl, rfl⟩

theorem decode_nil (w : World) : Calls Tryz.prog 87 #[.slice none 0 0] w fun e w' => e = .returned (.tuple #[.agg #[.slice none 0 0, .int .i64 0], .int .i64 180]) ∧ Below w.heap.size w w' := by
  go_enter Tryz.func87, Tryz.ntmps87
  go_wp2_with fail
  refine (num_nil _ (w.heap.size + 1) false ?_).mono ?_
  · exact hself (by simp)
  rintro e w' ⟨rfl, rfl⟩
  go_wp2_with fail
  refine (num_nil _ (w.heap.size + 1) true ?_).mono ?_
  · exact hself (by simp)
  rintro e w' ⟨rfl, rfl⟩
  go_wp2
  go_loop [7] (fun i => i = .int .i64 0) (fun _ => 0)
  case atStart => rfl
  case round =>
    obtain ⟨rfl, rfl⟩ := hrel
    go_wp2
    refine bodyPost_ret (v := .tuple #[.agg #[.slice none 0 0, .int .i64 0], .int .i64 180]) (by simp [results, Tryz.results87, go_sem]) rfl ⟨rfl, ?_⟩
    exact (((Below.refl _ _).alloc (Nat.le_refl _) _).alloc (by simp) _).alloc (by simp; omega) _

theorem begun_nil (w : World) (s : Value) : Calls Tryz.prog 80 #[.slice none 0 0, s] w fun e w' => e = .returned (.tuple #[.pointer none, .int .i64 180]) ∧ Below w.heap.size w w' := by
  go_enter Tryz.func80, Tryz.ntmps80
  go_wp2_with fail
  refine (decode_nil _).mono ?_
  rintro e w1 ⟨rfl, hB⟩
  go_wp2
  go_ret2
  exact ⟨rfl, hB.alloc hB.size _⟩

theorem flatnil_calls (w : World) : Calls Tryz.prog 46 #[.slice none 0 0] w fun e w' => e = .returned (.tuple #[.pointer none, .int .i64 180]) ∧ Below w.heap.size w w' := by
  have hmm := @run_makeMap Tryz.prog
  go_enter Tryz.func46, Tryz.ntmps46
  go_wp2_with (go_at_call 44; go_in)
  refine (begun_nil _ _).mono ?_
  rintro e w1 ⟨rfl, hB⟩
  have hB2 : Below w.heap.size w w1 := (((Below.refl _ _).alloc (Nat.le_refl _) _).alloc (by simp) _).trans (hB.mono (by simp; omega))
  clear hB hmm
  go_wp2
  go_ret2
  exact ⟨rfl, hB2⟩

theorem sum_ab (w : World) (b : Nat) {fz : Nat × Nat} (hb : w.heap[b]? = some (.cells #[.int .u8 97, .int .u8 98] 5 fz)) :
    Calls Tryz.prog 54 #[.slice (some ⟨b, 0, none⟩) 2 2] w fun e w' => e = .returned (.int .i64 3105) ∧ w = w' := by
  have h0 : w.cell? ⟨b, 0, none⟩ = some (.int .u8 97) := cell_of_block hb rfl
  have h1 : w.cell? ⟨b, 1, none⟩ = some (.int .u8 98) := cell_of_block hb rfl
  go_enter Tryz.func54, Tryz.ntmps54
  go_wp2
  go_loop [3, 5, 8] (fun n _ i => (i = .int .i64 0 ∧ n = .int .i64 0) ∨ (i = .int .i64 1 ∧ n = .int .i64 97) ∨ (i = .int .i64 2 ∧ n = .int .i64 3105)) (fun _ _ i => 2 - (intOf i).toNat)
  case atStart => exact .inl ⟨rfl, rfl⟩
  case round =>
    rcases hrel with ⟨rfl, rfl⟩ | ⟨rfl, rfl⟩ | ⟨rfl, rfl⟩
    · go_wp2
      go_round
      case rel => exact .inr (.inl ⟨rfl, rfl⟩)
      case measure => simp [intOf]
    · go_wp2
      go_round
      case rel => exact .inr (.inr ⟨rfl, rfl⟩)
      case measure => simp [intOf]
    · go_wp2
      go_ret
      exact ⟨rfl, rfl⟩

set_option maxRecDepth 100000 in
theorem known_calls (w : World) : Calls Tryz.prog 15 #[] w fun e w' => e = .returned (.bool true) ∧ Below w.heap.size w w' := by
  have kc := fun (w : World) (C : Array Value) (n c : Nat) => Lib.run_convert_bytes_const (P := Tryz.prog) w 22 5 C n c Tryz.underlying22 Tryz.underlying5
  go_enter Tryz.func15, Tryz.ntmps15
  go_wp2_with fail
  refine (flatnil_calls _).mono ?_
  rintro e w1 ⟨rfl, hB⟩
  go_wp2_with fail
  refine (sum_ab _ w1.heap.size (hself rfl)).mono ?_
  rintro e w2 ⟨rfl, rfl⟩
  go_wp2
  go_ret
  exact ⟨rfl, hB.alloc hB.size _⟩
end Go.Proofs.YtlfbommppenlcaaGreatDoor
