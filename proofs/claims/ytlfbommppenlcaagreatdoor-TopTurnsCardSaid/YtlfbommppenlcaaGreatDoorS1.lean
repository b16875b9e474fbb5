/- The four library functions on slices of numbers, and a queue of the scheduler, by what they do to the row that a slice owns. Conditions: lengths below a bound that no run comes to. -/
import Derived.Test.YtlfbommppenlcaaGreatDoorProg
import Derived.Test.YtlfbommppenlcaaGreatDoorA0
import Derived.Test.YtlfbommppenlcaaGreatDoorShelf
namespace Go.Proofs.YtlfbommppenlcaaGreatDoor
open Go.RowKit Go.Mem

theorem info3 : (Tryz.prog.info? 3).map (fun i => (i.zero, i.size, i.bytes)) = some (some (.int .i64 0), 1, 8) := by kernel_rfl

theorem heap_putRow {α : Type} [Inhabited α] (enc : α → Value) (w : World) (g : Nat) (d : Array α) {c : Array Value} {T : TypeId} (h : w.heap[g]? = some (.cells c T (0, 0))) :
    (Sort.putRow enc w g 0 d).heap[g]? = some (.cells (Sort.putCells enc 0 d c) T (0, 0)) := by
  simp [Sort.putRow, Sort.mapBlock, Array.getElem?_modify, h, Sort.onCells]

theorem chg_putRow {α : Type} [Inhabited α] (enc : α → Value) (w : World) (g : Nat) (d : Array α) (q : Nat) : Chg (fun k => k = g) w (Sort.putRow enc (Sort.ahead w q) g 0 d) := by
  refine ⟨rfl, rfl, rfl, by simp [Sort.putRow, Sort.mapBlock, Sort.ahead], fun k _ hk => ?_⟩
  simp only [Sort.putRow, Sort.mapBlock, Sort.ahead, Array.getElem?_modify]
  rw [if_neg (fun e => hk e.symm)]

theorem Sl.ints_cells {w : World} {g n cap : Nat} {zs : List Int} (h : Sl w 3 (.slice (some ⟨g, 0, none⟩) n cap) (ints zs)) :
    n = zs.length ∧ zs.length ≤ cap ∧ cap ≤ 9223372036854775807 ∧ ∃ cur, w.heap[g]? = some (.cells cur 3 (0, 0)) ∧ cur.size = cap ∧ cur.toList.take zs.length = ints zs := by
  rcases h.cases with ⟨hv, _⟩ | ⟨g', cap', cur, hv, hg, h1, h2, h3, h4⟩
  · cases hv
  · cases hv
    exact ⟨by simp, by simpa using h1, h2, cur, hg, h3, by simpa using h4⟩

theorem cells_of_ints {w : World} {g : Nat} {cur : Array Value} {zs : List Int} (hg : w.heap[g]? = some (.cells cur 3 (0, 0))) (h4 : cur.toList.take zs.length = ints zs) (j : Nat) (hj : j < zs.length) :
    w.cell? ⟨g, 0 + j, none⟩ = some (.int .i64 (zs.getD j 0)) := by
  rw [Nat.zero_add]
  refine cell_of_block hg ?_
  have := ints_get hj
  rw [← h4, List.getElem?_take, if_pos hj] at this
  simpa using this

theorem sl_index {w : World} {v : Value} {zs : List Int} (x : Int) (h : Sl w 3 v (ints zs)) :
    Calls Tryz.prog 124 #[v, .int .i64 x] w fun e w' => e = .returned (.int .i64 (Lib.idxOf zs x)) ∧ w = w' := by
  rcases h.cases with ⟨rfl, hl⟩ | ⟨g, cap, cur, rfl, hg, h1, h2, h3, h4⟩
  · have : zs = [] := by simpa [ints] using hl
    subst this
    exact (Tryz.slices_Index_int_empty _ _ _ _).mono fun e w' ⟨a, b⟩ => ⟨a, b.symm⟩
  · have hh := Sl.ints_cells h
    obtain ⟨hn, hc, hm, cur', hg', _, ht⟩ := hh
    rw [hn]
    refine (Tryz.slices_Index_int g 0 zs.length cap zs x w (Nat.le_refl _) (by omega) (cells_of_ints hg' ht)).mono fun e w' ⟨a, b⟩ => ⟨?_, b.symm⟩
    rw [a, List.take_length]

theorem sl_contains {w : World} {v : Value} {zs : List Int} (x : Int) (h : Sl w 3 v (ints zs)) :
    Calls Tryz.prog 89 #[v, .int .i64 x] w fun e w' => e = .returned (.bool (zs.contains x)) ∧ w = w' := by
  rcases h.cases with ⟨rfl, hl⟩ | ⟨g, cap, cur, rfl, hg, h1, h2, h3, h4⟩
  · have : zs = [] := by simpa [ints] using hl
    subst this
    exact (Tryz.slices_Contains_int_empty _ _ _ _).mono fun e w' ⟨a, b⟩ => ⟨a, b.symm⟩
  · obtain ⟨hn, hc, hm, cur', hg', _, ht⟩ := Sl.ints_cells h
    rw [hn]
    refine (Tryz.slices_Contains_int g 0 zs.length cap zs x w (Nat.le_refl _) (by omega) (cells_of_ints hg' ht)).mono fun e w' ⟨a, b⟩ => ⟨?_, b.symm⟩
    rw [a, List.take_length]

theorem sl_clone {w : World} {v : Value} {zs : List Int} (h : Sl w 3 v (ints zs)) (hz : zs.length < 1000000000) :
    Calls Tryz.prog 95 #[v] w fun e w' => ∃ v', e = .returned v' ∧ Sl w' 3 v' (ints zs) ∧ Below w.heap.size w w' ∧ ∀ g, v'.ownBlock = some g → w.heap.size ≤ g := by
  rcases h.cases with ⟨rfl, hl⟩ | ⟨g, cap, cur, rfl, hg, h1, h2, h3, h4⟩
  · have : zs = [] := by simpa [ints] using hl
    subst this
    refine (Tryz.slices_Clone_int_nil _ _ _).mono fun e w' ⟨a, b⟩ => ?_
    subst b
    exact ⟨_, a, Sl.nil _ _, Below.refl _ _, fun g hg => by simp [Value.ownBlock] at hg⟩
  · obtain ⟨hn, hc, hm, cur', hg', _, ht⟩ := Sl.ints_cells h
    rw [hn]
    refine (Tryz.slices_Clone_int g 0 zs.length cap zs w (Nat.le_refl _) (by omega) (cells_of_ints hg' ht)).mono fun e w' ⟨v', a, b, _, d⟩ => ?_
    rw [List.take_length] at b
    refine ⟨v', a, ⟨by simp, ?_⟩, d, fun k hk => (World.ownsRow.lt b k hk).1⟩
    have b2 := b.2
    simp only [length_ints]
    rcases b2 with b2 | ⟨g', cap', cur', e1, e2, r⟩
    · exact .inl b2
    · exact .inr ⟨g', cap', cur', e1, Nat.zero_le _, r⟩

theorem sl_delete {w : World} {g n cap : Nat} {zs : List Int} (i j : Nat) (h : Sl w 3 (.slice (some ⟨g, 0, none⟩) n cap) (ints zs)) (hij : i ≤ j) (hj : j ≤ zs.length) :
    Calls Tryz.prog 125 #[.slice (some ⟨g, 0, none⟩) n cap, .int .i64 i, .int .i64 j] w fun e w' => ∃ n', e = .returned (.slice (some ⟨g, 0, none⟩) n' cap) ∧
      Sl w' 3 (.slice (some ⟨g, 0, none⟩) n' cap) (ints (zs.take i ++ zs.drop j)) ∧ Chg (fun k => k = g) w w' := by
  obtain ⟨hn, hc, hm, cur, hg, hs, ht⟩ := Sl.ints_cells h
  rw [hn]
  refine (Tryz.slices_Delete_int g 0 cap i j zs w ?_ hc hm hij hj).mono fun e w' ⟨a, q, b⟩ => ?_
  · intro k hk
    have hk' : k < zs.length := by simpa using hk
    refine ⟨?_, free_of_block hg _⟩
    rw [cells_of_ints hg ht k hk']
    simp [List.getD, getElem!_pos, hk']
  · subst b
    refine ⟨_, a, ?_, chg_putRow _ _ _ _ _⟩
    have hl : (ints (zs.take i ++ zs.drop j)).length = zs.length - (j - i) := by simp; omega
    rw [← hl]
    refine Sl.mk (cur := Sort.putCells (Value.int .i64) 0 (zs.take i ++ zs.drop j ++ List.replicate (j - i) 0).toArray cur) (heap_putRow _ _ _ _ (by exact hg)) (by omega) hm (by simp [Sort.putCells, hs]) ?_
    apply List.ext_getElem?
    intro k
    rw [List.getElem?_take]
    by_cases hk : k < (ints (zs.take i ++ zs.drop j)).length
    · rw [if_pos hk]
      have hk1 : k < cur.size := by omega
      have hk2 : k < (zs.take i ++ zs.drop j).length := by simpa using hk
      have hk3 : k < (zs.take i ++ zs.drop j ++ List.replicate (j - i) 0).length := by rw [List.length_append]; omega
      have e1 : (zs.take i ++ zs.drop j ++ List.replicate (j - i) 0)[k]! = (zs.take i ++ zs.drop j).getD k 0 := by
        rw [getElem!_pos _ k hk3, List.getElem_append_left hk2, List.getD_eq_getElem?_getD, List.getElem?_eq_getElem hk2, Option.getD_some]
      rw [ints_get hk2, ← e1]
      simp only [Sort.putCells, Array.getElem?_toList, Array.getElem?_mapIdx, Array.getElem?_eq_getElem hk1, Option.map_some, Nat.zero_le, true_and, Nat.zero_add, List.size_toArray, if_pos hk3, Nat.sub_zero, List.getElem!_toArray]
    · rw [if_neg hk, List.getElem?_eq_none (by omega)]
end Go.Proofs.YtlfbommppenlcaaGreatDoor
