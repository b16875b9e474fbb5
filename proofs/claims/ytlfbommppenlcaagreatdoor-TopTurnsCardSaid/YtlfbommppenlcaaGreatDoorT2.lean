/- What a scheduler tells, by a deed: the plain functions' answer, whatever the deed. Conditions: a scheduler lies there; its queues are short. -/
import Derived.Test.YtlfbommppenlcaaGreatDoorS11
import Derived.Test.YtlfbommppenlcaaGreatDoorS13
import Derived.Test.YtlfbommppenlcaaGreatDoorT1
import Derived.Test.YtlfbommppenlcaaGreatDoorP1
namespace Go.Proofs.YtlfbommppenlcaaGreatDoor
open Go.RowKit Go.Mem

theorem spawn_calls {w : World} {sb : Nat} {F : Nat → Prop} {S : St} {N : Nat} (hA : SchAt w sb F S) (hW : S.WF N) (p : Int) :
    Calls Tryz.prog 55 #[.pointer (some ⟨sb, 0, none⟩), .int .i64 p] w fun e w' => e = .returned (.tuple #[.int .i64 (S.spawn p).1.1, .int .i64 (S.spawn p).1.2]) ∧ Makes w sb F (S.spawn p).2 w' := by
  unfold St.spawn
  by_cases hp : p < 1 ∨ p > 8
  · rw [if_pos hp]
    refine (spawn_bad p hp).mono fun e w' ⟨h1, h2⟩ => ?_
    subst h2
    exact ⟨h1, F, hA, Goes.refl _ _⟩
  · rw [if_neg hp]
    by_cases hl : S.prior.length = 100
    · rw [if_pos hl]
      refine (spawn_full hA p (by omega) (by omega) hl).mono fun e w' ⟨h1, h2⟩ => ?_
      subst h2
      exact ⟨h1, F, hA, Goes.refl _ _⟩
    · rw [if_neg hl]
      exact spawn_good hA hW p (by omega) (by omega) hl

theorem WF.done {S : St} {N : Nat} (h : S.WF N) (d : Deed) : (S.done d).2.WF (N + 4) := by
  unfold St.done
  split
  · exact (h.spawn _).mono (by omega)
  · split
    · exact (h.resume _).mono (by simp)
    · split
      · exact (h.resume _).mono (by simp)
      · split
        · exact (h.suspend _).mono (by omega)
        · split
          · exact h.yield.mono (by omega)
          · split
            · exact (h.signal _).mono (by omega)
            · split
              · exact (h.wait _).mono (by omega)
              · exact h.sem.mono (by omega)

theorem SchAt.alloc {w : World} {sb : Nat} {F : Nat → Prop} {S : St} (h : SchAt w sb F S) (o : Obj) : SchAt (w.alloc o) sb F S :=
  h.chg (G := fun _ => False) ((Chg.refl _ _).alloc _) (fun _ _ h => h)
theorem Goes.alloc {F : Nat → Prop} (w : World) (o : Obj) : Goes F F w (w.alloc o) := ⟨(Chg.refl _ _).alloc _, fun _ h => .inl h⟩

theorem done_0 {w : World} {sb : Nat} {F : Nat → Prop} {S : St} {N : Nat} (hA : SchAt w sb F S) (hW : S.WF N) (a b : Int) :
    Calls Tryz.prog 18 #[.pointer (some ⟨sb, 0, none⟩), .agg #[.int .i64 0, .int .i64 a, .int .i64 b]] w fun e w' => e = .returned (.tuple #[.int .i64 (S.spawn a).1.1, .int .i64 (S.spawn a).1.2]) ∧ Makes w sb F (S.spawn a).2 w' := by
  have hA1 := hA.alloc (.cells #[.int .i64 0, .int .i64 a, .int .i64 b] 36)
  go_enter Tryz.func18, Tryz.ntmps18
  go_wp2_with fail
  refine (spawn_calls hA1 hW a).mono ?_
  rintro e w1 ⟨rfl, hM⟩
  go_wp2
  go_ret2
  exact ⟨rfl, hM.trans' (Goes.alloc _ _)⟩

theorem done_3 {w : World} {sb : Nat} {F : Nat → Prop} {S : St} {N : Nat} (hA : SchAt w sb F S) (hW : S.WF N) (hN : N < 90000) (a b : Int) :
    Calls Tryz.prog 18 #[.pointer (some ⟨sb, 0, none⟩), .agg #[.int .i64 3, .int .i64 a, .int .i64 b]] w fun e w' => e = .returned (.tuple #[.int .i64 0, .int .i64 (S.suspend a).1]) ∧ Makes w sb F (S.suspend a).2 w' := by
  have hA1 := hA.alloc (.cells #[.int .i64 3, .int .i64 a, .int .i64 b] 36)
  go_enter Tryz.func18, Tryz.ntmps18
  go_wp2_with fail
  refine (suspend_calls hA1 hW (by omega) a).mono ?_
  rintro e w1 ⟨rfl, hM⟩
  go_wp2
  go_ret2
  exact ⟨rfl, hM.trans' (Goes.alloc _ _)⟩

theorem done_4 {w : World} {sb : Nat} {F : Nat → Prop} {S : St} {N : Nat} (hA : SchAt w sb F S) (hW : S.WF N) (hN : N < 90000) (a b : Int) :
    Calls Tryz.prog 18 #[.pointer (some ⟨sb, 0, none⟩), .agg #[.int .i64 4, .int .i64 a, .int .i64 b]] w fun e w' => e = .returned (.tuple #[.int .i64 0, .int .i64 (S.yield).1]) ∧ Makes w sb F (S.yield).2 w' := by
  have hA1 := hA.alloc (.cells #[.int .i64 4, .int .i64 a, .int .i64 b] 36)
  go_enter Tryz.func18, Tryz.ntmps18
  go_wp2_with fail
  refine (yield_calls hA1 hW (by omega)).mono ?_
  rintro e w1 ⟨rfl, hM⟩
  go_wp2
  go_ret2
  exact ⟨rfl, hM.trans' (Goes.alloc _ _)⟩

theorem done_5 {w : World} {sb : Nat} {F : Nat → Prop} {S : St} {N : Nat} (hA : SchAt w sb F S) (hW : S.WF N) (hN : N < 90000) (a b : Int) :
    Calls Tryz.prog 18 #[.pointer (some ⟨sb, 0, none⟩), .agg #[.int .i64 5, .int .i64 a, .int .i64 b]] w fun e w' => e = .returned (.tuple #[.int .i64 0, .int .i64 (S.signal b).1]) ∧ Makes w sb F (S.signal b).2 w' := by
  have hA1 := hA.alloc (.cells #[.int .i64 5, .int .i64 a, .int .i64 b] 36)
  go_enter Tryz.func18, Tryz.ntmps18
  go_wp2_with fail
  refine (signal_calls hA1 hW (by omega) b).mono ?_
  rintro e w1 ⟨rfl, hM⟩
  go_wp2
  go_ret2
  exact ⟨rfl, hM.trans' (Goes.alloc _ _)⟩

theorem done_6 {w : World} {sb : Nat} {F : Nat → Prop} {S : St} {N : Nat} (hA : SchAt w sb F S) (hW : S.WF N) (hN : N < 90000) (a b : Int) :
    Calls Tryz.prog 18 #[.pointer (some ⟨sb, 0, none⟩), .agg #[.int .i64 6, .int .i64 a, .int .i64 b]] w fun e w' => e = .returned (.tuple #[.int .i64 0, .int .i64 (S.wait b).1]) ∧ Makes w sb F (S.wait b).2 w' := by
  have hA1 := hA.alloc (.cells #[.int .i64 6, .int .i64 a, .int .i64 b] 36)
  go_enter Tryz.func18, Tryz.ntmps18
  go_wp2_with fail
  refine (wait_calls hA1 hW (by omega) b).mono ?_
  rintro e w1 ⟨rfl, hM⟩
  go_wp2
  go_ret2
  exact ⟨rfl, hM.trans' (Goes.alloc _ _)⟩

theorem done_1 {w : World} {sb : Nat} {F : Nat → Prop} {S : St} {N : Nat} (hA : SchAt w sb F S) (hW : S.WF N) (hN : N < 90000) (a b : Int) :
    Calls Tryz.prog 18 #[.pointer (some ⟨sb, 0, none⟩), .agg #[.int .i64 1, .int .i64 a, .int .i64 b]] w fun e w' => e = .returned (.tuple #[.int .i64 0, .int .i64 (S.resume [a]).1]) ∧ Makes w sb F (S.resume [a]).2 w' := by
  have hA1 := hA.alloc (.cells #[.int .i64 1, .int .i64 a, .int .i64 b] 36)
  go_enter Tryz.func18, Tryz.ntmps18
  go_wp2_with fail
  have hlt := fun k hk => hA1.lt k hk
  have hS : Sl ((w.alloc (.cells #[.int .i64 1, .int .i64 a, .int .i64 b] 36)).alloc (.cells #[.int .i64 a] 3)) 3 (.slice (some ⟨w.heap.size + 1, 0, none⟩) ([a] : List Int).length 1) (ints [a]) := by
    have := Sl.mk (w := (w.alloc (.cells #[.int .i64 1, .int .i64 a, .int .i64 b] 36)).alloc (.cells #[.int .i64 a] 3)) (l := ints [a]) (g := w.heap.size + 1) (cap := 1) (cur := #[.int .i64 a]) (T := 3) (by have := @heap_alloc_self (w.alloc (.cells #[.int .i64 1, .int .i64 a, .int .i64 b] 36)) (.cells #[.int .i64 a] 3); simpa using this) (by simp) (by unfold maxLen; omega) (by simp) (by simp [ints])
    simpa using this
  refine (resume_calls (l := [a]) (hA1.alloc _) hW (by simp; omega) hS (fun h => by have := hlt _ h; simp at this) (by simp)).mono ?_
  rintro e w1 ⟨rfl, hM⟩
  clear hS hlt
  go_wp2
  go_ret2
  exact ⟨rfl, hM.trans' ((Goes.alloc _ _).trans (Goes.alloc _ _))⟩

theorem done_2 {w : World} {sb : Nat} {F : Nat → Prop} {S : St} {N : Nat} (hA : SchAt w sb F S) (hW : S.WF N) (hN : N < 90000) (a b : Int) :
    Calls Tryz.prog 18 #[.pointer (some ⟨sb, 0, none⟩), .agg #[.int .i64 2, .int .i64 a, .int .i64 b]] w fun e w' => e = .returned (.tuple #[.int .i64 0, .int .i64 (S.resume [a, b]).1]) ∧ Makes w sb F (S.resume [a, b]).2 w' := by
  have hA1 := hA.alloc (.cells #[.int .i64 2, .int .i64 a, .int .i64 b] 36)
  go_enter Tryz.func18, Tryz.ntmps18
  go_wp2_with fail
  have hlt := fun k hk => hA1.lt k hk
  have hS : Sl ((w.alloc (.cells #[.int .i64 2, .int .i64 a, .int .i64 b] 36)).alloc (.cells #[.int .i64 a, .int .i64 b] 3)) 3 (.slice (some ⟨w.heap.size + 1, 0, none⟩) ([a, b] : List Int).length 2) (ints [a, b]) := by
    have := Sl.mk (w := (w.alloc (.cells #[.int .i64 2, .int .i64 a, .int .i64 b] 36)).alloc (.cells #[.int .i64 a, .int .i64 b] 3)) (l := ints [a, b]) (g := w.heap.size + 1) (cap := 2) (cur := #[.int .i64 a, .int .i64 b]) (T := 3) (by have := @heap_alloc_self (w.alloc (.cells #[.int .i64 2, .int .i64 a, .int .i64 b] 36)) (.cells #[.int .i64 a, .int .i64 b] 3); simpa using this) (by simp) (by unfold maxLen; omega) (by simp) (by simp [ints])
    simpa using this
  refine (resume_calls (l := [a, b]) (hA1.alloc _) hW (by simp; omega) hS (fun h => by have := hlt _ h; simp at this) (by simp)).mono ?_
  rintro e w1 ⟨rfl, hM⟩
  clear hS hlt
  go_wp2
  go_ret2
  exact ⟨rfl, hM.trans' ((Goes.alloc _ _).trans (Goes.alloc _ _))⟩

theorem done_7 {w : World} {sb : Nat} {F : Nat → Prop} {S : St} {N : Nat} (hA : SchAt w sb F S) (hW : S.WF N) (k a b : Int) (hk : 7 ≤ k) :
    Calls Tryz.prog 18 #[.pointer (some ⟨sb, 0, none⟩), .agg #[.int .i64 k, .int .i64 a, .int .i64 b]] w fun e w' => e = .returned (.tuple #[.int .i64 S.sem.1.1, .int .i64 S.sem.1.2]) ∧ Makes w sb F S.sem.2 w' := by
  have hA1 := hA.alloc (.cells #[.int .i64 k, .int .i64 a, .int .i64 b] 36)
  have b0 : (k == 0) = false := by simp; omega
  have b1 : (k == 1) = false := by simp; omega
  have b2 : (k == 2) = false := by simp; omega
  have b3 : (k == 3) = false := by simp; omega
  have b4 : (k == 4) = false := by simp; omega
  have b5 : (k == 5) = false := by simp; omega
  have b6 : (k == 6) = false := by simp; omega
  go_enter Tryz.func18, Tryz.ntmps18
  go_wp2_with fail
  refine (sem_calls hA1 hW).mono ?_
  rintro e w1 ⟨rfl, hM⟩
  go_wp2
  go_ret2
  exact ⟨rfl, hM.trans' (Goes.alloc _ _)⟩

theorem done_calls {w : World} {sb : Nat} {F : Nat → Prop} {S : St} {N : Nat} (hA : SchAt w sb F S) (hW : S.WF N) (hN : N < 90000) (d : Deed) (hd : 0 ≤ d.kind) :
    Calls Tryz.prog 18 #[.pointer (some ⟨sb, 0, none⟩), .agg #[.int .i64 d.kind, .int .i64 d.a, .int .i64 d.b]] w fun e w' => e = .returned (.tuple #[.int .i64 (S.done d).1.1, .int .i64 (S.done d).1.2]) ∧ Makes w sb F (S.done d).2 w' := by
  obtain ⟨k, a, b⟩ := d
  unfold St.done
  dsimp only at hd ⊢
  by_cases h0 : k = 0
  · subst h0; simpa using done_0 hA hW a b
  · by_cases h1 : k = 1
    · subst h1; simpa using done_1 hA hW hN a b
    · by_cases h2 : k = 2
      · subst h2; simpa using done_2 hA hW hN a b
      · by_cases h3 : k = 3
        · subst h3; simpa using done_3 hA hW hN a b
        · by_cases h4 : k = 4
          · subst h4; simpa using done_4 hA hW hN a b
          · by_cases h5 : k = 5
            · subst h5; simpa using done_5 hA hW hN a b
            · by_cases h6 : k = 6
              · subst h6; simpa using done_6 hA hW hN a b
              · simpa [h0, h1, h2, h3, h4, h5, h6] using done_7 hA hW k a b (by omega)
end Go.Proofs.YtlfbommppenlcaaGreatDoor
