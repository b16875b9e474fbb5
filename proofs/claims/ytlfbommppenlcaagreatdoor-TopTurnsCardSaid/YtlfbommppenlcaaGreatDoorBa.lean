/- The scheduler on paper: a semaphore is signalled. Conditions: it lies in memory; lengths are bounded. -/
import Derived.Test.YtlfbommppenlcaaGreatDoorB3
namespace Go.Proofs.YtlfbommppenlcaaGreatDoor
open Go.RowKit Go.Mem
namespace Ben

theorem hasSem_false {B : Bn} {k : Int} (h : B.hasSem k = false) : k < 1 ∨ (B.signs.length : Int) < k := by
  unfold Bn.hasSem at h
  by_cases h1 : 1 ≤ k
  · by_cases h2 : k ≤ B.signs.length
    · simp [h1, h2] at h
    · omega
  · omega
theorem hasSem_true {B : Bn} {k : Int} (h : B.hasSem k = true) : 1 ≤ k ∧ k ≤ B.signs.length := by
  simpa [Bn.hasSem, Bool.and_eq_true, decide_eq_true_eq] using h
theorem Bm.signsCell {w : World} {bb : Nat} {tag : Nat → Option Bt} {B : Bn} {qs : List Value} {c : Array Value} (h : Bm w bb tag B qs c) :
    ∃ a cap, c[12]? = some (.slice a B.signs.length cap) ∧ w.cell? ⟨bb, 12, none⟩ = some (.slice a B.signs.length cap) ∧ Sl w 3 (.slice a B.signs.length cap) (ints B.signs) ∧ ∀ g, (Value.slice a B.signs.length cap).ownBlock = some g → tag g = some (.fld 12) := by
  obtain ⟨v, h1, h2, h3⟩ := h.fld 12 (by omega) (by omega)
  have hS := h2.sl (by omega)
  have e0 : B.fld qs 12 = ints B.signs := rfl
  rw [e0] at hS
  obtain ⟨a, cap, rfl⟩ := hS.shape
  rw [length_ints] at h1 hS h3
  exact ⟨a, cap, h1, cell_of_block h.hdr h1, hS, h3⟩

set_option maxRecDepth 100000 in
set_option maxHeartbeats 8000000 in
theorem bdoes_56_none {w : World} {bb : Nat} {F : Nat → Prop} {B : Bn} {M : Nat} (hA : BenAt w bb F B) (hW : BW M B) (k a b : Int) (hk : k = 5 ∨ k = 6) (hs : B.hasSem b = false) :
    Calls Tryz.prog 19 #[.pointer (some ⟨bb, 0, none⟩), .agg #[.int .i64 k, .int .i64 a, .int .i64 b]] w fun e w' => e = .returned (.tuple #[.int .i64 0, .int .i64 4]) ∧ BMakes w bb F B w' := by
  have hA1 := (hA.alloc (.cells #[.pointer (some ⟨bb, 0, none⟩)] 26)).alloc (.cells #[.int .i64 k, .int .i64 a, .int .i64 b] 36)
  have s1 := isBegun w bb k a b
  have hp := s1.hp
  have hb := s1.h2
  have hk0 := s1.h0
  obtain ⟨tag, qs, c, h, hF⟩ := id hA1
  obtain ⟨sa, scap, k1, k2, k3, k4⟩ := h.signsCell
  have hsl := hW.sl
  have HA1 := Lib.hid hA1
  have S1 := Lib.hid s1
  have hf := hasSem_false hs
  clear hA hA1 s1 h k1 k3 k4 hs
  rcases hk with rfl | rfl <;> rcases hf with hf | hf
  · go_enter Tryz.func19, Tryz.ntmps19
    go_wp2_with fail
    generalize (w.alloc (.cells #[.pointer (some ⟨bb, 0, none⟩)] 26)).alloc (.cells #[.int .i64 5, .int .i64 a, .int .i64 b] 36) = w1 at hp hb hk0 k2 HA1 S1 hF ⊢
    go_quiet (fail)
    go_wp2_with fail
    go_ret2
    exact ⟨rfl, F, HA1.out.kept (fun _ _ => rfl), (S1.out.goes F).trans ⟨(Chg.refl _ _).drewN _, fun _ h => .inl h⟩⟩
  · have hn : ¬ b < 1 := by omega
    have hn2 : (b < 1) = False := by simp; omega
    go_enter Tryz.func19, Tryz.ntmps19
    go_wp2_with fail
    generalize (w.alloc (.cells #[.pointer (some ⟨bb, 0, none⟩)] 26)).alloc (.cells #[.int .i64 5, .int .i64 a, .int .i64 b] 36) = w1 at hp hb hk0 k2 HA1 S1 hF ⊢
    go_quiet (fail)
    go_wp2_with fail
    go_ret2
    exact ⟨rfl, F, HA1.out.kept (fun _ _ => rfl), (S1.out.goes F).trans ⟨(Chg.refl _ _).drewN _, fun _ h => .inl h⟩⟩
  · go_enter Tryz.func19, Tryz.ntmps19
    go_wp2_with fail
    generalize (w.alloc (.cells #[.pointer (some ⟨bb, 0, none⟩)] 26)).alloc (.cells #[.int .i64 6, .int .i64 a, .int .i64 b] 36) = w1 at hp hb hk0 k2 HA1 S1 hF ⊢
    go_quiet (fail)
    go_wp2_with fail
    go_ret2
    exact ⟨rfl, F, HA1.out.kept (fun _ _ => rfl), (S1.out.goes F).trans ⟨(Chg.refl _ _).drewN _, fun _ h => .inl h⟩⟩
  · have hn : ¬ b < 1 := by omega
    have hn2 : (b < 1) = False := by simp; omega
    go_enter Tryz.func19, Tryz.ntmps19
    go_wp2_with fail
    generalize (w.alloc (.cells #[.pointer (some ⟨bb, 0, none⟩)] 26)).alloc (.cells #[.int .i64 6, .int .i64 a, .int .i64 b] 36) = w1 at hp hb hk0 k2 HA1 S1 hF ⊢
    go_quiet (fail)
    go_wp2_with fail
    go_ret2
    exact ⟨rfl, F, HA1.out.kept (fun _ _ => rfl), (S1.out.goes F).trans ⟨(Chg.refl _ _).drewN _, fun _ h => .inl h⟩⟩
end Ben
end Go.Proofs.YtlfbommppenlcaaGreatDoor
