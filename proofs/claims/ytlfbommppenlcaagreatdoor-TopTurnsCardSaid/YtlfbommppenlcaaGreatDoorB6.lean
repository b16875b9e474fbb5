/- The scheduler on paper: one, or two, go on. Conditions: it lies in memory; lengths are bounded. -/
import Derived.Test.YtlfbommppenlcaaGreatDoorB3
namespace Go.Proofs.YtlfbommppenlcaaGreatDoor
open Go.RowKit Go.Mem
namespace Ben

set_option maxRecDepth 100000 in
set_option maxHeartbeats 4000000 in
theorem bdoes_1 {w : World} {bb : Nat} {F : Nat → Prop} {B : Bn} {M : Nat} (hA : BenAt w bb F B) (hW : BW M B) (hM : M < 900000) (a b : Int) :
    Calls Tryz.prog 19 #[.pointer (some ⟨bb, 0, none⟩), .agg #[.int .i64 1, .int .i64 a, .int .i64 b]] w fun e w' => e = .returned (.tuple #[.int .i64 0, .int .i64 (B.resume1 a).1]) ∧ BMakes w bb F (B.resume1 a).2 w' := by
  have hA1 := (hA.alloc (.cells #[.pointer (some ⟨bb, 0, none⟩)] 26)).alloc (.cells #[.int .i64 1, .int .i64 a, .int .i64 b] 36)
  have hA2 := hA1.alloc (.cells #[.int .i64 a, .int .i64 b] 3)
  have hG2 : Goes F F w (((w.alloc (.cells #[.pointer (some ⟨bb, 0, none⟩)] 26)).alloc (.cells #[.int .i64 1, .int .i64 a, .int .i64 b] 36)).alloc (.cells #[.int .i64 a, .int .i64 b] 3)) := ((Goes.alloc _ _).trans (Goes.alloc _ _)).trans (Goes.alloc _ _)
  have hself := @heap_alloc_self ((w.alloc (.cells #[.pointer (some ⟨bb, 0, none⟩)] 26)).alloc (.cells #[.int .i64 1, .int .i64 a, .int .i64 b] 36)) (.cells #[.int .i64 a, .int .i64 b] 3)
  have hself' : (((w.alloc (.cells #[.pointer (some ⟨bb, 0, none⟩)] 26)).alloc (.cells #[.int .i64 1, .int .i64 a, .int .i64 b] 36)).alloc (.cells #[.int .i64 a, .int .i64 b] 3)).heap[w.heap.size + 2]? = some (.cells #[.int .i64 a, .int .i64 b] 3 (0, 0)) := by simpa using hself
  have hl0 := cell_of_block (o := 0) (v := .int .i64 a) hself' rfl
  have s1 := isBegun w bb 1 a b
  have hp : (((w.alloc (.cells #[.pointer (some ⟨bb, 0, none⟩)] 26)).alloc (.cells #[.int .i64 1, .int .i64 a, .int .i64 b] 36)).alloc (.cells #[.int .i64 a, .int .i64 b] 3)).cell? ⟨w.heap.size, 0, none⟩ = some (.pointer (some ⟨bb, 0, none⟩)) := (World.cell?_alloc_lt _ _ _ (World.block_lt_of_cell? _ _ s1.hp)).trans s1.hp
  have HA2 := Lib.hid hA2
  have HG2 := Lib.hid hG2
  clear hA1 hA2 hself hself' s1 hA hG2
  go_enter Tryz.func19, Tryz.ntmps19
  go_wp2_with fail
  generalize ((w.alloc (.cells #[.pointer (some ⟨bb, 0, none⟩)] 26)).alloc (.cells #[.int .i64 1, .int .i64 a, .int .i64 b] 36)).alloc (.cells #[.int .i64 a, .int .i64 b] 3) = w1 at HA2 HG2 hl0 hp ⊢
  refine wp_loop_rounds 2 ?_
  rw [rounds_succ]
  by_cases ht : B.there a = true
  · have ht' := there_iff ht
    go_wp2_with (go_at_call 61; refine (there_calls HA2.out hW hp a).mono ?_; rintro e w' ⟨rfl, rfl⟩; rw [ht])
    rw [rounds_succ]
    go_wp2_with fail
    refine wp_loop_rounds 2 ?_
    rw [rounds_succ]
    obtain ⟨tag, qs, c, h, hF⟩ := id HA2.out
    obtain ⟨x, hx⟩ : ∃ x, B.l[a.toNat - 1]? = some x := ⟨_, at_some (B := B) ht'.1 ht'.2⟩
    obtain ⟨g, cap, p0, p1, p2, p3, p4, p5, p6, p7⟩ := h.procs hx
    have ex : B.at_ a = x := Option.some.inj ((at_some (B := B) ht'.1 ht'.2).symm.trans hx)
    have hll := hW.ll
    have hw1 : IntKind.i64.wrap (a - 1) = a - 1 := IntWalk.i64_in _ (by omega)
    have hx1 : (0 : Int) ≤ a - 1 := by omega
    have hx3 : (1 : Int) ≤ a := by omega
    have hx2 : a - 1 < (B.l.length : Nat) := by omega
    have HEX := Lib.hid ex
    have HT := Lib.hid ht
    have HT' := Lib.hid ht'
    clear h p0 hx p2 p3 p4 p5 p7 ex ht ht'
    by_cases hs : x.state = 0
    · rw [hs] at p6
      have HS := Lib.hid hs
      clear hs
      go_wp2_with fail
      rw [rounds_succ]
      go_wp2_with fail
      refine wp_loop_rounds 2 ?_
      rw [rounds_succ]
      go_wp2_with (go_at_call 62; refine (wakes_calls HA2.out hW hM a HT'.out.1 HT'.out.2).mono ?_; rintro e w5 ⟨rfl, hM5⟩)
      rw [rounds_succ]
      go_wp2_with fail
      go_ret2
      unfold Bn.resume1
      rw [if_pos HT.out, HEX.out, if_pos HS.out]
      exact ⟨rfl, hM5.trans' HG2.out⟩
    · have hd : (x.state == 0) = false := by simpa using hs
      have HS := Lib.hid hs
      clear hs
      go_wp2_with fail
      go_ret2
      unfold Bn.resume1
      rw [if_pos HT.out, HEX.out, if_neg HS.out]
      exact ⟨rfl, F, HA2.out, HG2.out⟩
  · have hf : B.there a = false := by simpa using ht
    go_wp2_with (go_at_call 61; refine (there_calls HA2.out hW hp a).mono ?_; rintro e w' ⟨rfl, rfl⟩; rw [hf])
    go_ret2
    unfold Bn.resume1
    rw [if_neg ht]
    exact ⟨rfl, F, HA2.out, HG2.out⟩
end Ben
end Go.Proofs.YtlfbommppenlcaaGreatDoor
