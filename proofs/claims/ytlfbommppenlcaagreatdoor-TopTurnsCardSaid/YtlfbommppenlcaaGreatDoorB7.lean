/- The scheduler on paper: two go on. Conditions: it lies in memory; lengths are bounded. -/
import Derived.Test.YtlfbommppenlcaaGreatDoorB3
namespace Go.Proofs.YtlfbommppenlcaaGreatDoor
open Go.RowKit Go.Mem
namespace Ben

set_option maxRecDepth 100000 in
set_option maxHeartbeats 8000000 in
theorem bdoes_2 {w : World} {bb : Nat} {F : Nat → Prop} {B : Bn} {M : Nat} (hA : BenAt w bb F B) (hW : BW M B) (hM : M < 800000) (a b : Int) :
    Calls Tryz.prog 19 #[.pointer (some ⟨bb, 0, none⟩), .agg #[.int .i64 2, .int .i64 a, .int .i64 b]] w fun e w' => e = .returned (.tuple #[.int .i64 0, .int .i64 (B.resume2 a b).1]) ∧ BMakes w bb F (B.resume2 a b).2 w' := by
  have hlt := hA.lt
  have hA1 := (hA.alloc (.cells #[.pointer (some ⟨bb, 0, none⟩)] 26)).alloc (.cells #[.int .i64 2, .int .i64 a, .int .i64 b] 36)
  have hA2 := hA1.alloc (.cells #[.int .i64 a, .int .i64 b] 3)
  have hG2 : Goes F F w (((w.alloc (.cells #[.pointer (some ⟨bb, 0, none⟩)] 26)).alloc (.cells #[.int .i64 2, .int .i64 a, .int .i64 b] 36)).alloc (.cells #[.int .i64 a, .int .i64 b] 3)) := ((Goes.alloc _ _).trans (Goes.alloc _ _)).trans (Goes.alloc _ _)
  have hself := @heap_alloc_self ((w.alloc (.cells #[.pointer (some ⟨bb, 0, none⟩)] 26)).alloc (.cells #[.int .i64 2, .int .i64 a, .int .i64 b] 36)) (.cells #[.int .i64 a, .int .i64 b] 3)
  have hself' : (((w.alloc (.cells #[.pointer (some ⟨bb, 0, none⟩)] 26)).alloc (.cells #[.int .i64 2, .int .i64 a, .int .i64 b] 36)).alloc (.cells #[.int .i64 a, .int .i64 b] 3)).heap[w.heap.size + 2]? = some (.cells #[.int .i64 a, .int .i64 b] 3 (0, 0)) := by simpa using hself
  have hl0 := cell_of_block (o := 0) (v := .int .i64 a) hself' rfl
  have hl1 := cell_of_block (o := 1) (v := .int .i64 b) hself' rfl
  have s1 := isBegun w bb 2 a b
  have hp : (((w.alloc (.cells #[.pointer (some ⟨bb, 0, none⟩)] 26)).alloc (.cells #[.int .i64 2, .int .i64 a, .int .i64 b] 36)).alloc (.cells #[.int .i64 a, .int .i64 b] 3)).cell? ⟨w.heap.size, 0, none⟩ = some (.pointer (some ⟨bb, 0, none⟩)) := (World.cell?_alloc_lt _ _ _ (World.block_lt_of_cell? _ _ s1.hp)).trans s1.hp
  have HA2 := Lib.hid hA2
  have HG2 := Lib.hid hG2
  have HLT := Lib.hid hlt
  clear hA1 hA2 hself hself' s1 hA hG2 hlt
  go_enter Tryz.func19, Tryz.ntmps19
  go_wp2_with fail
  generalize ((w.alloc (.cells #[.pointer (some ⟨bb, 0, none⟩)] 26)).alloc (.cells #[.int .i64 2, .int .i64 a, .int .i64 b] 36)).alloc (.cells #[.int .i64 a, .int .i64 b] 3) = w1 at HA2 HG2 hl0 hl1 hp ⊢
  refine wp_loop_rounds 3 ?_
  rw [rounds_succ]
  by_cases ht : B.there a = true
  case neg =>
    have hf : B.there a = false := by simpa using ht
    go_wp2_with (go_at_call 61; refine (there_calls HA2.out hW hp a).mono ?_; rintro e w' ⟨rfl, rfl⟩; rw [hf])
    go_ret2
    unfold Bn.resume2
    rw [if_neg ht]
    exact ⟨rfl, F, HA2.out, HG2.out⟩
  go_wp2_with (go_at_call 61; refine (there_calls HA2.out hW hp a).mono ?_; rintro e w' ⟨rfl, rfl⟩; rw [ht])
  rw [rounds_succ]
  by_cases hu : B.there b = true
  case neg =>
    have hf : B.there b = false := by simpa using hu
    go_wp2_with (go_at_call 61; refine (there_calls HA2.out hW hp b).mono ?_; rintro e w' ⟨rfl, rfl⟩; rw [hf])
    go_ret2
    unfold Bn.resume2
    rw [if_pos ht, if_neg hu]
    exact ⟨rfl, F, HA2.out, HG2.out⟩
  go_wp2_with (go_at_call 61; refine (there_calls HA2.out hW hp b).mono ?_; rintro e w' ⟨rfl, rfl⟩; rw [hu])
  rw [rounds_succ]
  go_wp2_with fail
  have ht' := there_iff ht
  have hu' := there_iff hu
  obtain ⟨tag, qs, c, h, hF⟩ := id HA2.out
  obtain ⟨x, hx⟩ : ∃ x, B.l[a.toNat - 1]? = some x := ⟨_, at_some (B := B) ht'.1 ht'.2⟩
  obtain ⟨y, hy⟩ : ∃ y, B.l[b.toNat - 1]? = some y := ⟨_, at_some (B := B) hu'.1 hu'.2⟩
  obtain ⟨g, cap, p0, p1, p2, p3, p4, p5, p6, p7⟩ := h.procs hx
  obtain ⟨g2, cap2, q0, q1, q2, q3, q4, q5, q6, q7⟩ := h.procs hy
  have eg : g2 = g := by
    have := q0.symm.trans p0
    simp only [Option.some.injEq, Value.slice.injEq, Addr.mk.injEq, and_true] at this
    exact this.1
  subst eg
  have ex : B.at_ a = x := Option.some.inj ((at_some (B := B) ht'.1 ht'.2).symm.trans hx)
  have ey : B.at_ b = y := Option.some.inj ((at_some (B := B) hu'.1 hu'.2).symm.trans hy)
  have hll := hW.ll
  have hw1 : IntKind.i64.wrap (a - 1) = a - 1 := IntWalk.i64_in _ (by omega)
  have hx1 : (0 : Int) ≤ a - 1 := by omega
  have hx3 : (1 : Int) ≤ a := by omega
  have hx2 : a - 1 < (B.l.length : Nat) := by omega
  have hw2 : IntKind.i64.wrap (b - 1) = b - 1 := IntWalk.i64_in _ (by omega)
  have hy1 : (0 : Int) ≤ b - 1 := by omega
  have hy3 : (1 : Int) ≤ b := by omega
  have hy2 : b - 1 < (B.l.length : Nat) := by omega
  have HEX := Lib.hid ex
  have HEY := Lib.hid ey
  have HT := Lib.hid ht
  have HT' := Lib.hid ht'
  have HU := Lib.hid hu
  have HU' := Lib.hid hu'
  clear h p0 hx p2 p3 p4 p5 p7 ex ht ht' q0 hy q1 q2 q3 q4 q5 q7 ey hu hu'
  refine wp_loop_rounds 3 ?_
  rw [rounds_succ]
  by_cases hs : x.state = 0
  case neg =>
    have hd : (x.state == 0) = false := by simpa using hs
    have HS := Lib.hid hs
    clear hs
    go_wp2_with fail
    go_ret2
    unfold Bn.resume2
    rw [if_pos HT.out, if_pos HU.out, HEX.out, if_neg (fun h => HS.out h.1)]
    exact ⟨rfl, F, HA2.out, HG2.out⟩
  rw [hs] at p6
  have HS := Lib.hid hs
  clear hs
  go_wp2_with fail
  rw [rounds_succ]
  by_cases hs : y.state = 0
  case neg =>
    have hd : (y.state == 0) = false := by simpa using hs
    have HS2 := Lib.hid hs
    clear hs
    go_wp2_with fail
    go_ret2
    unfold Bn.resume2
    rw [if_pos HT.out, if_pos HU.out, HEY.out, if_neg (fun h => HS2.out h.2.1)]
    exact ⟨rfl, F, HA2.out, HG2.out⟩
  rw [hs] at q6
  have HS2 := Lib.hid hs
  clear hs
  by_cases hab : a = b
  case pos =>
    have hd : (a == b) = true := by simpa using hab
    have HAB := Lib.hid hab
    clear hab
    go_wp2_with fail
    go_ret2
    unfold Bn.resume2
    rw [if_pos HT.out, if_pos HU.out, if_neg (fun h => h.2.2 HAB.out)]
    exact ⟨rfl, F, HA2.out, HG2.out⟩
  have hd : (a == b) = false := by simpa using hab
  have HAB := Lib.hid hab
  clear hab
  go_wp2_with fail
  clear hd
  rw [rounds_succ]
  go_wp2_with fail
  refine wp_loop_rounds 3 ?_
  rw [rounds_succ]
  go_wp2_with (go_at_call 62; refine (wakes_calls HA2.out hW (by omega) a HT'.out.1 HT'.out.2).mono ?_; rintro e w5 ⟨rfl, F5, hA5, g5⟩)
  have hl1' : w5.cell? ⟨w.heap.size + 2, 1, none⟩ = some (.int .i64 b) := (g5.chg.cell (p := ⟨w.heap.size + 2, 1, none⟩) (World.block_lt_of_cell? _ _ hl1) (fun hf => by have := HLT.out _ hf; dsimp only at this; omega)).trans hl1
  have hp' : w5.cell? ⟨w.heap.size, 0, none⟩ = some (.pointer (some ⟨bb, 0, none⟩)) := (g5.chg.cell (p := ⟨w.heap.size, 0, none⟩) (World.block_lt_of_cell? _ _ hp) (fun hf => by have := HLT.out _ hf; simp at this)).trans hp
  clear hl0 hl1 hp p6 q6 p1
  rw [rounds_succ]
  go_wp2_with (go_at_call 62; refine (wakes_calls hA5 (hW.wakes HT'.out.1 HT'.out.2) (by omega) b HU'.out.1 (by rw [wakes_len]; exact HU'.out.2)).mono ?_; rintro e w6 ⟨rfl, hM6⟩)
  rw [rounds_succ]
  go_wp2_with fail
  go_ret2
  unfold Bn.resume2
  rw [if_pos HT.out, if_pos HU.out, if_pos ⟨by rw [HEX.out]; exact HS.out, by rw [HEY.out]; exact HS2.out, HAB.out⟩]
  exact ⟨rfl, hM6.trans' (HG2.out.trans g5)⟩
end Ben
end Go.Proofs.YtlfbommppenlcaaGreatDoor
