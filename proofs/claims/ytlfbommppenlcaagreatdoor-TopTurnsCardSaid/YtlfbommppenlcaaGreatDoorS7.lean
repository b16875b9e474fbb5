/- A process is made ready while another one is active. Conditions: a scheduler lies there; its queues are short; the process is there. -/
import Derived.Test.YtlfbommppenlcaaGreatDoorS6
import Derived.StillTailTactics
namespace Go.Proofs.YtlfbommppenlcaaGreatDoor
open Go.RowKit Go.Mem

set_option maxHeartbeats 1000000 in
theorem make_less {w : World} {sb : Nat} {F : Nat → Prop} {S : St} {N : Nat} (hA : SchAt w sb F S) (hW : S.WF N) (hN : N < 100000) (p : Int) (hp1 : 1 ≤ p) (hp2 : p ≤ S.prior.length) (ha : S.active ≠ 0) (hlt : ¬ S.prio p > S.prio S.active) :
    Calls Tryz.prog 90 #[.pointer (some ⟨sb, 0, none⟩), .int .i64 p] w fun e w' => e = .returned (.tuple #[]) ∧ Makes w sb F (S.make p) w' := by
  have hil := hW.il
  have hpl := hW.pl
  obtain ⟨g, cap, hi1, hi2, hi3, hi4⟩ := hA.idleAt (p := p) hp1 (by omega)
  have hA1 := (hi4 false).1
  obtain ⟨g', cap', hp3, hp4⟩ := hA1.priorAt (p := p) hp1 hp2
  have hpr1 := (hW.prio hp1 hp2).1
  have hpr2 := (hW.prio hp1 hp2).2
  have e1 : ({ S with idle := S.idle.set (p.toNat - 1) false } : St).prio p = S.prio p := rfl
  rw [e1] at hp4
  have b1 : p - 1 < (S.idle.length : Int) := by omega
  have b2 : p - 1 < (S.prior.length : Int) := by omega
  have a1 : 1 ≤ S.active := by have := hW.ac; omega
  have a2 : S.active ≤ S.prior.length := hW.ac.2
  have hd : (S.active == 0) = false := by simpa using ha
  have HA := Lib.hid ha
  have HG := Lib.hid (hi4 false)
  clear hil ha hi4 hA1 e1
  go_enter Tryz.func90, Tryz.ntmps90
  go_wp2_with fail
  refine (sch_add HG.out.1 (k := (S.prio p).toNat) p (by omega) (by have := hW.rl (S.prio p).toNat; dsimp only; omega)).mono ?_
  rintro e w1 ⟨rfl, F1, hA1, hG1⟩
  have hac1 := hA1.actCell.1
  have e2 : (St.push { S with idle := S.idle.set (p.toNat - 1) false } (S.prio p).toNat p).active = S.active := rfl
  rw [e2] at hac1
  obtain ⟨g2, cap2, hq3, hq4⟩ := hA1.priorAt (p := S.active) a1 a2
  have e3 : (St.push { S with idle := S.idle.set (p.toNat - 1) false } (S.prio p).toNat p).prio S.active = S.prio S.active := rfl
  have e4 : (St.push { S with idle := S.idle.set (p.toNat - 1) false } (S.prio p).toNat p).prior.length = S.prior.length := rfl
  rw [e3] at hq4
  rw [e4] at hq3
  have c1 : S.active - 1 < (S.prior.length : Int) := by omega
  clear e2 e3 e4 hi1 hi2 hi3 hp3 hp4
  go_wp2
  go_end0
  refine ⟨rfl, F1, ?_, HG.out.2.trans hG1⟩
  unfold St.make
  rw [if_neg HA.out, if_neg (Int.not_lt.2 hlt)]
  exact hA1

theorem S7len {S : St} {N : Nat} (hW : S.WF N) (hN : N < 100000) (i j : Nat) (p : Int) : ((St.push { S with idle := S.idle.set (p.toNat - 1) false } i p).ready j).length < 1000000 := by
  have := hW.rl j
  unfold St.push upd
  dsimp only
  split
  · have := hW.rl i; rw [List.length_append, List.length_singleton]; omega
  · omega

theorem S7len2 {S : St} {N : Nat} (hW : S.WF N) (hN : N < 100000) (i j k : Nat) (p q : Int) : ((St.push (St.push { S with idle := S.idle.set (p.toNat - 1) false } i p) j q).ready k).length < 1000000 := by
  have h : ∀ k, ((St.push { S with idle := S.idle.set (p.toNat - 1) false } i p).ready k).length < 100001 := by
    intro k
    have := hW.rl k
    unfold St.push upd
    dsimp only
    split
    · have := hW.rl i; rw [List.length_append, List.length_singleton]; omega
    · omega
  generalize St.push { S with idle := S.idle.set (p.toNat - 1) false } i p = T at h
  unfold St.push upd
  dsimp only
  split
  · have := h j; rw [List.length_append, List.length_singleton]; omega
  · have := h k; omega

set_option maxRecDepth 100000 in
set_option maxHeartbeats 1000000 in
theorem make_more {w : World} {sb : Nat} {F : Nat → Prop} {S : St} {N : Nat} (hA : SchAt w sb F S) (hW : S.WF N) (hN : N < 100000) (p : Int) (hp1 : 1 ≤ p) (hp2 : p ≤ S.prior.length) (ha : S.active ≠ 0) (hlt : S.prio p > S.prio S.active) :
    Calls Tryz.prog 90 #[.pointer (some ⟨sb, 0, none⟩), .int .i64 p] w fun e w' => e = .returned (.tuple #[]) ∧ Makes w sb F (S.make p) w' := by
  have hil := hW.il
  have hpl := hW.pl
  obtain ⟨g, cap, hi1, hi2, hi3, hi4⟩ := hA.idleAt (p := p) hp1 (by omega)
  have hA1 := (hi4 false).1
  obtain ⟨g', cap', hp3, hp4⟩ := hA1.priorAt (p := p) hp1 hp2
  have hpr1 := (hW.prio hp1 hp2).1
  have hpr2 := (hW.prio hp1 hp2).2
  have e1 : ({ S with idle := S.idle.set (p.toNat - 1) false } : St).prio p = S.prio p := rfl
  rw [e1] at hp4
  have b1 : p - 1 < (S.idle.length : Int) := by omega
  have b2 : p - 1 < (S.prior.length : Int) := by omega
  have a1 : 1 ≤ S.active := by have := hW.ac; omega
  have a2 : S.active ≤ S.prior.length := hW.ac.2
  have d1 := (hW.prio a1 a2).1
  have d2 := (hW.prio a1 a2).2
  have hd : (S.active == 0) = false := by simpa using ha
  have hd' : (S.active != 0) = true := by simpa using ha
  have HA := Lib.hid ha
  have HG := Lib.hid (hi4 false)
  clear hil ha hi4 hA1 e1
  go_enter Tryz.func90, Tryz.ntmps90
  go_wp2_with fail
  refine (sch_add HG.out.1 (k := (S.prio p).toNat) p (by omega) (by have := hW.rl (S.prio p).toNat; dsimp only; omega)).mono ?_
  rintro e w1 ⟨rfl, F1, hA1, hG1⟩
  have hac1 := hA1.actCell.1
  have e2 : (St.push { S with idle := S.idle.set (p.toNat - 1) false } (S.prio p).toNat p).active = S.active := rfl
  rw [e2] at hac1
  obtain ⟨g2, cap2, hq3, hq4⟩ := hA1.priorAt (p := S.active) a1 a2
  have e3 : (St.push { S with idle := S.idle.set (p.toNat - 1) false } (S.prio p).toNat p).prio S.active = S.prio S.active := rfl
  have e4 : (St.push { S with idle := S.idle.set (p.toNat - 1) false } (S.prio p).toNat p).prior.length = S.prior.length := rfl
  rw [e3] at hq4
  rw [e4] at hq3
  have c1 : S.active - 1 < (S.prior.length : Int) := by omega
  clear e2 e3 e4 hi1 hi2 hi3 hp3 hp4
  go_wp2_with fail
  have w1' : IntKind.i64.wrap (S.active - 1) = S.active - 1 := IntWalk.i64_in _ (by omega)
  have w2' : 0 ≤ S.active - 1 := by omega
  have w3' : (S.active - 1).toNat = S.active.toNat - 1 := by omega
  have w4' : S.prio S.active < 9 := by omega
  have w5' : 0 ≤ S.prio S.active := by omega
  have hA1d : SchAt w1.drew sb F1 _ := hA1.chg (G := fun _ => False) ((Chg.refl _ _).drew) (fun _ _ h => h)
  go_region_with (go_at_call 93; refine (sch_add hA1d (k := (S.prio S.active).toNat) S.active (by omega) ?_).mono ?_; (exact S7len hW hN _ _ _); rintro e w2 ⟨rfl, F2, hA2, hG2⟩)
  clear hac1 hq3 hq4 w1' w2' w3' w4' w5' hA1d
  go_wp2_with fail
  refine (sch_drop hA2 (k := (S.prio p).toNat) p (by omega) (S7len2 hW hN _ _ _ _ _)).mono ?_
  rintro e w3 ⟨⟨r, rfl⟩, F3, hA3, hG3⟩
  have hac3 := hA3.actCell.1
  have hfr3 := hA3.actCell.2
  go_wp2
  go_end0
  refine ⟨rfl, F3, ?_, ((((HG.out.2.trans hG1).trans ⟨(Chg.refl F1 w1).drew, fun _ h => .inl h⟩).trans hG2).trans hG3).trans (hA3.goes_set 12 _)⟩
  have := hA3.setAct p
  unfold St.make
  rw [if_neg HA.out, if_pos hlt]
  exact this

theorem make_calls {w : World} {sb : Nat} {F : Nat → Prop} {S : St} {N : Nat} (hA : SchAt w sb F S) (hW : S.WF N) (hN : N < 100000) (p : Int) (hp1 : 1 ≤ p) (hp2 : p ≤ S.prior.length) :
    Calls Tryz.prog 90 #[.pointer (some ⟨sb, 0, none⟩), .int .i64 p] w fun e w' => e = .returned (.tuple #[]) ∧ Makes w sb F (S.make p) w' := by
  by_cases ha : S.active = 0
  · exact make_none hA hW hN p hp1 hp2 ha
  · by_cases hl : S.prio p > S.prio S.active
    · exact make_more hA hW hN p hp1 hp2 ha hl
    · exact make_less hA hW hN p hp1 hp2 ha hl
end Go.Proofs.YtlfbommppenlcaaGreatDoor
