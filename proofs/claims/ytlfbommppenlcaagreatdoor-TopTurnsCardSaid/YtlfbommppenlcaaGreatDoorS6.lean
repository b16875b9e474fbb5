/- A process is made ready; the reads that go with it. Conditions: a scheduler lies there; its queues are short; the process is there. -/
import Derived.Test.YtlfbommppenlcaaGreatDoorS5
namespace Go.Proofs.YtlfbommppenlcaaGreatDoor
open Go.RowKit Go.Mem

theorem SchAt.lens {w : World} {sb : Nat} {F : Nat → Prop} {S : St} (h : SchAt w sb F S) :
    ∃ a cap, w.cell? ⟨sb, 0, none⟩ = some (.slice a S.prior.length cap) := by
  obtain ⟨tag, ps, c, h, _⟩ := h
  obtain ⟨v, h1, h2, _⟩ := h.fld 0 (by omega)
  obtain ⟨a, cap, rfl⟩ := h2.shape
  exact ⟨a, cap, by rw [cell_of_block h.hdr h1]; simp [St.fld]⟩

theorem SchAt.priorAt {w : World} {sb : Nat} {F : Nat → Prop} {S : St} (h : SchAt w sb F S) {p : Int} (h1 : 1 ≤ p) (h2 : p ≤ S.prior.length) :
    ∃ g cap, w.cell? ⟨sb, 0, none⟩ = some (.slice (some ⟨g, 0, none⟩) S.prior.length cap) ∧ w.cell? ⟨g, p.toNat - 1, none⟩ = some (.int .i64 (S.prio p)) := by
  obtain ⟨tag, ps, c, h, hF⟩ := h
  obtain ⟨v, h1, h2, h3⟩ := h.fld 0 (by omega)
  have e : S.fld ps 0 = ints S.prior := rfl
  rw [e] at h2
  obtain ⟨g, cap, rfl, _, _, hc, _⟩ := h2.at (by simp; omega)
  refine ⟨g, cap, by rw [cell_of_block h.hdr h1]; simp, hc _ _ (ints_get (by omega))⟩

theorem SchAt.idleAt {w : World} {sb : Nat} {F : Nat → Prop} {S : St} (h : SchAt w sb F S) {p : Int} (h1 : 1 ≤ p) (h2 : p ≤ S.idle.length) :
    ∃ g cap, w.cell? ⟨sb, 1, none⟩ = some (.slice (some ⟨g, 0, none⟩) S.idle.length cap) ∧ w.cell? ⟨g, p.toNat - 1, none⟩ = some (.bool (S.isIdle p)) ∧ w.frozen? ⟨g, p.toNat - 1, none⟩ = false ∧
      ∀ b, SchAt (w.setCell ⟨g, p.toNat - 1, none⟩ (.bool b)) sb F { S with idle := S.idle.set (p.toNat - 1) b } ∧ Goes F F w (w.setCell ⟨g, p.toNat - 1, none⟩ (.bool b)) := by
  have hi : p.toNat - 1 < S.idle.length := by omega
  obtain ⟨tag, ps, c, h, hF⟩ := h
  obtain ⟨v, h1, h2, h3⟩ := h.fld 1 (by omega)
  have e : S.fld ps 1 = bools S.idle := rfl
  rw [e] at h2
  obtain ⟨g, cap, rfl, _, _, hc, hf⟩ := h2.at (by simp; omega)
  refine ⟨g, cap, by rw [cell_of_block h.hdr h1]; simp, hc _ _ (by simp [bools, St.isIdle, List.getD, hi]), hf _, fun b => ⟨⟨tag, ps, c, ?_, hF⟩, ⟨(Chg.refl _ _).setCell (fun _ => (hF g).2 (by rw [h3 g rfl]; simp)) _, fun _ h => .inl h⟩⟩⟩
  refine h.setElem (j := 1) (by omega) h1 (.bool b) (by rw [e]; simpa using hi) ?_ (fun l hl hne => ?_) rfl rfl
  · show bools (S.idle.set _ b) = (bools S.idle).set _ (.bool b)
    simp [bools, List.map_set]
  · simp only [St.fld]; rw [if_neg hne]; simp [hne]

theorem has_calls {w : World} {sb : Nat} {F : Nat → Prop} {S : St} (hA : SchAt w sb F S) (p : Int) (hl : S.prior.length ≤ 100) :
    Calls Tryz.prog 88 #[.pointer (some ⟨sb, 0, none⟩), .int .i64 p] w fun e w' => e = .returned (.bool (S.has p)) ∧ w = w' := by
  obtain ⟨a, cap, hc⟩ := hA.lens
  have hl' : (S.prior.length : Int) ≤ 100 := by omega
  unfold St.has
  by_cases h1 : 1 ≤ p
  · have hd : decide (1 ≤ p) = true := by simpa using h1
    rw [hd]
    go_enter Tryz.func88, Tryz.ntmps88
    go_wp2
    go_ret
    exact ⟨rfl, rfl⟩
  · have hd : decide (1 ≤ p) = false := by simpa using h1
    rw [hd]
    go_enter Tryz.func88, Tryz.ntmps88
    go_wp2
    go_ret
    exact ⟨rfl, rfl⟩

set_option maxHeartbeats 1000000 in
theorem make_none {w : World} {sb : Nat} {F : Nat → Prop} {S : St} {N : Nat} (hA : SchAt w sb F S) (hW : S.WF N) (hN : N < 100000) (p : Int) (hp1 : 1 ≤ p) (hp2 : p ≤ S.prior.length) (ha : S.active = 0) :
    Calls Tryz.prog 90 #[.pointer (some ⟨sb, 0, none⟩), .int .i64 p] w fun e w' => e = .returned (.tuple #[]) ∧ Makes w sb F (S.make p) w' := by
  have hil := hW.il
  have hpl := hW.pl
  obtain ⟨g, cap, hi1, hi2, hi3, hi4⟩ := hA.idleAt (p := p) hp1 (by omega)
  have hA1 := (hi4 false).1
  obtain ⟨g', cap', hp3, hp4⟩ := hA1.priorAt (p := p) hp1 hp2
  have hpr1 := (hW.prio hp1 hp2).1
  have hpr2 := (hW.prio hp1 hp2).2
  have e1 : ({ S with idle := S.idle.set (p.toNat - 1) false } : St).prio p = S.prio p := rfl
  rw [e1] at hp4
  have hac := hA1.actCell.1
  rw [ha] at hac
  have b1 : p - 1 < (S.idle.length : Int) := by omega
  have b2 : p - 1 < (S.prior.length : Int) := by omega
  have HA := Lib.hid ha
  have HG := Lib.hid (hi4 false)
  clear hil ha hi4 hA1 e1
  go_enter Tryz.func90, Tryz.ntmps90
  go_wp2_with fail
  refine (sch_add HG.out.1 (k := (S.prio p).toNat) p (by omega) (by have := hW.rl (S.prio p).toNat; dsimp only; omega)).mono ?_
  rintro e w1 ⟨rfl, F1, hA1, hG1⟩
  have hac1 := hA1.actCell.1
  have e2 : (St.push { S with idle := S.idle.set (p.toNat - 1) false } (S.prio p).toNat p).active = 0 := HA.out
  rw [e2] at hac1
  clear e2 hac hi1 hi2 hi3 hp3 hp4
  go_wp2_with fail
  refine (sch_drop hA1 (k := (S.prio p).toNat) p (by omega) (by have := hW.rl (S.prio p).toNat; simp [St.push]; omega)).mono ?_
  rintro e w2 ⟨⟨r, rfl⟩, F2, hA2, hG2⟩
  have hac2 := hA2.actCell.1
  have hfr2 := hA2.actCell.2
  clear hac1
  go_wp2
  go_end0
  refine ⟨rfl, F2, ?_, (((HG.out.2.trans hG1).trans hG2).trans (hA2.goes_set 12 _))⟩
  have := hA2.setAct p
  unfold St.make
  rw [if_pos HA.out]
  exact this
end Go.Proofs.YtlfbommppenlcaaGreatDoor
