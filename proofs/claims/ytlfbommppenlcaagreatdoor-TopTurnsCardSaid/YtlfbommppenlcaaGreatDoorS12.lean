/- The scheduler's call Suspend. Conditions: a scheduler lies there; its queues are short. -/
import Derived.Test.YtlfbommppenlcaaGreatDoorS10
namespace Go.Proofs.YtlfbommppenlcaaGreatDoor
open Go.RowKit Go.Mem

theorem suspend_none {w : World} {sb : Nat} {F : Nat → Prop} {S : St} {N : Nat} (hA : SchAt w sb F S) (hW : S.WF N) (p : Int) (hh : S.has p = false) :
    Calls Tryz.prog 57 #[.pointer (some ⟨sb, 0, none⟩), .int .i64 p] w fun e w' => e = .returned (.int .i64 4) ∧ w = w' := by
  go_enter Tryz.func57, Tryz.ntmps57
  go_wp2_with fail
  refine (has_calls hA p hW.pl).mono ?_
  rw [hh]
  rintro e w' ⟨rfl, rfl⟩
  go_wp2
  go_ret
  exact ⟨rfl, rfl⟩

theorem suspend_idle {w : World} {sb : Nat} {F : Nat → Prop} {S : St} {N : Nat} (hA : SchAt w sb F S) (hW : S.WF N) (p : Int) (hh : S.has p = true) (hi : S.isIdle p = true) :
    Calls Tryz.prog 57 #[.pointer (some ⟨sb, 0, none⟩), .int .i64 p] w fun e w' => e = .returned (.int .i64 2) ∧ w = w' := by
  have hh' := hh
  simp only [St.has, Bool.and_eq_true, decide_eq_true_eq] at hh'
  obtain ⟨hp1, hp2⟩ := hh'
  have hil := hW.il
  have hpl := hW.pl
  obtain ⟨g, cap, hi1, hi2, hi3, _⟩ := hA.idleAt (p := p) hp1 (by omega)
  rw [hi] at hi2
  have b1 : p - 1 < (S.idle.length : Int) := by omega
  have b2 : (S.prior.length : Int) ≤ 100 := by omega
  have HH := Lib.hid hh
  clear hh hi hil
  go_enter Tryz.func57, Tryz.ntmps57
  go_wp2_with fail
  refine (has_calls hA p hW.pl).mono ?_
  rw [HH.out]
  rintro e w' ⟨rfl, rfl⟩
  go_wp2
  go_ret
  exact ⟨rfl, rfl⟩

set_option maxHeartbeats 1000000 in
theorem suspend_act {w : World} {sb : Nat} {F : Nat → Prop} {S : St} {N : Nat} (hA : SchAt w sb F S) (hW : S.WF N) (hN : N < 100000) (p : Int) (hh : S.has p = true) (hi : S.isIdle p = false) (ha : S.active = p) :
    Calls Tryz.prog 57 #[.pointer (some ⟨sb, 0, none⟩), .int .i64 p] w fun e w' => e = .returned (.int .i64 0) ∧ Makes w sb F ({ S with idle := S.idle.set (p.toNat - 1) true } : St).next w' := by
  have hh' := hh
  simp only [St.has, Bool.and_eq_true, decide_eq_true_eq] at hh'
  obtain ⟨hp1, hp2⟩ := hh'
  have hil := hW.il
  have hpl := hW.pl
  obtain ⟨g, cap, hi1, hi2, hi3, hi4⟩ := hA.idleAt (p := p) hp1 (by omega)
  rw [hi] at hi2
  have hac := (hi4 true).1.actCell.1
  have hac' : (w.setCell ⟨g, p.toNat - 1, none⟩ (.bool true)).cell? ⟨sb, 12, none⟩ = some (.int .i64 p) := by rw [hac, ← ha]
  have b1 : p - 1 < (S.idle.length : Int) := by omega
  have b2 : (S.prior.length : Int) ≤ 100 := by omega
  have HH := Lib.hid hh
  have HG := Lib.hid (hi4 true)
  clear hh hi hil hi4 hac ha
  go_enter Tryz.func57, Tryz.ntmps57
  go_wp2_with fail
  refine (has_calls hA p hW.pl).mono ?_
  rw [HH.out]
  rintro e w' ⟨rfl, rfl⟩
  go_wp2_with fail
  refine (next_calls HG.out.1 (hW.setIdle _ _) (by omega)).mono ?_
  rintro e w1 ⟨rfl, hM⟩
  go_wp2
  go_ret
  exact ⟨rfl, hM.trans' HG.out.2⟩

/-- Semaphores of which the first k have let go of p. -/
def erased (l : List (List Int × Int)) (k : Nat) (p : Int) : List (List Int × Int) := (l.take k).map (fun s => (s.1.erase p, s.2)) ++ l.drop k
theorem erased_zero (l : List (List Int × Int)) (p : Int) : erased l 0 p = l := by simp [erased]
theorem erased_all (l : List (List Int × Int)) (p : Int) : erased l l.length p = l.map fun s => (s.1.erase p, s.2) := by simp [erased]
theorem erased_succ (l : List (List Int × Int)) (k : Nat) (p : Int) (hk : k < l.length) : (erased l k p).set k (((l.getD k ([], 0)).1.erase p), (l.getD k ([], 0)).2) = erased l (k + 1) p := by
  unfold erased
  have e1 : l.getD k ([], 0) = l[k] := by simp [List.getD, hk]
  rw [e1, List.set_append_right _ _ (by simp; omega)]
  simp only [List.length_map, List.length_take, Nat.min_eq_left (Nat.le_of_lt hk), Nat.sub_self]
  rw [List.drop_eq_getElem_cons hk, List.set_cons_zero, List.take_succ_eq_append_getElem hk, List.map_append, List.append_assoc]
  rfl
theorem erased_at (l : List (List Int × Int)) (k : Nat) (p : Int) (hk : k < l.length) : (erased l k p).getD k ([], 0) = l.getD k ([], 0) := by
  unfold erased
  simp only [List.getD]
  rw [List.getElem?_append_right (by simp; omega)]
  simp [Nat.min_eq_left (Nat.le_of_lt hk)]
theorem erased_len (l : List (List Int × Int)) (k : Nat) (p : Int) (hk : k ≤ l.length) : (erased l k p).length = l.length := by
  simp [erased]; omega

set_option maxRecDepth 100000 in
set_option maxHeartbeats 2000000 in
theorem suspend_other {w : World} {sb : Nat} {F : Nat → Prop} {S : St} {N : Nat} (hA : SchAt w sb F S) (hW : S.WF N) (hN : N < 100000) (p : Int) (hh : S.has p = true) (hi : S.isIdle p = false) (ha : S.active ≠ p) :
    Calls Tryz.prog 57 #[.pointer (some ⟨sb, 0, none⟩), .int .i64 p] w fun e w' => e = .returned (.int .i64 0) ∧
      Makes w sb F ({ ({ S with idle := S.idle.set (p.toNat - 1) true } : St).pull (S.prio p).toNat p with sems := S.sems.map fun s => (s.1.erase p, s.2) } : St) w' := by
  have hh' := hh
  simp only [St.has, Bool.and_eq_true, decide_eq_true_eq] at hh'
  obtain ⟨hp1, hp2⟩ := hh'
  have hil := hW.il
  have hpl := hW.pl
  obtain ⟨g, cap, hi1, hi2, hi3, hi4⟩ := hA.idleAt (p := p) hp1 (by omega)
  rw [hi] at hi2
  have hac := (hi4 true).1.actCell.1
  dsimp only at hac
  obtain ⟨g', cap', hq1, hq2⟩ := (hi4 true).1.priorAt (p := p) hp1 hp2
  have e1 : ({ S with idle := S.idle.set (p.toNat - 1) true } : St).prio p = S.prio p := rfl
  rw [e1] at hq2
  dsimp only at hq1
  have d1 := (hW.prio hp1 hp2).1
  have d2 := (hW.prio hp1 hp2).2
  have hd : (S.active == p) = false := by simpa using ha
  have b1 : p - 1 < (S.idle.length : Int) := by omega
  have b2 : (S.prior.length : Int) ≤ 100 := by omega
  have b3 : p - 1 < (S.prior.length : Int) := by omega
  have w1' : IntKind.i64.wrap (p - 1) = p - 1 := IntWalk.i64_in _ (by omega)
  have w2' : 0 ≤ p - 1 := by omega
  have w3' : (p - 1).toNat = p.toNat - 1 := by omega
  have w4' : S.prio p < 9 := by omega
  have w5' : 0 ≤ S.prio p := by omega
  have HH := Lib.hid hh
  have HG := Lib.hid (hi4 true)
  have HL := Lib.hid (show ∀ j, (({ S with idle := S.idle.set (p.toNat - 1) true } : St).ready j).length < 1000000 from fun j => by have := hW.rl j; dsimp only; omega)
  clear hh hi hil hi4 ha e1
  go_enter Tryz.func57, Tryz.ntmps57
  go_wp2_with fail
  refine (has_calls hA p hW.pl).mono ?_
  rw [HH.out]
  rintro e w' ⟨rfl, rfl⟩
  go_wp2_with fail
  have hAd : SchAt (w.setCell ⟨g, p.toNat - 1, none⟩ (.bool true)).drew sb F _ := HG.out.1.drewN 1
  go_region_with (go_at_call 92; refine (sch_drop hAd (k := (S.prio p).toNat) p (by omega) (HL.out _)).mono ?_; rintro e w2 ⟨⟨r, rfl⟩, F2, hA2, hG2⟩)
  clear hac hq1 hq2 hi1 hi2 hi3 hAd w1' w2' w3' w4' w5'
  obtain ⟨tag, ps, c, h, hF⟩ := id hA2
  obtain ⟨a, capS, hc0, hc1, hc2⟩ := SchAt.semsAt h
  have hlen : ps.length = S.sems.length := h.len
  have hsl := hW.sl
  have hc1' : w2.cell? ⟨sb, 11, none⟩ = some (.slice a S.sems.length capS) := hc1
  have HC := Lib.hid hc2
  have HC0 := Lib.hid hc0
  clear hc0 hc1 hc2
  have HLn := Lib.hid hlen
  clear hlen
  go_wp2
  go_loopw [6, 58] (fun _ i wr => ∃ k : Nat, k ≤ S.sems.length ∧ i = .int .i64 k ∧ ∃ tag' F', Sch wr sb tag' { ({ S with idle := S.idle.set (p.toNat - 1) true } : St).pull (S.prio p).toNat p with sems := erased S.sems k p } ps c ∧ (∀ b, F' b ↔ tag' b ≠ none) ∧ Goes F2 F' w2 wr) (fun _ i _ => S.sems.length - (intOf i).toNat)
  case atStart =>
    refine ⟨0, Nat.zero_le _, rfl, tag, F2, ?_, hF, Goes.refl _ _⟩
    rw [erased_zero]
    exact h
  case round =>
    obtain ⟨k, hk, rfl, tag', F', h', hF', hG'⟩ := hrel
    clear hc1'
    by_cases hlt : k < S.sems.length
    · obtain ⟨a', cap2, hx0, hx1, hx2⟩ := SchAt.semsAt h'
      have hle : (erased S.sems k p).length = S.sems.length := erased_len _ _ _ (by omega)
      dsimp only at hx0 hx2
      rw [hle] at hx0 hx2
      obtain ⟨g0, p0, hx3, hp0, hg0⟩ := hx2 (k + 1) (by omega) (by omega)
      have hkk : ((k : Int) + 1).toNat - 1 = k := by omega
      rw [hkk] at hp0 hg0
      have hv := HC0.out.symm.trans hx0
      simp only [Option.some.injEq, Value.slice.injEq, true_and, St.pull] at hv
      obtain ⟨hva, hvc⟩ := hv
      rw [← hva] at hx3
      obtain ⟨q, y1, y2, y3, y4⟩ := h'.sem k p0 hp0
      have es : ({ ({ S with idle := S.idle.set (p.toNat - 1) true } : St).pull (S.prio p).toNat p with sems := erased S.sems k p } : St).semAt k = S.semAt k := erased_at S.sems k p hlt
      rw [es] at y1 y2
      have hql := (hW.semAt k).1
      have hqp : q.ownBlock ≠ some p0 := fun e => by have := y4 p0 e; rw [y3] at this; cases this
      have Y1 := Lib.hid y1
      have HX3 := Lib.hid hx3
      have HP0 := Lib.hid hp0
      have HQ := Lib.hid hqp
      have hlt' : (k : Int) < (S.sems.length : Nat) := by omega
      clear y1 y3 y4 es hva hvc hx0 hx1 hx2 hle hkk hx3 hp0 hqp
      obtain rfl := HX3.out
      go_wp2_with fail
      refine (q_drop (o := 0) p Y1.out rfl y2 HQ.out (by omega)).mono ?_
      rintro e w3 ⟨⟨r', rfl⟩, v', z1, z2, z3, z4⟩
      obtain ⟨⟨tag'', hz1, hz2⟩, hz3⟩ := SchAt.sem_step (s := ((S.semAt k).1.erase p, (S.semAt k).2)) h' hF' HP0.out Y1.out z2 z1 z3 z4
      have HZ := Lib.hid hz1
      have HZ2 := Lib.hid hz2
      clear hz1 hz2 z1 z2 z3 z4 y2 hg0
      go_wp2
      go_roundw
      case rel =>
        refine ⟨k + 1, by omega, by go_num, tag'', fun b => tag'' b ≠ none, ?_, fun _ => Iff.rfl, hG'.trans ⟨hz3, fun b hb => (HZ2.out b hb).imp (hF' b).2 id⟩⟩
        have := HZ.out
        unfold St.setSem at this
        dsimp only at this
        rw [show (erased S.sems k p).set k ((S.semAt k).1.erase p, (S.semAt k).2) = erased S.sems (k + 1) p from erased_succ S.sems k p hlt] at this
        exact this
      case measure => simp [intOf]; omega
    · have hkk : k = S.sems.length := by omega
      have hge : ¬ ((k : Int) < (S.sems.length : Nat)) := by omega
      have HK := Lib.hid hkk
      clear hkk hlt
      go_wp2
      go_ret
      refine ⟨rfl, F', ⟨tag', ps, c, ?_, hF'⟩, ((HG.out.2.trans ⟨(Chg.refl _ _).drew, fun _ h => .inl h⟩).trans hG2).trans hG'⟩
      rw [HK.out, erased_all] at h'
      exact h'

theorem suspend_calls {w : World} {sb : Nat} {F : Nat → Prop} {S : St} {N : Nat} (hA : SchAt w sb F S) (hW : S.WF N) (hN : N < 100000) (p : Int) :
    Calls Tryz.prog 57 #[.pointer (some ⟨sb, 0, none⟩), .int .i64 p] w fun e w' => e = .returned (.int .i64 (S.suspend p).1) ∧ Makes w sb F (S.suspend p).2 w' := by
  unfold St.suspend
  by_cases hh : S.has p = true
  · rw [if_pos hh]
    by_cases hi : S.isIdle p = true
    · rw [if_pos hi]
      refine (suspend_idle hA hW p hh hi).mono fun e w' ⟨h1, h2⟩ => ?_
      subst h2
      exact ⟨h1, F, hA, Goes.refl _ _⟩
    · rw [if_neg hi]
      have hi' : S.isIdle p = false := by simpa using hi
      by_cases ha : S.active = p
      · simp only [ha, if_true]
        exact suspend_act hA hW hN p hh hi' ha
      · simp only [ha, if_false]
        exact suspend_other hA hW hN p hh hi' ha
  · rw [if_neg hh]
    refine (suspend_none hA hW p (by simpa using hh)).mono fun e w' ⟨h1, h2⟩ => ?_
    subst h2
    exact ⟨h1, F, hA, Goes.refl _ _⟩
end Go.Proofs.YtlfbommppenlcaaGreatDoor
