/- The scheduler's calls Waiting, Signal, Wait and Yield. Conditions: a scheduler lies there; its queues are short. -/
import Derived.Test.YtlfbommppenlcaaGreatDoorS8
namespace Go.Proofs.YtlfbommppenlcaaGreatDoor
open Go.RowKit Go.Mem

set_option maxRecDepth 100000 in
set_option maxHeartbeats 1000000 in
theorem waiting_calls {w : World} {sb : Nat} {F : Nat → Prop} {S : St} {N : Nat} (hA : SchAt w sb F S) (hW : S.WF N) (hN : N < 100000) (k : Int) :
    Calls Tryz.prog 25 #[.pointer (some ⟨sb, 0, none⟩), .int .i64 k] w fun e w' => ∃ v, e = .returned (.tuple #[v, .int .i64 (S.waiting k).2]) ∧ Fresh w (S.waiting k).1 v w' := by
  obtain ⟨tag, ps, c, h, hF⟩ := id hA
  unfold St.waiting
  by_cases hk : S.hasSem k = true
  · rw [if_pos hk]
    have hs := hW.semAt (k.toNat - 1)
    have HK := Lib.hid hk
    clear hk
    obtain ⟨s, es⟩ : ∃ s, S.semAt (k.toNat - 1) = s := ⟨_, rfl⟩
    rw [es] at hs ⊢
    have ES := Lib.hid es
    clear es
    go_enter Tryz.func25, Tryz.ntmps25
    go_wp2_with fail
    refine (at_yes h hW.sl k HK.out).mono ?_
    rintro e w' ⟨⟨p, rfl, hp⟩, rfl⟩
    obtain ⟨q, h1, h2, h3, h4⟩ := h.sem _ _ hp
    rw [ES.out] at h1 h2
    have HP := Lib.hid hp
    have hc1 : w.cell? ⟨p, 1, none⟩ = some (.int .i64 s.2) := cell_of_block h1 rfl
    have hlt := lt_of_block h1
    have h1d : w.drew.heap[p]? = some (.cells #[q, .int .i64 s.2] 130 (0, 0)) := h1
    have h2d : Sl w.drew 3 q (ints s.1) := h2.kept fun _ _ => rfl
    have H1 := Lib.hid h1d
    clear hp h3 h4 h1 h1d
    go_wp2_with fail
    go_region_with (go_at_call 65; refine (q_list (o := 0) H1.out rfl h2d ?_).mono ?_; (omega); rintro e w1 ⟨v, rfl, g1, g2, g3⟩; have hc2 := (g2.cell (p := ⟨p, 1, none⟩) hlt).trans hc1; have G3 := Lib.hid g3; clear g3)
    all_goals go_wp2
    all_goals go_ret2
    all_goals exact ⟨_, rfl, g1, ⟨g2.os, g2.tape, g2.output, g2.size, g2.block⟩, G3.out⟩
  · have hk' : S.hasSem k = false := by simpa using hk
    rw [if_neg hk]
    go_enter Tryz.func25, Tryz.ntmps25
    go_wp2_with fail
    refine (at_no h hW.sl k hk').mono ?_
    rintro e w' ⟨rfl, rfl⟩
    go_wp2
    go_ret2
    exact ⟨_, rfl, Sl.nil _ _, Below.refl _ _, fun g hg => by simp [Value.ownBlock] at hg⟩

theorem signal_no {w : World} {sb : Nat} {F : Nat → Prop} {S : St} {N : Nat} (hA : SchAt w sb F S) (hW : S.WF N) (k : Int) (hk : S.hasSem k = false) :
    Calls Tryz.prog 59 #[.pointer (some ⟨sb, 0, none⟩), .int .i64 k] w fun e w' => e = .returned (.int .i64 4) ∧ w = w' := by
  obtain ⟨tag, ps, c, h, hF⟩ := id hA
  go_enter Tryz.func59, Tryz.ntmps59
  go_wp2_with fail
  refine (at_no h hW.sl k hk).mono ?_
  rintro e w' ⟨rfl, rfl⟩
  go_wp2
  go_ret
  exact ⟨rfl, rfl⟩

set_option maxHeartbeats 1000000 in
theorem signal_one {w : World} {sb : Nat} {F : Nat → Prop} {S : St} {N : Nat} (hA : SchAt w sb F S) (hW : S.WF N) (hN : N < 100000) (k : Int) (hk : S.hasSem k = true) (p0 : Int) (l : List Int) (n : Int) (es : S.semAt (k.toNat - 1) = (p0 :: l, n)) :
    Calls Tryz.prog 59 #[.pointer (some ⟨sb, 0, none⟩), .int .i64 k] w fun e w' => e = .returned (.int .i64 0) ∧ Makes w sb F ((S.setSem (k.toNat - 1) (l, n)).make p0) w' := by
  obtain ⟨tag, ps, c, h, hF⟩ := id hA
  have hs := hW.semAt (k.toNat - 1)
  rw [es] at hs
  obtain ⟨s1, s2, s3, s4⟩ := hs
  have p1 := (s2 p0 (by simp)).1
  have p2 := (s2 p0 (by simp)).2
  have hl : l.length < N := by simp at s1; omega
  have hd : (p0 != 0) = true := by simp; omega
  have hW1 : (S.setSem (k.toNat - 1) (l, n)).WF N := hW.setSem (s := (l, n)) ⟨by dsimp only; omega, fun q hq => s2 q (by simp [show q ∈ l from hq]), s3, s4⟩
  have HK := Lib.hid hk
  have ES := Lib.hid es
  have HW := Lib.hid hW1
  clear hk es s2 hW1
  go_enter Tryz.func59, Tryz.ntmps59
  go_wp2_with fail
  refine (at_yes h hW.sl k HK.out).mono ?_
  rintro e w' ⟨⟨p, rfl, hp⟩, rfl⟩
  obtain ⟨q, h1, h2, h3, h4⟩ := h.sem _ _ hp
  rw [ES.out] at h1 h2
  have HP := Lib.hid hp
  have hqp : q.ownBlock ≠ some p := fun e => by have := h4 p e; rw [h3] at this; cases this
  have H1 := Lib.hid h1
  have H4 := Lib.hid hqp
  clear hp h3 h4 h1 hqp
  go_wp2_with fail
  refine (q_first_some (o := 0) H1.out rfl h2 H4.out (by omega)).mono ?_
  rintro e w1 ⟨rfl, v', g1, g2, g3, g4⟩
  obtain ⟨F1, hA1, hG1⟩ := Makes.of_sch hF (SchAt.sem_step (s := (l, n)) h hF HP.out H1.out g2 g1 g3 g4)
  have G4 := Lib.hid g4
  clear g1 g2 g3 g4 h2
  go_wp2_with fail
  refine (make_calls hA1 HW.out hN p0 p1 p2).mono ?_
  rintro e w2 ⟨rfl, hM⟩
  go_wp2
  go_ret
  exact ⟨rfl, hM.trans' hG1⟩

set_option maxHeartbeats 1000000 in
theorem signal_none {w : World} {sb : Nat} {F : Nat → Prop} {S : St} {N : Nat} (hA : SchAt w sb F S) (hW : S.WF N) (k : Int) (hk : S.hasSem k = true) (n : Int) (es : S.semAt (k.toNat - 1) = ([], n)) :
    Calls Tryz.prog 59 #[.pointer (some ⟨sb, 0, none⟩), .int .i64 k] w fun e w' => e = .returned (.int .i64 0) ∧ Makes w sb F (S.setSem (k.toNat - 1) ([], min (n + 1) 2147483647)) w' := by
  obtain ⟨tag, ps, c, h, hF⟩ := id hA
  have hs := hW.semAt (k.toNat - 1)
  rw [es] at hs
  obtain ⟨s1, s2, s3, s4⟩ := hs
  dsimp only at s3 s4
  have HK := Lib.hid hk
  have ES := Lib.hid es
  clear hk es s1 s2
  go_enter Tryz.func59, Tryz.ntmps59
  go_wp2_with fail
  refine (at_yes h hW.sl k HK.out).mono ?_
  rintro e w' ⟨⟨p, rfl, hp⟩, rfl⟩
  obtain ⟨q, h1, h2, h3, h4⟩ := h.sem _ _ hp
  rw [ES.out] at h1 h2
  have HP := Lib.hid hp
  have hqp : q.ownBlock ≠ some p := fun e => by have := h4 p e; rw [h3] at this; cases this
  have hc1 : w.cell? ⟨p, 1, none⟩ = some (.int .i64 n) := cell_of_block h1 rfl
  have hf1 := free_of_block h1 1
  have H1 := Lib.hid h1
  have H4 := Lib.hid hqp
  clear hp h3 h4 h1 hqp
  go_wp2_with fail
  refine (q_first_none (o := 0) H1.out rfl h2).mono ?_
  rintro e w' ⟨rfl, rfl⟩
  go_wp2
  all_goals go_ret
  all_goals refine ⟨rfl, Makes.of_sch hF (SchAt.sem_step (s := ([], min (n + 1) 2147483647)) h hF HP.out H1.out ?_ (h2.kept fun g hg => heap_setCell_ne fun e => H4.out (by rw [hg, e])) ((Chg.refl _ _).setCell (fun _ => .inl rfl) _) (.inl rfl))⟩
  all_goals rw [heap_setCell_at H1.out]; rfl

theorem signal_calls {w : World} {sb : Nat} {F : Nat → Prop} {S : St} {N : Nat} (hA : SchAt w sb F S) (hW : S.WF N) (hN : N < 100000) (k : Int) :
    Calls Tryz.prog 59 #[.pointer (some ⟨sb, 0, none⟩), .int .i64 k] w fun e w' => e = .returned (.int .i64 (S.signal k).1) ∧ Makes w sb F (S.signal k).2 w' := by
  unfold St.signal
  by_cases hk : S.hasSem k = true
  · rw [if_pos hk]
    cases e : S.semAt (k.toNat - 1) with
    | mk l n =>
      cases l with
      | nil => exact signal_none hA hW k hk n e
      | cons p l => exact signal_one hA hW hN k hk p l n e
  · rw [if_neg hk]
    refine (signal_no hA hW k (by simpa using hk)).mono fun e w' ⟨h1, h2⟩ => ?_
    subst h2
    exact ⟨h1, F, hA, Goes.refl _ _⟩

theorem wait_none {w : World} {sb : Nat} {F : Nat → Prop} {S : St} {N : Nat} (hA : SchAt w sb F S) (hW : S.WF N) (k : Int) (hk : S.hasSem k = false) :
    Calls Tryz.prog 60 #[.pointer (some ⟨sb, 0, none⟩), .int .i64 k] w fun e w' => e = .returned (.int .i64 4) ∧ w = w' := by
  obtain ⟨tag, ps, c, h, hF⟩ := id hA
  go_enter Tryz.func60, Tryz.ntmps60
  go_wp2_with fail
  refine (at_no h hW.sl k hk).mono ?_
  rintro e w' ⟨rfl, rfl⟩
  go_wp2
  go_ret
  exact ⟨rfl, rfl⟩

theorem wait_idle {w : World} {sb : Nat} {F : Nat → Prop} {S : St} {N : Nat} (hA : SchAt w sb F S) (hW : S.WF N) (k : Int) (hk : S.hasSem k = true) (ha : S.active = 0) :
    Calls Tryz.prog 60 #[.pointer (some ⟨sb, 0, none⟩), .int .i64 k] w fun e w' => e = .returned (.int .i64 2) ∧ w = w' := by
  obtain ⟨tag, ps, c, h, hF⟩ := id hA
  have hac := hA.actCell.1
  rw [ha] at hac
  have HK := Lib.hid hk
  clear hk ha
  go_enter Tryz.func60, Tryz.ntmps60
  go_wp2_with fail
  refine (at_yes h hW.sl k HK.out).mono ?_
  rintro e w' ⟨⟨p, rfl, hp⟩, rfl⟩
  clear hp
  go_wp2
  go_ret
  exact ⟨rfl, rfl⟩

set_option maxHeartbeats 1000000 in
theorem wait_take {w : World} {sb : Nat} {F : Nat → Prop} {S : St} {N : Nat} (hA : SchAt w sb F S) (hW : S.WF N) (k : Int) (hk : S.hasSem k = true) (ha : S.active ≠ 0) (l : List Int) (n : Int) (es : S.semAt (k.toNat - 1) = (l, n)) (hn : n > 0) :
    Calls Tryz.prog 60 #[.pointer (some ⟨sb, 0, none⟩), .int .i64 k] w fun e w' => e = .returned (.int .i64 0) ∧ Makes w sb F (S.setSem (k.toNat - 1) (l, n - 1)) w' := by
  obtain ⟨tag, ps, c, h, hF⟩ := id hA
  have hac := hA.actCell.1
  have hs := hW.semAt (k.toNat - 1)
  rw [es] at hs
  obtain ⟨s1, s2, s3, s4⟩ := hs
  dsimp only at s3 s4
  have hd : (S.active == 0) = false := by simpa using ha
  have HK := Lib.hid hk
  have ES := Lib.hid es
  clear hk es s1 s2 ha
  go_enter Tryz.func60, Tryz.ntmps60
  go_wp2_with fail
  refine (at_yes h hW.sl k HK.out).mono ?_
  rintro e w' ⟨⟨p, rfl, hp⟩, rfl⟩
  obtain ⟨q, h1, h2, h3, h4⟩ := h.sem _ _ hp
  rw [ES.out] at h1 h2
  have HP := Lib.hid hp
  have hqp : q.ownBlock ≠ some p := fun e => by have := h4 p e; rw [h3] at this; cases this
  have hc1 : w.cell? ⟨p, 1, none⟩ = some (.int .i64 n) := cell_of_block h1 rfl
  have hf1 := free_of_block h1 1
  have H1 := Lib.hid h1
  have H4 := Lib.hid hqp
  clear hp h3 h4 h1 hqp
  go_wp2
  all_goals go_ret
  all_goals refine ⟨rfl, Makes.of_sch hF (SchAt.sem_step (s := (l, n - 1)) h hF HP.out H1.out ?_ (h2.kept fun g hg => heap_setCell_ne fun e => H4.out (by rw [hg, e])) ((Chg.refl _ _).setCell (fun _ => .inl rfl) _) (.inl rfl))⟩
  all_goals rw [heap_setCell_at H1.out]; rfl

set_option maxRecDepth 100000 in
set_option maxHeartbeats 1000000 in
theorem wait_stay {w : World} {sb : Nat} {F : Nat → Prop} {S : St} {N : Nat} (hA : SchAt w sb F S) (hW : S.WF N) (hN : N < 100000) (k : Int) (hk : S.hasSem k = true) (ha : S.active ≠ 0) (l : List Int) (n : Int) (es : S.semAt (k.toNat - 1) = (l, n)) (hn : ¬ n > 0) :
    Calls Tryz.prog 60 #[.pointer (some ⟨sb, 0, none⟩), .int .i64 k] w fun e w' => e = .returned (.int .i64 0) ∧ Makes w sb F (S.setSem (k.toNat - 1) (l ++ [S.active], n)).next w' := by
  obtain ⟨tag, ps, c, h, hF⟩ := id hA
  have hac := hA.actCell.1
  have hs := hW.semAt (k.toNat - 1)
  rw [es] at hs
  obtain ⟨s1, s2, s3, s4⟩ := hs
  dsimp only at s1 s2 s3 s4
  have hac2 := hW.ac
  have hW1 : (S.setSem (k.toNat - 1) (l ++ [S.active], n)).WF (N + 1) := (hW.mono (Nat.le_succ N)).setSem (s := (l ++ [S.active], n)) ⟨by simp; omega, fun q hq => by
    rcases List.mem_append.1 hq with hq | hq
    · exact s2 q hq
    · simp at hq; subst hq; omega, s3, s4⟩
  have hd : (S.active == 0) = false := by simpa using ha
  have HK := Lib.hid hk
  have ES := Lib.hid es
  have HW := Lib.hid hW1
  clear hk es s2 ha hW1 hac2
  go_enter Tryz.func60, Tryz.ntmps60
  go_wp2_with fail
  refine (at_yes h hW.sl k HK.out).mono ?_
  rintro e w' ⟨⟨p, rfl, hp⟩, rfl⟩
  obtain ⟨q, h1, h2, h3, h4⟩ := h.sem _ _ hp
  rw [ES.out] at h1 h2
  have HP := Lib.hid hp
  have hqp : q.ownBlock ≠ some p := fun e => by have := h4 p e; rw [h3] at this; cases this
  have hc1 : w.cell? ⟨p, 1, none⟩ = some (.int .i64 n) := cell_of_block h1 rfl
  have h1d : w.drew.heap[p]? = some (.cells #[q, .int .i64 n] 130 (0, 0)) := h1
  have h2d : Sl w.drew 3 q (ints l) := h2.kept fun _ _ => rfl
  have H1 := Lib.hid h1
  have H1d := Lib.hid h1d
  have H4 := Lib.hid hqp
  clear hp h3 h4 h1 hqp h1d
  go_wp2_with fail
  go_region_with (go_at_call 93; refine (q_add (o := 0) S.active H1d.out rfl h2d H4.out ?_).mono ?_; (omega); rintro e w1 ⟨rfl, v', g1, g2, g3, g4⟩; have HG := Lib.hid (And.intro g1 (And.intro g2 (And.intro g3 g4))); clear g1 g2 g3 g4)
  obtain ⟨g1, g2, g3, g4⟩ := HG.out
  obtain ⟨F1, hA1, hG1⟩ := Makes.of_sch hF (SchAt.sem_step (s := (l ++ [S.active], n)) h hF HP.out H1.out g2 g1 (Chg.trans (F := fun b => b = p ∨ some b = q.ownBlock) ((Chg.refl _ _).drew) g3 (fun _ _ h => h)) g4)
  clear g1 g2 g3 g4 HG h2 h2d hc1 hac
  go_wp2_with fail
  refine (next_calls hA1 HW.out (by omega)).mono ?_
  rintro e w2 ⟨rfl, hM⟩
  go_wp2
  go_ret
  exact ⟨rfl, hM.trans' hG1⟩

theorem wait_calls {w : World} {sb : Nat} {F : Nat → Prop} {S : St} {N : Nat} (hA : SchAt w sb F S) (hW : S.WF N) (hN : N < 100000) (k : Int) :
    Calls Tryz.prog 60 #[.pointer (some ⟨sb, 0, none⟩), .int .i64 k] w fun e w' => e = .returned (.int .i64 (S.wait k).1) ∧ Makes w sb F (S.wait k).2 w' := by
  unfold St.wait
  by_cases hk : S.hasSem k = true
  · rw [if_pos hk]
    by_cases ha : S.active = 0
    · rw [if_pos ha]
      refine (wait_idle hA hW k hk ha).mono fun e w' ⟨h1, h2⟩ => ?_
      subst h2
      exact ⟨h1, F, hA, Goes.refl _ _⟩
    · rw [if_neg ha]
      obtain ⟨l, n, e⟩ : ∃ l n, S.semAt (k.toNat - 1) = (l, n) := ⟨_, _, rfl⟩
      rw [e]
      by_cases hn : n > 0
      · rw [if_pos hn]; exact wait_take hA hW k hk ha l n e hn
      · rw [if_neg hn]; exact wait_stay hA hW hN k hk ha l n e hn
  · rw [if_neg hk]
    refine (wait_none hA hW k (by simpa using hk)).mono fun e w' ⟨h1, h2⟩ => ?_
    subst h2
    exact ⟨h1, F, hA, Goes.refl _ _⟩
end Go.Proofs.YtlfbommppenlcaaGreatDoor
