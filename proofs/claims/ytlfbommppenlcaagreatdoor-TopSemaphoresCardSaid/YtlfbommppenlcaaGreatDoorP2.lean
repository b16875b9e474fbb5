/- Two schedulers with two of four semaphores exchanged tell the same, step by step. No program here. Conditions: there are four semaphores. -/
import Derived.Test.YtlfbommppenlcaaGreatDoorP1
namespace Go.Proofs.YtlfbommppenlcaaGreatDoor
namespace Sma
open St
def other (p q n : Int) : Int := if n = p then q else if n = q then p else n
theorem other_bd {p q n : Int} (hp : 1 ≤ p ∧ p ≤ 4) (hq : 1 ≤ q ∧ q ≤ 4) (h : 1 ≤ n ∧ n ≤ 4) : 1 ≤ other p q n ∧ other p q n ≤ 4 := by
  unfold other; split
  · exact hq
  · split
    · exact hp
    · exact h
theorem other_out {p q n : Int} (hp : 1 ≤ p ∧ p ≤ 4) (hq : 1 ≤ q ∧ q ≤ 4) (h : ¬ (1 ≤ n ∧ n ≤ 4)) : other p q n = n := by
  unfold other; rw [if_neg (by omega), if_neg (by omega)]
theorem other_inj {p q n m : Int} (h : other p q n = other p q m) : n = m := by
  unfold other at h
  split at h <;> split at h <;> (try split at h) <;> (try split at h) <;> omega

abbrev Sems := List (List Int × Int)
def at_ (L : Sems) (k : Int) : List Int × Int := L.getD (k.toNat - 1) ([], 0)
structure SR (p q : Int) (L M : Sems) : Prop where
  hp : 1 ≤ p ∧ p ≤ 4
  hq : 1 ≤ q ∧ q ≤ 4
  l4 : L.length = 4
  m4 : M.length = 4
  same : ∀ k, 1 ≤ k → k ≤ 4 → at_ M (other p q k) = at_ L k
theorem SR.set {p q : Int} {L M : Sems} (h : SR p q L M) {k : Int} (h1 : 1 ≤ k) (h2 : k ≤ 4) (s : List Int × Int) : SR p q (L.set (k.toNat - 1) s) (M.set ((other p q k).toNat - 1) s) := by
  refine ⟨h.hp, h.hq, by simpa using h.l4, by simpa using h.m4, fun i i1 i2 => ?_⟩
  have ho := other_bd h.hp h.hq ⟨h1, h2⟩
  have hi := other_bd h.hp h.hq ⟨i1, i2⟩
  unfold at_
  have l4 := h.l4
  have m4 := h.m4
  by_cases e : i = k
  · subst e
    simp only [List.getD_eq_getElem?_getD]
    rw [List.getElem?_set_self (by omega), List.getElem?_set_self (by omega)]
  · have e2 : (other p q i).toNat - 1 ≠ (other p q k).toNat - 1 := fun x => e (other_inj (p := p) (q := q) (by omega))
    have e3 : i.toNat - 1 ≠ k.toNat - 1 := by omega
    simp only [List.getD_eq_getElem?_getD]
    rw [List.getElem?_set_ne (Ne.symm e2), List.getElem?_set_ne (Ne.symm e3)]
    have := h.same i i1 i2
    unfold at_ at this
    simpa only [List.getD_eq_getElem?_getD] using this
theorem SR.map {p q : Int} {L M : Sems} (h : SR p q L M) (x : Int) : SR p q (L.map fun s => (s.1.erase x, s.2)) (M.map fun s => (s.1.erase x, s.2)) := by
  refine ⟨h.hp, h.hq, by simpa using h.l4, by simpa using h.m4, fun i i1 i2 => ?_⟩
  have hi := other_bd h.hp h.hq ⟨i1, i2⟩
  have := h.same i i1 i2
  have l4 := h.l4
  have m4 := h.m4
  unfold at_ at this ⊢
  have a1 : (other p q i).toNat - 1 < M.length := by omega
  have a2 : i.toNat - 1 < L.length := by omega
  simp only [List.getD_eq_getElem?_getD, List.getElem?_map, List.getElem?_eq_getElem a1, List.getElem?_eq_getElem a2, Option.map_some, Option.getD_some] at this ⊢
  rw [this]

/-- The same scheduler with other semaphores. -/
def sw (S : St) (M : Sems) : St := { S with sems := M }
theorem sw_nextFrom : ∀ (i : Nat) (S : St) (M : Sems), (sw S M).nextFrom i = sw (S.nextFrom i) M ∧ (S.nextFrom i).sems = S.sems
  | 0, _, _ => ⟨rfl, rfl⟩
  | i + 1, S, M => by
    show (if S.active = 0 then _ else _) = sw (if S.active = 0 then _ else _) M ∧ (if S.active = 0 then _ else _ : St).sems = S.sems
    by_cases ha : S.active = 0
    · rw [if_pos ha, if_pos ha]
      exact sw_nextFrom i { S with active := (S.ready (i + 1)).headD 0, ready := upd S.ready (i + 1) (S.ready (i + 1)).tail } M
    · rw [if_neg ha, if_neg ha]; exact ⟨rfl, rfl⟩
theorem sw_next (S : St) (M : Sems) : (sw S M).next = sw S.next M ∧ S.next.sems = S.sems := sw_nextFrom 8 { S with active := 0 } M
theorem sw_make (S : St) (M : Sems) (p : Int) : (sw S M).make p = sw (S.make p) M ∧ (S.make p).sems = S.sems := by
  unfold St.make
  show (if S.active = 0 then _ else if S.prio p > S.prio S.active then _ else _) = sw (if S.active = 0 then _ else if S.prio p > S.prio S.active then _ else _) M ∧ (if S.active = 0 then _ else if S.prio p > S.prio S.active then _ else _ : St).sems = S.sems
  by_cases ha : S.active = 0
  · rw [if_pos ha, if_pos ha]; exact ⟨rfl, rfl⟩
  · rw [if_neg ha, if_neg ha]
    by_cases hb : S.prio p > S.prio S.active
    · rw [if_pos hb, if_pos hb]; exact ⟨rfl, rfl⟩
    · rw [if_neg hb, if_neg hb]; exact ⟨rfl, rfl⟩
theorem sw_makes : ∀ (l : List Int) (S : St) (M : Sems), l.foldl St.make (sw S M) = sw (l.foldl St.make S) M ∧ (l.foldl St.make S).sems = S.sems
  | [], _, _ => ⟨rfl, rfl⟩
  | p :: l, S, M => by
    simp only [List.foldl_cons]
    rw [(sw_make S M p).1]
    have := sw_makes l (S.make p) M
    exact ⟨this.1, this.2.trans (sw_make S M p).2⟩
theorem sw_fits (S : St) (M : Sems) : ∀ (l before : List Int), (sw S M).fits before l = S.fits before l
  | [], _ => rfl
  | p :: l, before => by simp only [St.fits]; rw [sw_fits S M l]; rfl

structure Rel (p q : Int) (S T : St) : Prop where
  sr : SR p q S.sems T.sems
  eq : T = sw S T.sems

theorem Rel.of {p q : Int} {S : St} {M : Sems} (h : SR p q S.sems M) : Rel p q S (sw S M) := ⟨h, rfl⟩
theorem Rel.out {p q : Int} {S T : St} (h : Rel p q S T) : ∃ M, SR p q S.sems M ∧ T = sw S M := ⟨T.sems, h.sr, h.eq⟩

/-- The deed as it is done to the other one. -/
def two (p q : Int) (d : Deed) : Deed := if d.kind = 5 ∨ d.kind = 6 then { d with b := other p q d.b } else d

theorem hasSem_other {p q : Int} {S : St} {M : Sems} (h : SR p q S.sems M) (k : Int) : (sw S M).hasSem (other p q k) = S.hasSem k := by
  have l4 := h.l4
  have m4 := h.m4
  unfold St.hasSem
  show (decide (1 ≤ other p q k) && decide (other p q k ≤ (M.length : Nat))) = _
  rw [l4, m4]
  by_cases hk : 1 ≤ k ∧ k ≤ 4
  · have := other_bd h.hp h.hq hk
    simp [hk.1, hk.2, this.1, this.2]
  · rw [other_out h.hp h.hq hk]
theorem hasSem_bd {S : St} (l4 : S.sems.length = 4) {k : Int} (h : S.hasSem k = true) : 1 ≤ k ∧ k ≤ 4 := by
  simp only [St.hasSem, Bool.and_eq_true, decide_eq_true_eq] at h
  omega

theorem signal_rel {p q : Int} {S : St} {M : Sems} (h : SR p q S.sems M) (k : Int) : ((sw S M).signal (other p q k)).1 = (S.signal k).1 ∧ Rel p q (S.signal k).2 ((sw S M).signal (other p q k)).2 := by
  unfold St.signal
  rw [hasSem_other h]
  by_cases hk : S.hasSem k = true
  · rw [if_pos hk, if_pos hk]
    obtain ⟨k1, k2⟩ := hasSem_bd h.l4 hk
    have hs : (sw S M).semAt ((other p q k).toNat - 1) = S.semAt (k.toNat - 1) := h.same k k1 k2
    rw [hs]
    cases e : S.semAt (k.toNat - 1) with
    | mk l n =>
      cases l with
      | nil => exact ⟨rfl, Rel.of (S := S.setSem (k.toNat - 1) ([], min (n + 1) 2147483647)) (h.set k1 k2 _)⟩
      | cons x l =>
        refine ⟨rfl, ?_⟩
        have hm := sw_make (S.setSem (k.toNat - 1) (l, n)) (M.set ((other p q k).toNat - 1) (l, n)) x
        show Rel p q ((S.setSem (k.toNat - 1) (l, n)).make x) ((sw (S.setSem (k.toNat - 1) (l, n)) (M.set ((other p q k).toNat - 1) (l, n))).make x)
        rw [hm.1]
        exact Rel.of (by rw [hm.2]; exact h.set k1 k2 _)
  · rw [if_neg hk, if_neg hk]; exact ⟨rfl, Rel.of h⟩

theorem wait_rel {p q : Int} {S : St} {M : Sems} (h : SR p q S.sems M) (k : Int) : ((sw S M).wait (other p q k)).1 = (S.wait k).1 ∧ Rel p q (S.wait k).2 ((sw S M).wait (other p q k)).2 := by
  unfold St.wait
  rw [hasSem_other h]
  by_cases hk : S.hasSem k = true
  · rw [if_pos hk, if_pos hk]
    obtain ⟨k1, k2⟩ := hasSem_bd h.l4 hk
    have hs : (sw S M).semAt ((other p q k).toNat - 1) = S.semAt (k.toNat - 1) := h.same k k1 k2
    rw [hs]
    show (if S.active = 0 then _ else _ : Int × St).1 = (if S.active = 0 then _ else _ : Int × St).1 ∧ Rel p q (if S.active = 0 then _ else _ : Int × St).2 (if S.active = 0 then _ else _ : Int × St).2
    by_cases ha : S.active = 0
    · rw [if_pos ha, if_pos ha]; exact ⟨rfl, Rel.of h⟩
    · rw [if_neg ha, if_neg ha]
      by_cases hn : (S.semAt (k.toNat - 1)).2 > 0
      · rw [if_pos hn, if_pos hn]
        exact ⟨rfl, Rel.of (S := S.setSem (k.toNat - 1) _) (h.set k1 k2 _)⟩
      · rw [if_neg hn, if_neg hn]
        refine ⟨rfl, ?_⟩
        have hm := sw_next (S.setSem (k.toNat - 1) ((S.semAt (k.toNat - 1)).1 ++ [S.active], (S.semAt (k.toNat - 1)).2)) (M.set ((other p q k).toNat - 1) ((S.semAt (k.toNat - 1)).1 ++ [S.active], (S.semAt (k.toNat - 1)).2))
        show Rel p q (S.setSem (k.toNat - 1) ((S.semAt (k.toNat - 1)).1 ++ [S.active], (S.semAt (k.toNat - 1)).2)).next (sw (S.setSem (k.toNat - 1) ((S.semAt (k.toNat - 1)).1 ++ [S.active], (S.semAt (k.toNat - 1)).2)) (M.set ((other p q k).toNat - 1) ((S.semAt (k.toNat - 1)).1 ++ [S.active], (S.semAt (k.toNat - 1)).2))).next
        rw [hm.1]
        exact Rel.of (by rw [hm.2]; exact h.set k1 k2 _)
  · rw [if_neg hk, if_neg hk]; exact ⟨rfl, Rel.of h⟩

theorem suspend_rel {p q : Int} {S : St} {M : Sems} (h : SR p q S.sems M) (x : Int) : ((sw S M).suspend x).1 = (S.suspend x).1 ∧ Rel p q (S.suspend x).2 ((sw S M).suspend x).2 := by
  unfold St.suspend
  show (if S.has x = true then (if S.isIdle x = true then _ else _) else _ : Int × St).1 = (if S.has x = true then (if S.isIdle x = true then _ else _) else _ : Int × St).1 ∧ Rel p q (if S.has x = true then (if S.isIdle x = true then _ else _) else _ : Int × St).2 (if S.has x = true then (if S.isIdle x = true then _ else _) else _ : Int × St).2
  by_cases hh : S.has x = true
  · rw [if_pos hh, if_pos hh]
    by_cases hi : S.isIdle x = true
    · rw [if_pos hi, if_pos hi]; exact ⟨rfl, Rel.of h⟩
    · rw [if_neg hi, if_neg hi]
      dsimp only
      show (if S.active = x then _ else _ : Int × St).1 = (if S.active = x then _ else _ : Int × St).1 ∧ Rel p q (if S.active = x then _ else _ : Int × St).2 (if S.active = x then _ else _ : Int × St).2
      by_cases ha : S.active = x
      · rw [if_pos ha, if_pos ha]
        refine ⟨rfl, ?_⟩
        have hm := sw_next { S with idle := S.idle.set (x.toNat - 1) true } M
        show Rel p q ({ S with idle := S.idle.set (x.toNat - 1) true } : St).next (sw { S with idle := S.idle.set (x.toNat - 1) true } M).next
        rw [hm.1]
        exact Rel.of (by rw [hm.2]; exact h)
      · rw [if_neg ha, if_neg ha]
        exact ⟨rfl, Rel.of (S := { ({ S with idle := S.idle.set (x.toNat - 1) true } : St).pull (S.prio x).toNat x with sems := S.sems.map fun s => (s.1.erase x, s.2) }) (h.map x)⟩
  · rw [if_neg hh, if_neg hh]; exact ⟨rfl, Rel.of h⟩

theorem yield_rel {p q : Int} {S : St} {M : Sems} (h : SR p q S.sems M) : (sw S M).yield.1 = S.yield.1 ∧ Rel p q S.yield.2 (sw S M).yield.2 := by
  unfold St.yield
  show (if S.active = 0 then _ else if S.ready (S.prio S.active).toNat = [] then _ else _ : Int × St).1 = (if S.active = 0 then _ else if S.ready (S.prio S.active).toNat = [] then _ else _ : Int × St).1 ∧ Rel p q (if S.active = 0 then _ else if S.ready (S.prio S.active).toNat = [] then _ else _ : Int × St).2 (if S.active = 0 then _ else if S.ready (S.prio S.active).toNat = [] then _ else _ : Int × St).2
  by_cases ha : S.active = 0
  · rw [if_pos ha, if_pos ha]; exact ⟨rfl, Rel.of h⟩
  · rw [if_neg ha, if_neg ha]
    by_cases hb : S.ready (S.prio S.active).toNat = []
    · rw [if_pos hb, if_pos hb]; exact ⟨rfl, Rel.of h⟩
    · rw [if_neg hb, if_neg hb]
      refine ⟨rfl, ?_⟩
      have hm := sw_next (S.push (S.prio S.active).toNat S.active) M
      show Rel p q (S.push (S.prio S.active).toNat S.active).next (sw (S.push (S.prio S.active).toNat S.active) M).next
      rw [hm.1]
      exact Rel.of (by rw [hm.2]; exact h)

theorem resume_rel {p q : Int} {S : St} {M : Sems} (h : SR p q S.sems M) (l : List Int) : ((sw S M).resume l).1 = (S.resume l).1 ∧ Rel p q (S.resume l).2 ((sw S M).resume l).2 := by
  unfold St.resume
  rw [sw_fits]
  show (if l.all S.has = true then _ else _ : Int × St).1 = (if l.all S.has = true then _ else _ : Int × St).1 ∧ Rel p q (if l.all S.has = true then _ else _ : Int × St).2 (if l.all S.has = true then _ else _ : Int × St).2
  by_cases hh : l.all S.has = true
  · rw [if_pos hh, if_pos hh]
    by_cases hf : S.fits [] l = true
    · rw [if_pos hf, if_pos hf]
      refine ⟨rfl, ?_⟩
      have hm := sw_makes l S M
      show Rel p q (l.foldl St.make S) (l.foldl St.make (sw S M))
      rw [hm.1]
      exact Rel.of (by rw [hm.2]; exact h)
    · rw [if_neg hf, if_neg hf]; exact ⟨rfl, Rel.of h⟩
  · rw [if_neg hh, if_neg hh]; exact ⟨rfl, Rel.of h⟩

theorem spawn_rel {p q : Int} {S : St} {M : Sems} (h : SR p q S.sems M) (x : Int) : ((sw S M).spawn x).1 = (S.spawn x).1 ∧ Rel p q (S.spawn x).2 ((sw S M).spawn x).2 := by
  unfold St.spawn
  show (if x < 1 ∨ x > 8 then _ else if S.prior.length = 100 then _ else _ : (Int × Int) × St).1 = (if x < 1 ∨ x > 8 then _ else if S.prior.length = 100 then _ else _ : (Int × Int) × St).1 ∧ Rel p q (if x < 1 ∨ x > 8 then _ else if S.prior.length = 100 then _ else _ : (Int × Int) × St).2 (if x < 1 ∨ x > 8 then _ else if S.prior.length = 100 then _ else _ : (Int × Int) × St).2
  by_cases h1 : x < 1 ∨ x > 8
  · rw [if_pos h1, if_pos h1]; exact ⟨rfl, Rel.of h⟩
  · rw [if_neg h1, if_neg h1]
    by_cases h2 : S.prior.length = 100
    · rw [if_pos h2, if_pos h2]; exact ⟨rfl, Rel.of h⟩
    · rw [if_neg h2, if_neg h2]
      exact ⟨rfl, Rel.of (S := { S with prior := S.prior ++ [x], idle := S.idle ++ [true] }) h⟩

theorem Rel.done {p q : Int} {S T : St} (h : Rel p q S T) (d : Deed) (hd : d.kind ≤ 6) (hd0 : 0 ≤ d.kind) : (T.done (two p q d)).1 = (S.done d).1 ∧ Rel p q (S.done d).2 (T.done (two p q d)).2 := by
  obtain ⟨M, hM, rfl⟩ := h.out
  obtain ⟨k, a, b⟩ := d
  dsimp only at hd hd0
  have hk : k = 0 ∨ k = 1 ∨ k = 2 ∨ k = 3 ∨ k = 4 ∨ k = 5 ∨ k = 6 := by omega
  rcases hk with rfl | rfl | rfl | rfl | rfl | rfl | rfl
  · exact spawn_rel hM a
  · have := resume_rel hM [a]
    exact ⟨congrArg (Prod.mk 0) this.1, this.2⟩
  · have := resume_rel hM [a, b]
    exact ⟨congrArg (Prod.mk 0) this.1, this.2⟩
  · have := suspend_rel hM a
    exact ⟨congrArg (Prod.mk 0) this.1, this.2⟩
  · have := yield_rel hM
    exact ⟨congrArg (Prod.mk 0) this.1, this.2⟩
  · have := signal_rel hM b
    exact ⟨congrArg (Prod.mk 0) this.1, this.2⟩
  · have := wait_rel hM b
    exact ⟨congrArg (Prod.mk 0) this.1, this.2⟩
theorem Rel.readyOf {p q : Int} {S T : St} (h : Rel p q S T) (r : Int) : T.readyOf r = S.readyOf r := by rw [h.eq]; rfl
theorem Rel.active {p q : Int} {S T : St} (h : Rel p q S T) : T.active = S.active := by rw [h.eq]; rfl
theorem Rel.waiting {p q : Int} {S T : St} (h : Rel p q S T) (k : Int) : T.waiting (other p q k) = S.waiting k := by
  obtain ⟨M, hM, rfl⟩ := h.out
  unfold St.waiting
  rw [hasSem_other hM]
  by_cases hk : S.hasSem k = true
  · obtain ⟨k1, k2⟩ := hasSem_bd hM.l4 hk
    rw [if_pos hk, if_pos hk]
    exact hM.same k k1 k2
  · rw [if_neg hk, if_neg hk]
/-- Four new semaphores each. -/
def four : St := { St.new with sems := [([], 0), ([], 0), ([], 0), ([], 0)] }
theorem Rel.four {p q : Int} (hp : 1 ≤ p ∧ p ≤ 4) (hq : 1 ≤ q ∧ q ≤ 4) : Rel p q four four := by
  refine ⟨⟨hp, hq, rfl, rfl, fun k k1 k2 => ?_⟩, rfl⟩
  have ho := other_bd hp hq ⟨k1, k2⟩
  have h4 : ∀ i : Int, 1 ≤ i → i ≤ 4 → at_ Sma.four.sems i = ([], 0) := by
    intro i i1 i2
    have : i = 1 ∨ i = 2 ∨ i = 3 ∨ i = 4 := by omega
    rcases this with rfl | rfl | rfl | rfl <;> rfl
  rw [h4 _ ho.1 ho.2, h4 _ k1 k2]
end Sma
end Go.Proofs.YtlfbommppenlcaaGreatDoor
