/- The scheduler's steps as plain functions on plain data, and what stays true of it. No program here. Conditions: none. -/
import Derived.Test.YtlfbommppenlcaaGreatDoorA0
namespace Go.Proofs.YtlfbommppenlcaaGreatDoor

structure St where
  prior : List Int
  idle : List Bool
  ready : Nat → List Int
  sems : List (List Int × Int)
  active : Int

def upd (f : Nat → List Int) (i : Nat) (l : List Int) : Nat → List Int := fun j => if j = i then l else f j
@[simp] theorem upd_same (f : Nat → List Int) (i : Nat) (l : List Int) : upd f i l i = l := by simp [upd]
theorem upd_ne (f : Nat → List Int) {i j : Nat} (l : List Int) (h : j ≠ i) : upd f i l j = f j := by simp [upd, h]

namespace St
def new : St := ⟨[], [], fun _ => [], [], 0⟩
def nextFrom : Nat → St → St
  | 0, S => S
  | i + 1, S => if S.active = 0 then nextFrom i { S with active := (S.ready (i + 1)).headD 0, ready := upd S.ready (i + 1) (S.ready (i + 1)).tail } else S
def next (S : St) : St := nextFrom 8 { S with active := 0 }
def prio (S : St) (p : Int) : Int := S.prior.getD (p.toNat - 1) 0
def push (S : St) (i : Nat) (p : Int) : St := { S with ready := upd S.ready i (S.ready i ++ [p]) }
def pull (S : St) (i : Nat) (p : Int) : St := { S with ready := upd S.ready i ((S.ready i).erase p) }
def make (S : St) (p : Int) : St :=
  let S1 := ({ S with idle := S.idle.set (p.toNat - 1) false } : St).push (S.prio p).toNat p
  if S.active = 0 then { S1.pull (S.prio p).toNat p with active := p }
  else if S.prio p > S.prio S.active then { (S1.push (S.prio S.active).toNat S.active).pull (S.prio p).toNat p with active := p }
  else S1
def has (S : St) (p : Int) : Bool := decide (1 ≤ p) && decide (p ≤ S.prior.length)
def isIdle (S : St) (p : Int) : Bool := S.idle.getD (p.toNat - 1) false
def spawn (S : St) (p : Int) : (Int × Int) × St :=
  if p < 1 ∨ p > 8 then ((0, 2), S) else if S.prior.length = 100 then ((0, 3), S)
  else ((S.prior.length + 1, 0), { S with prior := S.prior ++ [p], idle := S.idle ++ [true] })
def sem (S : St) : (Int × Int) × St :=
  if S.sems.length = 100 then ((0, 3), S) else ((S.sems.length + 1, 0), { S with sems := S.sems ++ [([], 0)] })
/-- Is every one of a list idle, and named once? -/
def fits (S : St) : List Int → List Int → Bool
  | _, [] => true
  | before, p :: l => S.isIdle p && !(before.contains p) && S.fits (before ++ [p]) l
def resume (S : St) (l : List Int) : Int × St :=
  if l.all S.has then (if S.fits [] l then (0, l.foldl make S) else (2, S)) else (4, S)
def suspend (S : St) (p : Int) : Int × St :=
  if S.has p then
    if S.isIdle p then (2, S)
    else
      let S1 : St := { S with idle := S.idle.set (p.toNat - 1) true }
      if S.active = p then (0, S1.next)
      else
        let S2 := S1.pull (S.prio p).toNat p
        (0, { S2 with sems := S.sems.map fun s => (s.1.erase p, s.2) })
  else (4, S)
def yield (S : St) : Int × St :=
  if S.active = 0 then (4, S)
  else if S.ready (S.prio S.active).toNat = [] then (0, S)
  else (0, (S.push (S.prio S.active).toNat S.active).next)
def hasSem (S : St) (k : Int) : Bool := decide (1 ≤ k) && decide (k ≤ S.sems.length)
def semAt (S : St) (k : Nat) : List Int × Int := S.sems.getD k ([], 0)
def setSem (S : St) (k : Nat) (s : List Int × Int) : St := { S with sems := S.sems.set k s }
def signal (S : St) (k : Int) : Int × St :=
  if S.hasSem k then
    match S.semAt (k.toNat - 1) with
    | (p :: l, n) => (0, (S.setSem (k.toNat - 1) (l, n)).make p)
    | ([], n) => (0, S.setSem (k.toNat - 1) ([], min (n + 1) 2147483647))
  else (4, S)
def wait (S : St) (k : Int) : Int × St :=
  if S.hasSem k then
    if S.active = 0 then (2, S)
    else if (S.semAt (k.toNat - 1)).2 > 0 then (0, S.setSem (k.toNat - 1) ((S.semAt (k.toNat - 1)).1, (S.semAt (k.toNat - 1)).2 - 1))
    else (0, (S.setSem (k.toNat - 1) ((S.semAt (k.toNat - 1)).1 ++ [S.active], (S.semAt (k.toNat - 1)).2)).next)
  else (4, S)
def readyOf (S : St) (p : Int) : List Int := if p < 1 ∨ p > 8 then [] else S.ready p.toNat
def waiting (S : St) (k : Int) : List Int × Int := if S.hasSem k then S.semAt (k.toNat - 1) else ([], 0)

/-- What stays true: lengths, and that every name names a process. N: no queue is longer. -/
structure WF (N : Nat) (S : St) : Prop where
  il : S.idle.length = S.prior.length
  pl : S.prior.length ≤ 100
  pr : ∀ x ∈ S.prior, 1 ≤ x ∧ x ≤ 8
  ac : 0 ≤ S.active ∧ S.active ≤ S.prior.length
  rl : ∀ i, (S.ready i).length ≤ N
  rd : ∀ i, ∀ p ∈ S.ready i, 1 ≤ p ∧ p ≤ S.prior.length
  sl : S.sems.length ≤ 100
  sm : ∀ s ∈ S.sems, s.1.length ≤ N ∧ (∀ p ∈ s.1, 1 ≤ p ∧ p ≤ S.prior.length) ∧ 0 ≤ s.2 ∧ s.2 ≤ 2147483647

theorem WF.mono {N M : Nat} {S : St} (h : WF N S) (hN : N ≤ M) : WF M S :=
  ⟨h.il, h.pl, h.pr, h.ac, fun i => Nat.le_trans (h.rl i) hN, h.rd, h.sl, fun s hs => ⟨Nat.le_trans (h.sm s hs).1 hN, (h.sm s hs).2⟩⟩
theorem WF.new : WF 0 St.new := ⟨rfl, by simp [St.new], by simp [St.new], by simp [St.new], by simp [St.new], by simp [St.new], by simp [St.new], by simp [St.new]⟩
theorem WF.prio {N : Nat} {S : St} (h : WF N S) {p : Int} (h1 : 1 ≤ p) (h2 : p ≤ S.prior.length) : 1 ≤ S.prio p ∧ S.prio p ≤ 8 := by
  have hl : (p.toNat - 1) < S.prior.length := by omega
  unfold St.prio
  rw [List.getD_eq_getElem?_getD, List.getElem?_eq_getElem hl, Option.getD_some]
  exact h.pr _ (List.getElem_mem hl)
theorem WF.setAct {N : Nat} {S : St} (h : WF N S) {a : Int} (h0 : 0 ≤ a) (h1 : a ≤ S.prior.length) : WF N { S with active := a } :=
  ⟨h.il, h.pl, h.pr, ⟨h0, h1⟩, h.rl, h.rd, h.sl, h.sm⟩
theorem WF.setReady {N : Nat} {S : St} (h : WF N S) {i : Nat} {l : List Int} (hl : l.length ≤ N) (hm : ∀ p ∈ l, 1 ≤ p ∧ p ≤ S.prior.length) : WF N { S with ready := upd S.ready i l } := by
  refine ⟨h.il, h.pl, h.pr, h.ac, fun j => ?_, fun j => ?_, h.sl, h.sm⟩
  · by_cases e : j = i
    · subst e; simpa using hl
    · show (upd S.ready i l j).length ≤ N
      rw [upd_ne _ _ e]; exact h.rl j
  · by_cases e : j = i
    · subst e; simpa using hm
    · show ∀ p ∈ upd S.ready i l j, _
      rw [upd_ne _ _ e]; exact h.rd j
theorem WF.push {N : Nat} {S : St} (h : WF N S) (i : Nat) {p : Int} (h1 : 1 ≤ p) (h2 : p ≤ S.prior.length) : WF (N + 1) (S.push i p) := by
  refine (h.mono (Nat.le_succ N)).setReady ?_ ?_
  · have := h.rl i; simp; omega
  · intro q hq
    rcases List.mem_append.1 hq with hq | hq
    · exact h.rd i q hq
    · simp at hq; subst hq; exact ⟨h1, h2⟩
theorem WF.pull {N : Nat} {S : St} (h : WF N S) (i : Nat) (p : Int) : WF N (S.pull i p) :=
  h.setReady (Nat.le_trans List.erase_sublist.length_le (h.rl i)) fun q hq => h.rd i q (List.mem_of_mem_erase hq)
theorem WF.first {N : Nat} {S : St} (h : WF N S) (i : Nat) : WF N { S with active := (S.ready i).headD 0, ready := upd S.ready i (S.ready i).tail } := by
  have h1 : ∀ p ∈ (S.ready i).tail, 1 ≤ p ∧ p ≤ S.prior.length := fun p hp => h.rd i p (List.mem_of_mem_tail hp)
  have h2 : (S.ready i).tail.length ≤ N := by have := h.rl i; simp; omega
  refine (h.setReady (i := i) h2 h1).setAct ?_ ?_
  · cases e : S.ready i with
    | nil => simp
    | cons a l => have := h.rd i a (by rw [e]; simp); simp; omega
  · cases e : S.ready i with
    | nil => simp
    | cons a l => have := h.rd i a (by rw [e]; simp); simp; omega
theorem WF.nextFrom {N : Nat} : ∀ (i : Nat) {S : St}, WF N S → WF N (S.nextFrom i)
  | 0, _, h => h
  | i + 1, S, h => by
    unfold St.nextFrom
    split
    · exact WF.nextFrom i (h.first (i + 1))
    · exact h
theorem WF.next {N : Nat} {S : St} (h : WF N S) : WF N S.next := WF.nextFrom 8 (h.setAct (Int.le_refl 0) (by omega))
theorem WF.setIdle {N : Nat} {S : St} (h : WF N S) (i : Nat) (b : Bool) : WF N { S with idle := S.idle.set i b } :=
  ⟨by simpa using h.il, h.pl, h.pr, h.ac, h.rl, h.rd, h.sl, h.sm⟩
theorem WF.make {N : Nat} {S : St} (h : WF N S) {p : Int} (h1 : 1 ≤ p) (h2 : p ≤ S.prior.length) : WF (N + 2) (S.make p) := by
  have hS1 := (h.setIdle (p.toNat - 1) false).push (S.prio p).toNat h1 h2
  unfold St.make
  dsimp only
  split
  · exact ((hS1.pull (S.prio p).toNat p).setAct (by omega) h2).mono (by omega)
  · split
    · have ha := h.ac
      exact ((hS1.push (S.prio S.active).toNat (p := S.active) (by omega) ha.2).pull (S.prio p).toNat p).setAct (by omega) h2
    · exact hS1.mono (by omega)
theorem WF.setSem {N : Nat} {S : St} (h : WF N S) {k : Nat} {s : List Int × Int} (hs : s.1.length ≤ N ∧ (∀ p ∈ s.1, 1 ≤ p ∧ p ≤ S.prior.length) ∧ 0 ≤ s.2 ∧ s.2 ≤ 2147483647) : WF N (S.setSem k s) := by
  refine ⟨h.il, h.pl, h.pr, h.ac, h.rl, h.rd, by simpa [St.setSem] using h.sl, fun t ht => ?_⟩
  rcases List.mem_or_eq_of_mem_set ht with ht | rfl
  · exact h.sm t ht
  · exact hs
theorem WF.semAt {N : Nat} {S : St} (h : WF N S) (k : Nat) : (S.semAt k).1.length ≤ N ∧ (∀ p ∈ (S.semAt k).1, 1 ≤ p ∧ p ≤ S.prior.length) ∧ 0 ≤ (S.semAt k).2 ∧ (S.semAt k).2 ≤ 2147483647 := by
  unfold St.semAt
  by_cases hk : k < S.sems.length
  · rw [List.getD_eq_getElem?_getD, List.getElem?_eq_getElem hk, Option.getD_some]
    exact h.sm _ (List.getElem_mem hk)
  · rw [List.getD_eq_getElem?_getD, List.getElem?_eq_none (by omega), Option.getD_none]
    simp
@[simp] theorem prior_next (S : St) : S.next.prior = S.prior := by
  unfold St.next
  have : ∀ i (S : St), (S.nextFrom i).prior = S.prior := by
    intro i
    induction i with
    | zero => intro S; rfl
    | succ i ih => intro S; unfold St.nextFrom; split <;> simp [ih]
  simp [this]
@[simp] theorem prior_make (S : St) (p : Int) : (S.make p).prior = S.prior := by
  unfold St.make; dsimp only; split
  · rfl
  · split <;> rfl
theorem WF.spawn {N : Nat} {S : St} (h : WF N S) (p : Int) : WF N (S.spawn p).2 := by
  unfold St.spawn
  split
  · exact h
  · split
    · exact h
    · have hp := h.pl
      refine ⟨by simpa using h.il, by simp; omega, ?_, ?_, h.rl, fun i q hq => ?_, h.sl, fun s hs => ?_⟩
      · intro x hx
        rcases List.mem_append.1 hx with hx | hx
        · exact h.pr x hx
        · simp at hx; subst hx; omega
      · have := h.ac; simp; omega
      · have := h.rd i q hq; simp; omega
      · have := h.sm s hs
        refine ⟨this.1, fun q hq => ?_, this.2.2⟩
        have := this.2.1 q hq; simp; omega
theorem WF.sem {N : Nat} {S : St} (h : WF N S) : WF N S.sem.2 := by
  unfold St.sem
  split
  · exact h
  · have hp := h.sl
    refine ⟨h.il, h.pl, h.pr, h.ac, h.rl, h.rd, by simp; omega, fun s hs => ?_⟩
    rcases List.mem_append.1 hs with hs | hs
    · exact h.sm s hs
    · simp at hs; subst hs; simp
theorem WF.makes : ∀ (l : List Int) {N : Nat} {S : St}, WF N S → (∀ p ∈ l, 1 ≤ p ∧ p ≤ S.prior.length) → WF (N + 2 * l.length) (l.foldl St.make S)
  | [], _, _, h, _ => h
  | p :: l, N, S, h, hl => by
    have h1 := h.make (hl p (by simp)).1 (hl p (by simp)).2
    have := WF.makes l h1 (fun q hq => by simpa using hl q (by simp [hq]))
    simp only [List.foldl_cons, List.length_cons]
    exact this.mono (by omega)
theorem WF.resume {N : Nat} {S : St} (h : WF N S) (l : List Int) : WF (N + 2 * l.length) (S.resume l).2 := by
  unfold St.resume
  split
  · rename_i ha
    split
    · refine WF.makes l h fun p hp => ?_
      have := List.all_eq_true.1 ha p hp
      simpa [St.has] using this
    · exact h.mono (by omega)
  · exact h.mono (by omega)
theorem WF.suspend {N : Nat} {S : St} (h : WF N S) (p : Int) : WF N (S.suspend p).2 := by
  unfold St.suspend
  split
  · split
    · exact h
    · dsimp only
      split
      · exact (h.setIdle _ _).next
      · have h1 := (h.setIdle (p.toNat - 1) true).pull (S.prio p).toNat p
        refine ⟨h1.il, h1.pl, h1.pr, h1.ac, h1.rl, h1.rd, by simpa using h.sl, fun s hs => ?_⟩
        obtain ⟨t, ht, rfl⟩ := List.mem_map.1 hs
        have := h.sm t ht
        exact ⟨Nat.le_trans List.erase_sublist.length_le this.1, fun q hq => this.2.1 q (List.mem_of_mem_erase hq), this.2.2⟩
  · exact h
theorem WF.yield {N : Nat} {S : St} (h : WF N S) : WF (N + 1) S.yield.2 := by
  have ha := h.ac
  unfold St.yield
  split
  · exact h.mono (by omega)
  · split
    · exact h.mono (by omega)
    · exact (h.push _ (by omega) ha.2).next
theorem WF.signal {N : Nat} {S : St} (h : WF N S) (k : Int) : WF (N + 2) (S.signal k).2 := by
  have hs := h.semAt (k.toNat - 1)
  unfold St.signal
  split
  · split
    · rename_i p l n e
      rw [e] at hs
      have hp := hs.2.1 p (by simp)
      refine WF.make (h.setSem (s := (l, n)) ⟨by have := hs.1; simp at this; show l.length ≤ N; omega, fun q hq => hs.2.1 q (by simp [show q ∈ l from hq]), hs.2.2⟩) hp.1 hp.2
    · rename_i n e
      rw [e] at hs
      have h3 := hs.2.2
      dsimp only at h3
      exact (h.setSem (s := ([], min (n + 1) 2147483647)) ⟨by simp, by simp, by dsimp only; omega, by dsimp only; omega⟩).mono (by omega)
  · exact h.mono (by omega)
theorem WF.wait {N : Nat} {S : St} (h : WF N S) (k : Int) : WF (N + 1) (S.wait k).2 := by
  have hs := h.semAt (k.toNat - 1)
  have ha := h.ac
  unfold St.wait
  split
  · split
    · exact h.mono (by omega)
    · split
      · exact (h.setSem (s := ((S.semAt (k.toNat - 1)).1, (S.semAt (k.toNat - 1)).2 - 1)) ⟨hs.1, hs.2.1, by dsimp only; omega, by dsimp only; omega⟩).mono (by omega)
      · refine WF.next ((h.mono (Nat.le_succ N)).setSem (s := ((S.semAt (k.toNat - 1)).1 ++ [S.active], (S.semAt (k.toNat - 1)).2)) ⟨by have := hs.1; rw [List.length_append, List.length_singleton]; omega, fun q hq => ?_, hs.2.2⟩)
        rcases List.mem_append.1 hq with hq | hq
        · exact hs.2.1 q hq
        · simp at hq; subst hq; omega
  · exact h.mono (by omega)
end St
end Go.Proofs.YtlfbommppenlcaaGreatDoor
