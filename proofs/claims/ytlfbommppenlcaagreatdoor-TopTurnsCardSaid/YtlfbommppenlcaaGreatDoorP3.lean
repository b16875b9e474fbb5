/- A scheduler and one on paper go alike, step by step. No program here. Conditions: fewer than 2147483647 signals. -/
import Derived.Test.YtlfbommppenlcaaGreatDoorP1
namespace Go.Proofs.YtlfbommppenlcaaGreatDoor
namespace Ben

structure Pr where
  prior : Int
  state : Int
  sem : Int

structure Bn where
  l : List Pr
  ready : Nat → List Int
  active : Int
  waits : List (List Int)
  signs : List Int

namespace Bn
def new : Bn := ⟨[], fun _ => [], 0, [], []⟩
def at_ (B : Bn) (k : Int) : Pr := B.l.getD (k.toNat - 1) ⟨0, 0, 0⟩
def put (B : Bn) (k : Int) (x : Pr) : Bn := { B with l := B.l.set (k.toNat - 1) x }
def rdy (B : Bn) (i : Nat) (l : List Int) : Bn := { B with ready := upd B.ready i l }
def nextFrom : Nat → Bn → Bn
  | 0, B => B
  | i + 1, B => match B.ready (i + 1) with
    | [] => nextFrom i B
    | k :: t => (({ B with active := k } : Bn).rdy (i + 1) t).put k ⟨(B.at_ k).prior, 2, (B.at_ k).sem⟩
def next (B : Bn) : Bn := nextFrom 8 { B with active := 0 }
/-- One enters the ready ones. -/
def enter (B : Bn) (k s : Int) : Bn := (B.put k ⟨(B.at_ k).prior, 1, s⟩).rdy (B.at_ k).prior.toNat (B.ready (B.at_ k).prior.toNat ++ [k])
def wakes (B : Bn) (k : Int) : Bn :=
  if B.active = 0 then (B.enter k 0).next
  else if (B.at_ k).prior > ((B.enter k 0).at_ B.active).prior then ((B.enter k 0).enter B.active ((B.enter k 0).at_ B.active).sem).next
  else B.enter k 0
def there (B : Bn) (k : Int) : Bool := decide (1 ≤ k) && decide (k ≤ B.l.length)
def without (l : List Int) (k : Int) : List Int := l.filter (· != k)
def resume1 (B : Bn) (a : Int) : Int × Bn := if B.there a then (if (B.at_ a).state = 0 then (0, B.wakes a) else (2, B)) else (4, B)
def resume2 (B : Bn) (a b : Int) : Int × Bn :=
  if B.there a then
    if B.there b then (if (B.at_ a).state = 0 ∧ (B.at_ b).state = 0 ∧ a ≠ b then (0, (B.wakes a).wakes b) else (2, B)) else (4, B)
  else (4, B)
def leave (B : Bn) (p : Int) : Bn :=
  if (B.at_ p).state = 1 then B.rdy (B.at_ p).prior.toNat (without (B.ready (B.at_ p).prior.toNat) p)
  else if (B.at_ p).state = 2 then B.next
  else if (B.at_ p).state = 3 then { B with waits := B.waits.set ((B.at_ p).sem.toNat - 1) (without (B.waits.getD ((B.at_ p).sem.toNat - 1) []) p) }
  else B
def suspend (B : Bn) (p : Int) : Int × Bn :=
  if B.there p then
    if (B.at_ p).state = 0 then (2, B) else (0, (B.leave p).put p ⟨(B.at_ p).prior, 0, 0⟩)
  else (4, B)
def yield (B : Bn) : Int × Bn :=
  if B.active = 0 then (4, B)
  else if B.ready (B.at_ B.active).prior.toNat = [] then (0, B)
  else (0, (B.enter B.active (B.at_ B.active).sem).next)
def hasSem (B : Bn) (k : Int) : Bool := decide (1 ≤ k) && decide (k ≤ B.signs.length)
def signal (B : Bn) (k : Int) : Int × Bn :=
  if B.hasSem k then
    match B.waits.getD (k.toNat - 1) [] with
    | p :: l => (0, ({ B with waits := B.waits.set (k.toNat - 1) l } : Bn).wakes p)
    | [] => (0, { B with signs := B.signs.set (k.toNat - 1) (B.signs.getD (k.toNat - 1) 0 + 1) })
  else (4, B)
def wait (B : Bn) (k : Int) : Int × Bn :=
  if B.hasSem k then
    if B.active = 0 then (2, B)
    else if B.signs.getD (k.toNat - 1) 0 > 0 then (0, { B with signs := B.signs.set (k.toNat - 1) (B.signs.getD (k.toNat - 1) 0 - 1) })
    else (0, (({ B with waits := B.waits.set (k.toNat - 1) (B.waits.getD (k.toNat - 1) [] ++ [B.active]) } : Bn).put B.active ⟨(B.at_ B.active).prior, 3, k⟩).next)
  else (4, B)
def spawn (B : Bn) (p : Int) : (Int × Int) × Bn :=
  if p < 1 ∨ p > 8 then ((0, 2), B) else if B.l.length = 100 then ((0, 3), B) else ((B.l.length + 1, 0), { B with l := B.l ++ [⟨p, 0, 0⟩] })
def sem (B : Bn) : (Int × Int) × Bn :=
  if B.signs.length = 100 then ((0, 3), B) else ((B.signs.length + 1, 0), { B with signs := B.signs ++ [0], waits := B.waits ++ [[]] })
def does (B : Bn) (d : Deed) : (Int × Int) × Bn :=
  if d.kind = 0 then B.spawn d.a
  else if d.kind = 1 then ((0, (B.resume1 d.a).1), (B.resume1 d.a).2)
  else if d.kind = 2 then ((0, (B.resume2 d.a d.b).1), (B.resume2 d.a d.b).2)
  else if d.kind = 3 then ((0, (B.suspend d.a).1), (B.suspend d.a).2)
  else if d.kind = 4 then ((0, B.yield.1), B.yield.2)
  else if d.kind = 5 then ((0, (B.signal d.b).1), (B.signal d.b).2)
  else if d.kind = 6 then ((0, (B.wait d.b).1), (B.wait d.b).2)
  else B.sem
end Bn
open Bn

structure Core (N : Nat) (S : St) (B : Bn) : Prop where
  pr : S.prior = B.l.map Pr.prior
  id : S.idle = B.l.map fun x => decide (x.state = 0)
  rd : B.ready = S.ready
  sw : B.waits = S.sems.map Prod.fst
  ss : B.signs = S.sems.map Prod.snd
  pp : ∀ x ∈ B.l, 1 ≤ x.prior ∧ x.prior ≤ 8
  mr : ∀ i : Nat, ∀ k ∈ B.ready i, (1 ≤ k ∧ k ≤ B.l.length) ∧ (B.at_ k).state = 1 ∧ (B.at_ k).prior.toNat = i
  mw : ∀ j : Nat, ∀ k ∈ B.waits.getD j [], (1 ≤ k ∧ k ≤ B.l.length) ∧ (B.at_ k).state = 3 ∧ (B.at_ k).sem = j + 1
  nr : ∀ i, (B.ready i).Nodup
  nw : ∀ j, (B.waits.getD j []).Nodup
  sg : ∀ n ∈ B.signs, 0 ≤ n ∧ n ≤ N

structure Rel (N : Nat) (S : St) (B : Bn) : Prop extends Core N S B where
  ac : B.active = S.active
  a2 : S.active ≠ 0 → (1 ≤ S.active ∧ S.active ≤ B.l.length) ∧ (B.at_ S.active).state = 2
  u2 : ∀ k : Int, 1 ≤ k → k ≤ B.l.length → (B.at_ k).state = 2 → k = S.active
  od : ∀ i, B.ready i ≠ [] → S.active ≠ 0 ∧ i ≤ (S.prio S.active).toNat

theorem Core.prio {N : Nat} {S : St} {B : Bn} (h : Core N S B) (k : Int) : S.prio k = (B.at_ k).prior := by
  unfold St.prio Bn.at_
  rw [h.pr]
  simp only [List.getD_eq_getElem?_getD, List.getElem?_map]
  cases B.l[k.toNat - 1]? <;> rfl
theorem Core.isIdle {N : Nat} {S : St} {B : Bn} (h : Core N S B) {k : Int} (h1 : 1 ≤ k) (h2 : k ≤ B.l.length) : S.isIdle k = decide ((B.at_ k).state = 0) := by
  unfold St.isIdle Bn.at_
  rw [h.id]
  have hl : k.toNat - 1 < B.l.length := by omega
  simp only [List.getD_eq_getElem?_getD, List.getElem?_map, List.getElem?_eq_getElem hl, Option.map_some, Option.getD_some]
theorem Core.priorBd {N : Nat} {S : St} {B : Bn} (h : Core N S B) {k : Int} (h1 : 1 ≤ k) (h2 : k ≤ B.l.length) : 1 ≤ (B.at_ k).prior ∧ (B.at_ k).prior ≤ 8 := by
  have hl : k.toNat - 1 < B.l.length := by omega
  unfold Bn.at_
  rw [List.getD_eq_getElem?_getD, List.getElem?_eq_getElem hl, Option.getD_some]
  exact h.pp _ (List.getElem_mem hl)
theorem Core.has {N : Nat} {S : St} {B : Bn} (h : Core N S B) (k : Int) : S.has k = B.there k := by
  unfold St.has Bn.there
  rw [h.pr]; simp
theorem Core.hasSem {N : Nat} {S : St} {B : Bn} (h : Core N S B) (k : Int) : S.hasSem k = B.hasSem k := by
  unfold St.hasSem Bn.hasSem
  rw [h.ss]; simp
theorem Core.semAt {N : Nat} {S : St} {B : Bn} (h : Core N S B) (j : Nat) : S.semAt j = (B.waits.getD j [], B.signs.getD j 0) := by
  unfold St.semAt
  rw [h.sw, h.ss]
  simp only [List.getD_eq_getElem?_getD, List.getElem?_map]
  cases S.sems[j]? <;> rfl
theorem Core.mono {N M : Nat} {S : St} {B : Bn} (h : Core N S B) (hm : N ≤ M) : Core M S B := { h with sg := fun n hn => ⟨(h.sg n hn).1, by have := (h.sg n hn).2; omega⟩ }
theorem Rel.mono {N M : Nat} {S : St} {B : Bn} (h : Rel N S B) (hm : N ≤ M) : Rel M S B := { h with toCore := h.toCore.mono hm }

theorem at_put_same {B : Bn} {k : Int} (x : Pr) (h1 : 1 ≤ k) (h2 : k ≤ B.l.length) : (B.put k x).at_ k = x := by
  have hl : k.toNat - 1 < B.l.length := by omega
  unfold Bn.put Bn.at_
  simp only [List.getD_eq_getElem?_getD]
  rw [List.getElem?_set_self hl, Option.getD_some]
theorem at_put_ne {B : Bn} {k j : Int} (x : Pr) (h1 : 1 ≤ k) (h2 : 1 ≤ j) (h : j ≠ k) : (B.put k x).at_ j = B.at_ j := by
  unfold Bn.put Bn.at_
  simp only [List.getD_eq_getElem?_getD]
  rw [List.getElem?_set_ne (by omega)]
theorem at_some {B : Bn} {k : Int} (h1 : 1 ≤ k) (h2 : k ≤ B.l.length) : B.l[k.toNat - 1]? = some (B.at_ k) := by
  have hl : k.toNat - 1 < B.l.length := by omega
  unfold Bn.at_
  rw [List.getD_eq_getElem?_getD, List.getElem?_eq_getElem hl, Option.getD_some]
theorem set_same {α : Type} {l : List α} {i : Nat} {a : α} (h : l[i]? = some a) : l.set i a = l := by
  apply List.ext_getElem?
  intro j
  by_cases e : j = i
  · subst e
    have hl : j < l.length := by
      rcases Nat.lt_or_ge j l.length with h1 | h1
      · exact h1
      · rw [List.getElem?_eq_none h1] at h; cases h
    rw [List.getElem?_set_self hl, h]
  · rw [List.getElem?_set_ne (Ne.symm e)]
theorem prior_put {B : Bn} {k : Int} {x : Pr} (h1 : 1 ≤ k) (h2 : k ≤ B.l.length) (hx : x.prior = (B.at_ k).prior) : (B.put k x).l.map Pr.prior = B.l.map Pr.prior := by
  unfold Bn.put
  rw [List.map_set]
  exact set_same (by rw [List.getElem?_map, at_some h1 h2]; simp [hx])

/-- A record is another one: what the queues say of it must hold. -/
theorem Core.put {N : Nat} {S : St} {B : Bn} (h : Core N S B) {k : Int} {x : Pr} (h1 : 1 ≤ k) (h2 : k ≤ B.l.length) (hx : x.prior = (B.at_ k).prior)
    (hr : ∀ i, k ∉ B.ready i) (hw : ∀ j : Nat, k ∈ B.waits.getD j [] → x.state = 3 ∧ x.sem = j + 1) :
    Core N { S with idle := S.idle.set (k.toNat - 1) (decide (x.state = 0)) } (B.put k x) := by
  refine ⟨?_, ?_, h.rd, h.sw, h.ss, fun y hy => ?_, fun i j hj => ?_, fun i j hj => ?_, h.nr, h.nw, h.sg⟩
  · rw [prior_put h1 h2 hx]; exact h.pr
  · show S.idle.set _ _ = List.map _ (B.l.set _ _)
    rw [List.map_set, h.id]
  · rcases List.mem_or_eq_of_mem_set hy with hy | rfl
    · exact h.pp y hy
    · rw [hx]; exact h.priorBd h1 h2
  · obtain ⟨⟨a, b⟩, c, d⟩ := h.mr i j hj
    have : j ≠ k := fun e => hr i (e ▸ hj)
    rw [at_put_ne x h1 a this]
    exact ⟨⟨a, by simpa [Bn.put] using b⟩, c, d⟩
  · obtain ⟨⟨a, b⟩, c, d⟩ := h.mw i j hj
    by_cases e : j = k
    · subst e
      rw [at_put_same x h1 h2]
      exact ⟨⟨a, by simpa [Bn.put] using b⟩, hw i hj⟩
    · rw [at_put_ne x h1 a e]
      exact ⟨⟨a, by simpa [Bn.put] using b⟩, c, d⟩
theorem idle_put {N : Nat} {S : St} {B : Bn} (h : Core N S B) {k : Int} (h1 : 1 ≤ k) (h2 : k ≤ B.l.length) {c : Bool} (hc : decide ((B.at_ k).state = 0) = c) : S.idle.set (k.toNat - 1) c = S.idle := by
  rw [h.id]
  exact set_same (by rw [List.getElem?_map, at_some h1 h2]; simp [hc])

/-- One enters the ready ones. -/
theorem Core.enter {N : Nat} {S : St} {B : Bn} (h : Core N S B) {k s : Int} (h1 : 1 ≤ k) (h2 : k ≤ B.l.length) (hr : ∀ i, k ∉ B.ready i) (hw : ∀ j : Nat, k ∉ B.waits.getD j []) :
    Core N (({ S with idle := S.idle.set (k.toNat - 1) false } : St).push (S.prio k).toNat k) (B.enter k s) := by
  have hp := h.put (x := ⟨(B.at_ k).prior, 1, s⟩) h1 h2 rfl hr (fun j hj => absurd hj (hw j))
  have e : decide ((1 : Int) = 0) = false := rfl
  dsimp only at hp
  rw [e] at hp
  have hpr := h.prio k
  refine ⟨hp.pr, hp.id, ?_, hp.sw, hp.ss, hp.pp, fun i j hj => ?_, fun i j hj => ?_, fun i => ?_, hp.nw, hp.sg⟩
  · show upd B.ready _ _ = upd S.ready _ _
    rw [h.rd, hpr]
  · have hj' : j ∈ upd B.ready (B.at_ k).prior.toNat (B.ready (B.at_ k).prior.toNat ++ [k]) i := hj
    show _ ∧ ((B.put k _).at_ j).state = 1 ∧ ((B.put k _).at_ j).prior.toNat = i
    by_cases e : i = (B.at_ k).prior.toNat
    · subst e
      rw [upd_same] at hj'
      rcases List.mem_append.1 hj' with hj' | hj'
      · exact hp.mr _ j hj'
      · obtain rfl : j = k := by simpa using hj'
        rw [at_put_same _ h1 h2]
        exact ⟨⟨h1, by simpa [Bn.enter, Bn.rdy, Bn.put] using h2⟩, rfl, rfl⟩
    · rw [upd_ne _ _ e] at hj'
      exact hp.mr _ j hj'
  · exact hp.mw i j hj
  · show (upd B.ready (B.at_ k).prior.toNat (B.ready (B.at_ k).prior.toNat ++ [k]) i).Nodup
    by_cases e : i = (B.at_ k).prior.toNat
    · subst e
      rw [upd_same]
      exact List.nodup_append.2 ⟨h.nr _, by simp, fun a ha b hb => by
        obtain rfl : b = k := by simpa using hb
        rintro rfl; exact hr _ ha⟩
    · rw [upd_ne _ _ e]; exact h.nr i

theorem nextFrom_of_act {S : St} (h : S.active ≠ 0) : ∀ i, S.nextFrom i = S
  | 0 => rfl
  | i + 1 => by show (if S.active = 0 then _ else S) = S; rw [if_neg h]

theorem upd_id {f : Nat → List Int} {i : Nat} {l : List Int} (h : f i = l) : upd f i l = f := by
  funext j
  by_cases e : j = i
  · subst e; rw [upd_same, h]
  · rw [upd_ne _ _ e]

theorem nextFrom_rel {N : Nat} {S : St} {B : Bn} (h : Core N S B) (hS : S.active = 0) (hB : B.active = 0) (no2 : ∀ k : Int, 1 ≤ k → k ≤ B.l.length → (B.at_ k).state ≠ 2) :
    ∀ i, i ≤ 8 → (∀ j, i < j → B.ready j = []) → Rel N (S.nextFrom i) (B.nextFrom i)
  | 0, _, hj => by
    refine ⟨h, hB.trans hS.symm, fun h => absurd hS h, fun k a b c => absurd c (no2 k a b), fun j hne => ?_⟩
    exfalso
    cases e : B.ready j with
    | nil => exact hne e
    | cons k t =>
      obtain ⟨⟨a, b⟩, _, d⟩ := h.mr j k (by rw [e]; simp)
      have := h.priorBd a b
      rw [hj j (by omega)] at e; cases e
  | i + 1, hi, hj => by
    have e1 : S.ready (i + 1) = B.ready (i + 1) := by rw [h.rd]
    show Rel N (if S.active = 0 then _ else S) (match B.ready (i + 1) with | [] => _ | k :: t => _)
    rw [if_pos hS]
    cases e : B.ready (i + 1) with
    | nil =>
      have e2 : ({ S with active := (S.ready (i + 1)).headD 0, ready := upd S.ready (i + 1) (S.ready (i + 1)).tail } : St) = S := by
        rw [e1, e]
        have : upd S.ready (i + 1) ([] : List Int).tail = S.ready := upd_id (by rw [e1, e]; rfl)
        rw [this]
        cases S; simp at hS; simp [hS]
      rw [e2]
      exact nextFrom_rel h hS hB no2 i (by omega) (fun j hj' => by
        by_cases e3 : j = i + 1
        · rw [e3]; exact e
        · exact hj j (by omega))
    | cons k t =>
      obtain ⟨⟨a, b⟩, c, d⟩ := h.mr (i + 1) k (by rw [e]; simp)
      have e2 : ({ S with active := (S.ready (i + 1)).headD 0, ready := upd S.ready (i + 1) (S.ready (i + 1)).tail } : St) = { S with active := k, ready := upd S.ready (i + 1) t } := by rw [e1, e]; rfl
      rw [e2, nextFrom_of_act (by show k ≠ 0; omega)]
      have hnd := h.nr (i + 1)
      rw [e] at hnd
      have hkt : k ∉ t := (List.nodup_cons.1 hnd).1
      -- out of the row first
      have h0 : Core N { S with active := k, ready := upd S.ready (i + 1) t } (({ B with active := k } : Bn).rdy (i + 1) t) := by
        refine ⟨h.pr, h.id, by show upd B.ready _ _ = upd S.ready _ _; rw [h.rd], h.sw, h.ss, h.pp, fun i' j hj' => ?_, h.mw, fun i' => ?_, h.nw, h.sg⟩
        · have hj2 : j ∈ upd B.ready (i + 1) t i' := hj'
          by_cases e3 : i' = i + 1
          · subst e3
            rw [upd_same] at hj2
            exact h.mr _ j (by rw [e]; exact List.mem_cons_of_mem _ hj2)
          · rw [upd_ne _ _ e3] at hj2
            exact h.mr _ j hj2
        · show (upd B.ready (i + 1) t i').Nodup
          by_cases e3 : i' = i + 1
          · subst e3; rw [upd_same]; exact (List.nodup_cons.1 hnd).2
          · rw [upd_ne _ _ e3]; exact h.nr _
      have hnr : ∀ i', k ∉ upd B.ready (i + 1) t i' := by
        intro i' hk
        by_cases e3 : i' = i + 1
        · subst e3; rw [upd_same] at hk; exact hkt hk
        · rw [upd_ne _ _ e3] at hk
          have := (h.mr i' k hk).2.2
          omega
      have h1 := h0.put (k := k) (x := ⟨(B.at_ k).prior, 2, (B.at_ k).sem⟩) a b rfl hnr (fun j hj' => by
        have := (h.mw j k hj').2.1
        omega)
      have hid : S.idle.set (k.toNat - 1) (decide ((2 : Int) = 0)) = S.idle := idle_put h a b (by rw [c]; rfl)
      have h2 : Core N { S with active := k, ready := upd S.ready (i + 1) t } ((({ B with active := k } : Bn).rdy (i + 1) t).put k ⟨(B.at_ k).prior, 2, (B.at_ k).sem⟩) := by
        have := h1
        dsimp only at this
        rw [hid] at this
        exact this
      refine ⟨h2, rfl, fun _ => ⟨⟨a, by simpa [Bn.put, Bn.rdy] using b⟩, ?_⟩, fun j x y z => ?_, fun i' hne => ⟨by show k ≠ 0; omega, ?_⟩⟩
      · show ((Bn.put _ k _).at_ k).state = 2
        rw [at_put_same _ a (by exact b)]
      · by_cases e3 : j = k
        · exact e3
        · rw [at_put_ne _ a x e3] at z
          exact absurd z (no2 j x (by simpa [Bn.put, Bn.rdy] using y))
      · have hp : ({ S with active := k, ready := upd S.ready (i + 1) t } : St).prio k = (B.at_ k).prior := h.prio k
        show i' ≤ (St.prio _ k).toNat
        rw [hp, d]
        have hne' : upd B.ready (i + 1) t i' ≠ [] := hne
        rcases Nat.lt_or_ge (i + 1) i' with h3 | h3
        · rw [upd_ne _ _ (by omega), hj i' h3] at hne'
          exact absurd rfl hne'
        · exact h3

theorem next_rel {N : Nat} {S : St} {B : Bn} (h : Core N S B) (no2 : ∀ k : Int, 1 ≤ k → k ≤ B.l.length → (B.at_ k).state ≠ 2) : Rel N S.next B.next := by
  refine nextFrom_rel (S := { S with active := 0 }) (B := { B with active := 0 }) ⟨h.pr, h.id, h.rd, h.sw, h.ss, h.pp, h.mr, h.mw, h.nr, h.nw, h.sg⟩ rfl rfl no2 8 (Nat.le_refl _) (fun j hj => ?_)
  cases e : B.ready j with
  | nil => rfl
  | cons k t =>
    obtain ⟨⟨a, b⟩, _, d⟩ := h.mr j k (by rw [e]; simp)
    have := h.priorBd a b
    omega

/-- The greatest row has one alone: that one is next. -/
theorem nextFrom_pick {S : St} {k : Int} {p : Nat} (hk : k ≠ 0) (hp : S.ready p = [k]) (hp1 : 1 ≤ p) (hS : S.active = 0) :
    ∀ i, p ≤ i → (∀ j, p < j → j ≤ i → S.ready j = []) → S.nextFrom i = { S with active := k, ready := upd S.ready p [] }
  | 0, h, _ => by omega
  | i + 1, h, hj => by
    show (if S.active = 0 then _ else S) = _
    rw [if_pos hS]
    by_cases e : p = i + 1
    · subst e
      rw [hp]
      exact nextFrom_of_act (S := { S with active := k, ready := upd S.ready (i + 1) [] }) hk i
    · have e1 := hj (i + 1) (by omega) (Nat.le_refl _)
      have e2 : ({ S with active := (S.ready (i + 1)).headD 0, ready := upd S.ready (i + 1) (S.ready (i + 1)).tail } : St) = S := by
        rw [e1]
        have : upd S.ready (i + 1) ([] : List Int).tail = S.ready := upd_id (by rw [e1]; rfl)
        rw [this]
        cases S; simp at hS; simp [hS]
      rw [e2]
      exact nextFrom_pick hk hp hp1 hS i (by omega) (fun j a b => hj j a (by omega))

/-- To be made ready is to enter the row, and, where that one is the greatest, to be next. -/
theorem make_eq {N : Nat} {S : St} {B : Bn} (h : Rel N S B) {k : Int} (h1 : 1 ≤ k) (h2 : k ≤ B.l.length) :
    S.make k = if S.active = 0 then ((({ S with idle := S.idle.set (k.toNat - 1) false } : St).push (S.prio k).toNat k)).next
      else if S.prio k > S.prio S.active then (((({ S with idle := S.idle.set (k.toNat - 1) false } : St).push (S.prio k).toNat k)).push (S.prio S.active).toNat S.active).next
      else (({ S with idle := S.idle.set (k.toNat - 1) false } : St).push (S.prio k).toNat k) := by
  have hp := h.prio k
  have hb := h.priorBd h1 h2
  unfold St.make
  dsimp only
  by_cases ha : S.active = 0
  · rw [if_pos ha, if_pos ha]
    have he : ∀ i, S.ready i = [] := fun i => by
      cases e : B.ready i with
      | nil => rw [← h.rd]; exact e
      | cons x t => exact absurd ha (h.od i (by rw [e]; simp)).1
    have hq : (upd S.ready (S.prio k).toNat (S.ready (S.prio k).toNat ++ [k])) (S.prio k).toNat = [k] := by rw [upd_same, he]; rfl
    have := nextFrom_pick (S := { (({ S with idle := S.idle.set (k.toNat - 1) false } : St).push (S.prio k).toNat k) with active := 0 }) (k := k) (p := (S.prio k).toNat) (by omega) hq (by omega) rfl 8 (by omega) (fun j a b => by
      show (upd S.ready (S.prio k).toNat (S.ready (S.prio k).toNat ++ [k])) j = []
      rw [upd_ne _ _ (by omega), he])
    unfold St.next
    rw [this]
    unfold St.pull St.push
    dsimp only
    rw [upd_same, he]
    simp
  · rw [if_neg ha, if_neg ha]
    by_cases hg : S.prio k > S.prio S.active
    · rw [if_pos hg, if_pos hg]
      have he : ∀ i, (S.prio S.active).toNat < i → S.ready i = [] := fun i hi => by
        cases e : B.ready i with
        | nil => rw [← h.rd]; exact e
        | cons x t => have := (h.od i (by rw [e]; simp)).2; omega
      have hpa := h.prio S.active
      have hba := h.priorBd (h.a2 ha).1.1 (h.a2 ha).1.2
      have hne : (S.prio k).toNat ≠ (S.prio S.active).toNat := by omega
      have hq : (upd (upd S.ready (S.prio k).toNat (S.ready (S.prio k).toNat ++ [k])) (S.prio S.active).toNat (upd S.ready (S.prio k).toNat (S.ready (S.prio k).toNat ++ [k]) (S.prio S.active).toNat ++ [S.active])) (S.prio k).toNat = [k] := by
        rw [upd_ne _ _ hne, upd_same, he _ (by omega)]; rfl
      have := nextFrom_pick (S := { ((({ S with idle := S.idle.set (k.toNat - 1) false } : St).push (S.prio k).toNat k).push (S.prio S.active).toNat S.active) with active := 0 }) (k := k) (p := (S.prio k).toNat) (by omega) hq (by omega) rfl 8 (by omega) (fun j a b => by
        show (upd (upd S.ready (S.prio k).toNat (S.ready (S.prio k).toNat ++ [k])) (S.prio S.active).toNat (upd S.ready (S.prio k).toNat (S.ready (S.prio k).toNat ++ [k]) (S.prio S.active).toNat ++ [S.active])) j = []
        rw [upd_ne _ _ (by omega), upd_ne _ _ (by omega), he j (by omega)])
      unfold St.next
      rw [this]
      unfold St.pull St.push
      dsimp only
      rw [hq]
      simp
    · rw [if_neg hg, if_neg hg]

theorem wakes_rel {N : Nat} {S : St} {B : Bn} (h : Rel N S B) {k : Int} (h1 : 1 ≤ k) (h2 : k ≤ B.l.length) (hr : ∀ i, k ∉ B.ready i) (hw : ∀ j : Nat, k ∉ B.waits.getD j []) (hs : (B.at_ k).state ≠ 2) : Rel N (S.make k) (B.wakes k) := by
  have hE := h.toCore.enter (s := 0) h1 h2 hr hw
  have hat : ∀ j, 1 ≤ j → j ≠ k → (B.enter k 0).at_ j = B.at_ j := fun j a b => at_put_ne _ h1 a b
  have hatk : ((B.enter k 0).at_ k) = ⟨(B.at_ k).prior, 1, 0⟩ := at_put_same _ h1 h2
  have hlen : (B.enter k 0).l.length = B.l.length := by simp [Bn.enter, Bn.rdy, Bn.put]
  rw [make_eq h h1 h2]
  unfold Bn.wakes
  rw [h.ac]
  by_cases ha : S.active = 0
  · rw [if_pos ha, if_pos ha]
    refine next_rel hE fun j a b e => ?_
    by_cases ej : j = k
    · subst ej; rw [hatk] at e; simp at e
    · rw [hat j a ej] at e
      have := h.u2 j a (by omega) e
      omega
  · rw [if_neg ha, if_neg ha]
    obtain ⟨⟨c1, c2⟩, c3⟩ := h.a2 ha
    have hak : S.active ≠ k := fun e => hs (e ▸ c3)
    have e1 : ((B.enter k 0).at_ S.active) = B.at_ S.active := hat _ c1 hak
    rw [h.prio k, h.prio S.active, e1]
    by_cases hg : (B.at_ k).prior > (B.at_ S.active).prior
    · rw [if_pos hg, if_pos hg]
      have hra : ∀ i, S.active ∉ (B.enter k 0).ready i := fun i hi => by
        have := (hE.mr i _ hi).2.1
        rw [e1, c3] at this; omega
      have hwa : ∀ j : Nat, S.active ∉ (B.enter k 0).waits.getD j [] := fun j hj => by
        have := (hE.mw j _ hj).2.1
        rw [e1, c3] at this; omega
      have hF := hE.enter (s := (B.at_ S.active).sem) c1 (by omega) hra hwa
      have hid : (S.idle.set (k.toNat - 1) false).set (S.active.toNat - 1) false = S.idle.set (k.toNat - 1) false := idle_put (S := (({ S with idle := S.idle.set (k.toNat - 1) false } : St).push (S.prio k).toNat k)) hE c1 (by omega) (by rw [e1, c3]; rfl)
      have hF' : Core N ((({ S with idle := S.idle.set (k.toNat - 1) false } : St).push (S.prio k).toNat k).push (S.prio S.active).toNat S.active) ((B.enter k 0).enter S.active (B.at_ S.active).sem) := by
        have := hF
        unfold St.push at this ⊢
        dsimp only at this ⊢
        rw [hid] at this
        exact this
      rw [← h.prio k, ← h.prio S.active]
      refine next_rel hF' fun j a b e => ?_
      have hlen2 : ((B.enter k 0).enter S.active (B.at_ S.active).sem).l.length = B.l.length := by simp [Bn.enter, Bn.rdy, Bn.put]
      by_cases ej : j = S.active
      · rw [ej, show ((B.enter k 0).enter S.active (B.at_ S.active).sem).at_ S.active = _ from at_put_same _ c1 (by omega)] at e
        simp at e
      · rw [show ((B.enter k 0).enter S.active (B.at_ S.active).sem).at_ j = _ from at_put_ne _ c1 a ej] at e
        by_cases ek : j = k
        · subst ek; rw [hatk] at e; simp at e
        · rw [hat j a ek] at e
          exact ej (h.u2 j a (by omega) e)
    · rw [if_neg hg, if_neg hg, ← h.prio k]
      refine ⟨hE, h.ac, fun _ => ⟨⟨c1, by rw [hlen]; exact c2⟩, ?_⟩, fun j a b e => ?_, fun i hne => ⟨ha, ?_⟩⟩
      · show ((B.enter k 0).at_ S.active).state = 2
        rw [e1]; exact c3
      · by_cases ek : j = k
        · subst ek; rw [hatk] at e; simp at e
        · rw [hat j a ek] at e
          exact h.u2 j a (by omega) e
      · show i ≤ (S.prio S.active).toNat
        have hne' : upd B.ready (B.at_ k).prior.toNat (B.ready (B.at_ k).prior.toNat ++ [k]) i ≠ [] := hne
        rw [h.prio S.active]
        by_cases e : i = (B.at_ k).prior.toNat
        · omega
        · rw [upd_ne _ _ e] at hne'
          have := (h.od i hne').2
          rw [h.prio S.active] at this
          exact this

theorem queues_of_idle {N : Nat} {S : St} {B : Bn} (h : Core N S B) {k : Int} (hs : (B.at_ k).state = 0) : (∀ i, k ∉ B.ready i) ∧ ∀ j : Nat, k ∉ B.waits.getD j [] :=
  ⟨fun i hi => by have := (h.mr i k hi).2.1; omega, fun j hj => by have := (h.mw j k hj).2.1; omega⟩

theorem make_len (S : St) (p : Int) : (S.make p).idle = S.idle.set (p.toNat - 1) false := by
  unfold St.make
  dsimp only
  split
  · rfl
  · split
    · rfl
    · rfl
theorem nextFrom_len : ∀ (i : Nat) (B : Bn), (B.nextFrom i).l.length = B.l.length
  | 0, _ => rfl
  | i + 1, B => by
    show (match B.ready (i + 1) with | [] => Bn.nextFrom i B | k :: t => _ : Bn).l.length = _
    cases B.ready (i + 1) with
    | nil => exact nextFrom_len i B
    | cons k t => simp [Bn.put, Bn.rdy]
theorem wakes_len (B : Bn) (k : Int) : (B.wakes k).l.length = B.l.length := by
  unfold Bn.wakes
  split
  · unfold Bn.next; rw [nextFrom_len]; simp [Bn.enter, Bn.rdy, Bn.put]
  · split
    · unfold Bn.next; rw [nextFrom_len]; simp [Bn.enter, Bn.rdy, Bn.put]
    · simp [Bn.enter, Bn.rdy, Bn.put]

theorem resume1_rel {N : Nat} {S : St} {B : Bn} (h : Rel N S B) (a : Int) : (B.resume1 a).1 = (S.resume [a]).1 ∧ Rel N (S.resume [a]).2 (B.resume1 a).2 := by
  unfold St.resume Bn.resume1
  simp only [List.all_cons, List.all_nil, Bool.and_true, St.fits, List.contains_nil, Bool.not_false, List.foldl_cons, List.foldl_nil]
  rw [h.has]
  by_cases ht : B.there a = true
  · rw [if_pos ht, if_pos ht]
    simp only [Bn.there, Bool.and_eq_true, decide_eq_true_eq] at ht
    rw [h.isIdle ht.1 ht.2]
    by_cases hs : (B.at_ a).state = 0
    · rw [if_pos hs, if_pos (by simpa using hs)]
      obtain ⟨q1, q2⟩ := queues_of_idle h.toCore hs
      exact ⟨rfl, wakes_rel h ht.1 ht.2 q1 q2 (by omega)⟩
    · rw [if_neg hs, if_neg (by simpa using hs)]
      exact ⟨rfl, h⟩
  · rw [if_neg ht, if_neg ht]; exact ⟨rfl, h⟩

theorem resume2_rel {N : Nat} {S : St} {B : Bn} (h : Rel N S B) (a b : Int) : (B.resume2 a b).1 = (S.resume [a, b]).1 ∧ Rel N (S.resume [a, b]).2 (B.resume2 a b).2 := by
  unfold St.resume Bn.resume2
  simp only [List.all_cons, List.all_nil, Bool.and_true, St.fits, List.contains_nil, Bool.not_false, List.foldl_cons, List.foldl_nil, List.nil_append]
  rw [h.has, h.has]
  by_cases ht : B.there a = true
  · rw [if_pos ht]
    by_cases hu : B.there b = true
    · rw [if_pos hu, if_pos (show (B.there a && B.there b) = true by simp [ht, hu])]
      simp only [Bn.there, Bool.and_eq_true, decide_eq_true_eq] at ht hu
      rw [h.isIdle ht.1 ht.2, h.isIdle hu.1 hu.2]
      by_cases hs : (B.at_ a).state = 0 ∧ (B.at_ b).state = 0 ∧ a ≠ b
      · obtain ⟨s1, s2, s3⟩ := hs
        rw [if_pos ⟨s1, s2, s3⟩, if_pos (show (decide ((B.at_ a).state = 0) && (decide ((B.at_ b).state = 0) && ![a].contains b)) = true by simp [s1, s2, Ne.symm s3])]
        obtain ⟨q1, q2⟩ := queues_of_idle h.toCore s1
        have h1 := wakes_rel h ht.1 ht.2 q1 q2 (by omega)
        have hl := wakes_len B a
        have hi := h1.isIdle hu.1 (by rw [hl]; exact hu.2)
        have hi2 : (S.make a).isIdle b = S.isIdle b := by
          unfold St.isIdle
          rw [make_len]
          simp only [List.getD_eq_getElem?_getD]
          rw [List.getElem?_set_ne (by omega)]
        rw [hi2, h.isIdle hu.1 hu.2] at hi
        have s4 : ((B.wakes a).at_ b).state = 0 := by
          have : decide ((B.at_ b).state = 0) = true := by simpa using s2
          rw [this] at hi
          simpa using hi.symm
        obtain ⟨q3, q4⟩ := queues_of_idle h1.toCore s4
        exact ⟨rfl, wakes_rel h1 hu.1 (by rw [hl]; exact hu.2) q3 q4 (by omega)⟩
      · rw [if_neg hs, if_neg (show ¬ (decide ((B.at_ a).state = 0) && (decide ((B.at_ b).state = 0) && ![a].contains b)) = true by
          intro hc
          simp only [Bool.and_eq_true, decide_eq_true_eq, Bool.not_eq_true'] at hc
          refine hs ⟨hc.1, hc.2.1, ?_⟩
          rintro rfl
          have := hc.2.2
          simp at this)]
        exact ⟨rfl, h⟩
    · rw [if_neg hu, if_neg (show ¬ (B.there a && B.there b) = true by simp [hu])]; exact ⟨rfl, h⟩
  · rw [if_neg ht, if_neg (show ¬ (B.there a && B.there b) = true by simp [ht])]; exact ⟨rfl, h⟩

theorem yield_rel {N : Nat} {S : St} {B : Bn} (h : Rel N S B) : B.yield.1 = S.yield.1 ∧ Rel N S.yield.2 B.yield.2 := by
  unfold St.yield Bn.yield
  rw [h.ac]
  by_cases ha : S.active = 0
  · rw [if_pos ha, if_pos ha]; exact ⟨rfl, h⟩
  · rw [if_neg ha, if_neg ha, h.prio S.active, h.rd]
    obtain ⟨⟨c1, c2⟩, c3⟩ := h.a2 ha
    by_cases hr : S.ready (B.at_ S.active).prior.toNat = []
    · rw [if_pos hr, if_pos hr]; exact ⟨rfl, h⟩
    · rw [if_neg hr, if_neg hr]
      refine ⟨rfl, ?_⟩
      have hE := h.toCore.enter (s := (B.at_ S.active).sem) c1 c2 (fun i hi => by have := (h.mr i _ hi).2.1; omega) (fun j hj => by have := (h.mw j _ hj).2.1; omega)
      rw [idle_put h.toCore c1 c2 (by rw [c3]; rfl), h.prio S.active] at hE
      refine next_rel hE fun j a b e => ?_
      by_cases ej : j = S.active
      · subst ej
        rw [show (B.enter S.active _).at_ S.active = _ from at_put_same _ c1 c2] at e
        simp at e
      · rw [show (B.enter S.active _).at_ j = _ from at_put_ne _ c1 a ej] at e
        exact ej (h.u2 j a (by simpa [Bn.enter, Bn.rdy, Bn.put] using b) e)

theorem getD_set {α : Type} (l : List α) (i j : Nat) (a d : α) (hi : i < l.length) : (l.set i a).getD j d = if j = i then a else l.getD j d := by
  simp only [List.getD_eq_getElem?_getD]
  by_cases e : j = i
  · subst e; rw [if_pos rfl, List.getElem?_set_self hi]; rfl
  · rw [if_neg e, List.getElem?_set_ne (Ne.symm e)]

theorem Core.wl {N : Nat} {S : St} {B : Bn} (h : Core N S B) : B.waits.length = B.signs.length := by rw [h.sw, h.ss]; simp
theorem hasSem_lt {B : Bn} {k : Int} (h : B.hasSem k = true) : 1 ≤ k ∧ k.toNat - 1 < B.signs.length := by
  simp only [Bn.hasSem, Bool.and_eq_true, decide_eq_true_eq] at h
  omega
theorem getElem?_of_lt {α : Type} {l : List α} {i : Nat} (d : α) (h : i < l.length) : l[i]? = some (l.getD i d) := by
  rw [List.getD_eq_getElem?_getD, List.getElem?_eq_getElem h]; rfl

/-- A semaphore is another one. -/
theorem Core.setSem {N M : Nat} {S : St} {B : Bn} (h : Core N S B) {j : Nat} (hj : j < B.signs.length) (l : List Int) (n : Int) (hm : N ≤ M) (hn : 0 ≤ n ∧ n ≤ M) (hl : l.Nodup)
    (hlm : ∀ k ∈ l, (1 ≤ k ∧ k ≤ B.l.length) ∧ (B.at_ k).state = 3 ∧ (B.at_ k).sem = j + 1) : Core M (S.setSem j (l, n)) { B with waits := B.waits.set j l, signs := B.signs.set j n } := by
  have hw := h.wl
  refine ⟨h.pr, h.id, h.rd, ?_, ?_, h.pp, h.mr, fun i k hk => ?_, h.nr, fun i => ?_, fun x hx => ?_⟩
  · show B.waits.set j l = (S.sems.set j (l, n)).map Prod.fst
    rw [List.map_set, h.sw]
  · show B.signs.set j n = (S.sems.set j (l, n)).map Prod.snd
    rw [List.map_set, h.ss]
  · have hk' : k ∈ (B.waits.set j l).getD i [] := hk
    rw [getD_set _ _ _ _ _ (by omega)] at hk'
    by_cases e : i = j
    · subst e; rw [if_pos rfl] at hk'; exact hlm k hk'
    · rw [if_neg e] at hk'; exact h.mw i k hk'
  · show ((B.waits.set j l).getD i []).Nodup
    rw [getD_set _ _ _ _ _ (by omega)]
    by_cases e : i = j
    · subst e; rw [if_pos rfl]; exact hl
    · rw [if_neg e]; exact h.nw i
  · rcases List.mem_or_eq_of_mem_set hx with hx | rfl
    · exact ⟨(h.sg x hx).1, by have := (h.sg x hx).2; omega⟩
    · exact hn
theorem set_getD {α : Type} (l : List α) (i : Nat) (d : α) (h : i < l.length) : l.set i (l.getD i d) = l := set_same (getElem?_of_lt d h)

theorem signal_rel {N : Nat} {S : St} {B : Bn} (h : Rel N S B) (hN : N < 1000000) (k : Int) : (B.signal k).1 = (S.signal k).1 ∧ Rel (N + 1) (S.signal k).2 (B.signal k).2 := by
  unfold St.signal Bn.signal
  rw [h.hasSem]
  by_cases hk : B.hasSem k = true
  · rw [if_pos hk, if_pos hk, h.semAt]
    obtain ⟨k1, k2⟩ := hasSem_lt hk
    have hwl := h.wl
    have hsg := h.sg _ (List.mem_of_getElem? (getElem?_of_lt 0 k2))
    cases e : B.waits.getD (k.toNat - 1) [] with
    | nil =>
      refine ⟨rfl, ?_⟩
      have hc := h.toCore.setSem (M := N + 1) k2 [] (B.signs.getD (k.toNat - 1) 0 + 1) (by omega) (by omega) List.nodup_nil (fun x hx => by cases hx)
      have e2 : B.waits.set (k.toNat - 1) [] = B.waits := set_same (by rw [getElem?_of_lt [] (by omega), e])
      rw [e2] at hc
      have e3 : min (B.signs.getD (k.toNat - 1) 0 + 1) 2147483647 = B.signs.getD (k.toNat - 1) 0 + 1 := by omega
      show Rel (N + 1) (S.setSem (k.toNat - 1) ([], min (B.signs.getD (k.toNat - 1) 0 + 1) 2147483647)) { B with signs := B.signs.set (k.toNat - 1) (B.signs.getD (k.toNat - 1) 0 + 1) }
      rw [e3]
      exact ⟨hc, h.ac, h.a2, h.u2, h.od⟩
    | cons p l =>
      refine ⟨rfl, ?_⟩
      obtain ⟨⟨p1, p2⟩, p3, p4⟩ := h.mw (k.toNat - 1) p (by rw [e]; simp)
      have hnd := h.nw (k.toNat - 1)
      rw [e] at hnd
      have hc := h.toCore.setSem (M := N + 1) k2 l (B.signs.getD (k.toNat - 1) 0) (by omega) (by omega) (List.nodup_cons.1 hnd).2 (fun x hx => h.mw _ x (by rw [e]; exact List.mem_cons_of_mem _ hx))
      rw [set_getD _ _ _ k2] at hc
      have hR : Rel (N + 1) (S.setSem (k.toNat - 1) (l, B.signs.getD (k.toNat - 1) 0)) { B with waits := B.waits.set (k.toNat - 1) l } := ⟨hc, h.ac, h.a2, h.u2, h.od⟩
      refine wakes_rel hR p1 p2 (fun i hi => ?_) (fun j hj => ?_) ?_
      · have := (h.mr i p hi).2.1; omega
      · have hj' : p ∈ (B.waits.set (k.toNat - 1) l).getD j [] := hj
        rw [getD_set _ _ _ _ _ (by omega)] at hj'
        by_cases ej : j = k.toNat - 1
        · rw [if_pos ej] at hj'; exact (List.nodup_cons.1 hnd).1 hj'
        · rw [if_neg ej] at hj'
          have := (h.mw j p hj').2.2
          omega
      · show (B.at_ p).state ≠ 2
        omega
  · rw [if_neg hk, if_neg hk]; exact ⟨rfl, h.mono (by omega)⟩

theorem wait_rel {N : Nat} {S : St} {B : Bn} (h : Rel N S B) (k : Int) : (B.wait k).1 = (S.wait k).1 ∧ Rel N (S.wait k).2 (B.wait k).2 := by
  unfold St.wait Bn.wait
  rw [h.hasSem]
  by_cases hk : B.hasSem k = true
  · rw [if_pos hk, if_pos hk, h.semAt, ← h.ac]
    obtain ⟨k1, k2⟩ := hasSem_lt hk
    have hwl := h.wl
    have hsg := h.sg _ (List.mem_of_getElem? (getElem?_of_lt 0 k2))
    dsimp only
    by_cases ha : B.active = 0
    · rw [if_pos ha, if_pos ha]; exact ⟨rfl, h⟩
    · rw [if_neg ha, if_neg ha]
      have ha2 := h.a2
      have hu2 := h.u2
      rw [← h.ac] at ha2 hu2
      obtain ⟨⟨c1, c2⟩, c3⟩ := ha2 ha
      by_cases hs : B.signs.getD (k.toNat - 1) 0 > 0
      · rw [if_pos hs, if_pos hs]
        refine ⟨rfl, ?_⟩
        have hc := h.toCore.setSem (M := N) k2 (B.waits.getD (k.toNat - 1) []) (B.signs.getD (k.toNat - 1) 0 - 1) (by omega) (by omega) (h.nw _) (fun x hx => h.mw _ x hx)
        rw [set_getD _ _ _ (by omega)] at hc
        exact ⟨hc, h.ac, h.a2, h.u2, h.od⟩
      · rw [if_neg hs, if_neg hs]
        refine ⟨rfl, ?_⟩
        have hnr : ∀ i, B.active ∉ B.ready i := fun i hi => by have := (h.mr i _ hi).2.1; omega
        have hnw : ∀ j : Nat, B.active ∉ B.waits.getD j [] := fun j hj => by have := (h.mw j _ hj).2.1; omega
        have hp := h.toCore.put (x := ⟨(B.at_ B.active).prior, 3, k⟩) c1 c2 rfl hnr (fun j hj => absurd hj (hnw j))
        dsimp only at hp
        rw [idle_put h.toCore c1 c2 (by rw [c3]; rfl)] at hp
        have hc := hp.setSem (M := N) (j := k.toNat - 1) k2 (B.waits.getD (k.toNat - 1) [] ++ [B.active]) (B.signs.getD (k.toNat - 1) 0) (by omega) (by omega)
          (List.nodup_append.2 ⟨h.nw _, by simp, fun a ha' b hb => by
            obtain rfl : b = B.active := by simpa using hb
            rintro rfl; exact hnw _ ha'⟩)
          (fun x hx => by
            rcases List.mem_append.1 hx with hx | hx
            · exact hp.mw _ x hx
            · obtain rfl : x = B.active := by simpa using hx
              rw [at_put_same _ c1 c2]
              exact ⟨⟨c1, by simpa [Bn.put] using c2⟩, rfl, by show k = _; omega⟩)
        have e2 : (B.put B.active ⟨(B.at_ B.active).prior, 3, k⟩).signs.set (k.toNat - 1) (B.signs.getD (k.toNat - 1) 0) = B.signs := set_getD _ _ _ k2
        rw [e2] at hc
        refine next_rel hc fun j a b e => ?_
        have e' : ((B.put B.active ⟨(B.at_ B.active).prior, 3, k⟩).at_ j).state = 2 := e
        by_cases ej : j = B.active
        · subst ej
          rw [at_put_same _ c1 c2] at e'
          simp at e'
        · rw [at_put_ne _ c1 a ej] at e'
          exact ej (hu2 j a (by simpa [Bn.put] using b) e')
  · rw [if_neg hk, if_neg hk]; exact ⟨rfl, h⟩

theorem put_nextFrom {p : Int} {z : Pr} (hp : 1 ≤ p) : ∀ (i : Nat) (B : Bn), (∀ i, p ∉ B.ready i) → (∀ i, ∀ k ∈ B.ready i, 1 ≤ k) → (B.put p z).nextFrom i = (B.nextFrom i).put p z
  | 0, _, _, _ => rfl
  | i + 1, B, hr, hk => by
    show (match B.ready (i + 1) with | [] => Bn.nextFrom i (B.put p z) | k :: t => _ : Bn) = Bn.put (match B.ready (i + 1) with | [] => Bn.nextFrom i B | k :: t => _ : Bn) p z
    cases e : B.ready (i + 1) with
    | nil => exact put_nextFrom hp i B hr hk
    | cons k t =>
      have k1 := hk (i + 1) k (by rw [e]; simp)
      have kp : k ≠ p := fun x => hr (i + 1) (by rw [e, x]; simp)
      show (Bn.put _ k ⟨((B.put p z).at_ k).prior, 2, ((B.put p z).at_ k).sem⟩) = _
      rw [at_put_ne z hp k1 kp]
      unfold Bn.put Bn.rdy
      dsimp only
      rw [List.set_comm _ _ (by omega)]

theorem without_self {l : List Int} {p : Int} (h : p ∉ l) : without l p = l := by
  unfold Bn.without
  exact List.filter_eq_self.2 fun x hx => by simp; rintro rfl; exact h hx
theorem not_mem_without (l : List Int) (p : Int) : p ∉ without l p := by unfold Bn.without; simp
theorem getD_map_without (L : List (List Int)) (p : Int) (j : Nat) : (L.map fun l => without l p).getD j [] = without (L.getD j []) p := by
  simp only [List.getD_eq_getElem?_getD, List.getElem?_map]
  cases L[j]? <;> rfl

theorem Core.drop {N : Nat} {S : St} {B : Bn} (h : Core N S B) (p : Int) :
    Core N { S with ready := upd S.ready (S.prio p).toNat ((S.ready (S.prio p).toNat).erase p), sems := S.sems.map fun s => (s.1.erase p, s.2) }
      { B with ready := upd B.ready (B.at_ p).prior.toNat (without (B.ready (B.at_ p).prior.toNat) p), waits := B.waits.map fun l => without l p } := by
  refine ⟨h.pr, h.id, ?_, ?_, ?_, h.pp, fun i k hk => ?_, fun j k hk => ?_, fun i => ?_, fun j => ?_, h.sg⟩
  · show upd B.ready _ _ = upd S.ready _ _
    rw [← h.rd, h.prio, (h.nr _).erase_eq_filter]; rfl
  · show (B.waits.map fun l => without l p) = (S.sems.map fun s => (s.1.erase p, s.2)).map Prod.fst
    rw [h.sw, List.map_map, List.map_map]
    refine List.map_congr_left fun s hs => ?_
    obtain ⟨j, hj, e⟩ := List.getElem_of_mem hs
    have := h.nw j
    have e2 : B.waits.getD j [] = s.1 := by rw [h.sw, List.getD_eq_getElem?_getD, List.getElem?_map, List.getElem?_eq_getElem hj, e]; rfl
    rw [e2] at this
    show without s.1 p = s.1.erase p
    rw [this.erase_eq_filter]; rfl
  · show B.signs = (S.sems.map fun s => (s.1.erase p, s.2)).map Prod.snd
    rw [h.ss, List.map_map]; rfl
  · have hk' : k ∈ upd B.ready (B.at_ p).prior.toNat (without (B.ready (B.at_ p).prior.toNat) p) i := hk
    by_cases e : i = (B.at_ p).prior.toNat
    · subst e
      rw [upd_same] at hk'
      exact h.mr _ k (List.mem_filter.1 hk').1
    · rw [upd_ne _ _ e] at hk'; exact h.mr _ k hk'
  · have hk' : k ∈ (B.waits.map fun l => without l p).getD j [] := hk
    rw [getD_map_without] at hk'
    exact h.mw _ k (List.mem_filter.1 hk').1
  · show (upd B.ready (B.at_ p).prior.toNat (without (B.ready (B.at_ p).prior.toNat) p) i).Nodup
    by_cases e : i = (B.at_ p).prior.toNat
    · subst e; rw [upd_same]; exact (h.nr _).filter _
    · rw [upd_ne _ _ e]; exact h.nr i
  · show ((B.waits.map fun l => without l p).getD j []).Nodup
    rw [getD_map_without]; exact (h.nw j).filter _

theorem leave_eq {N : Nat} {S : St} {B : Bn} (h : Core N S B) {p : Int} (h2 : (B.at_ p).state ≠ 2) :
    B.leave p = { B with ready := upd B.ready (B.at_ p).prior.toNat (without (B.ready (B.at_ p).prior.toNat) p), waits := B.waits.map fun l => without l p } := by
  have hw1 : (B.at_ p).state ≠ 3 → (B.waits.map fun l => without l p) = B.waits := fun h3 => by
    refine (List.map_congr_left fun l hl => ?_).trans (List.map_id _)
    obtain ⟨j, hj, e⟩ := List.getElem_of_mem hl
    refine without_self fun hp => h3 (h.mw j p ?_).2.1
    rw [List.getD_eq_getElem?_getD, List.getElem?_eq_getElem hj, e]; exact hp
  have hr1 : (B.at_ p).state ≠ 1 → upd B.ready (B.at_ p).prior.toNat (without (B.ready (B.at_ p).prior.toNat) p) = B.ready := fun h3 =>
    upd_id (without_self fun hp => h3 (h.mr _ p hp).2.1).symm
  unfold Bn.leave
  by_cases s1 : (B.at_ p).state = 1
  · rw [if_pos s1, hw1 (by omega)]; rfl
  · rw [if_neg s1, if_neg h2, hr1 s1]
    by_cases s3 : (B.at_ p).state = 3
    · rw [if_pos s3]
      have : B.waits.set ((B.at_ p).sem.toNat - 1) (without (B.waits.getD ((B.at_ p).sem.toNat - 1) []) p) = B.waits.map fun l => without l p := by
        apply List.ext_getElem?
        intro j
        rw [List.getElem?_map]
        by_cases hj : j < B.waits.length
        · by_cases e : j = (B.at_ p).sem.toNat - 1
          · subst e
            rw [List.getElem?_set_self hj, List.getElem?_eq_getElem hj, List.getD_eq_getElem?_getD, List.getElem?_eq_getElem hj]; rfl
          · rw [List.getElem?_set_ne (Ne.symm e), List.getElem?_eq_getElem hj]
            show _ = some (without _ p)
            rw [without_self]
            intro hp
            have := (h.mw j p (by rw [List.getD_eq_getElem?_getD, List.getElem?_eq_getElem hj]; exact hp)).2.2
            omega
        · rw [List.getElem?_eq_none (by simp; omega), List.getElem?_eq_none (by omega)]; rfl
      rw [this]
    · rw [if_neg s3, hw1 s3]

theorem suspend_rel {N : Nat} {S : St} {B : Bn} (h : Rel N S B) (p : Int) : (B.suspend p).1 = (S.suspend p).1 ∧ Rel N (S.suspend p).2 (B.suspend p).2 := by
  unfold St.suspend Bn.suspend
  rw [h.has]
  by_cases ht : B.there p = true
  · rw [if_pos ht, if_pos ht]
    simp only [Bn.there, Bool.and_eq_true, decide_eq_true_eq] at ht
    rw [h.isIdle ht.1 ht.2]
    by_cases hs : (B.at_ p).state = 0
    · rw [if_pos hs, if_pos (by simpa using hs)]; exact ⟨rfl, h⟩
    · rw [if_neg hs, if_neg (by simpa using hs)]
      dsimp only
      by_cases ha : S.active = p
      · rw [if_pos ha]
        refine ⟨rfl, ?_⟩
        have a2 := (h.a2 (by omega)).2
        rw [ha] at a2
        have hl : B.leave p = B.next := by unfold Bn.leave; rw [if_neg (by omega), if_pos a2]
        have hr : ∀ i, p ∉ B.ready i := fun i hi => by have := (h.mr i _ hi).2.1; omega
        have hp := h.toCore.put (x := ⟨(B.at_ p).prior, 0, 0⟩) ht.1 ht.2 rfl hr (fun j hj => by have := (h.mw j _ hj).2.1; omega)
        have hc : B.next.put p ⟨(B.at_ p).prior, 0, 0⟩ = (B.put p ⟨(B.at_ p).prior, 0, 0⟩).next := (put_nextFrom (z := ⟨(B.at_ p).prior, 0, 0⟩) ht.1 8 { B with active := 0 } hr (fun i k hk => (h.mr i k hk).1.1)).symm
        show Rel N (St.next _) ((B.leave p).put p ⟨(B.at_ p).prior, 0, 0⟩)
        rw [hl, hc]
        refine next_rel hp fun j a b e => ?_
        by_cases ej : j = p
        · subst ej; rw [at_put_same _ ht.1 ht.2] at e; simp at e
        · rw [at_put_ne _ ht.1 a ej] at e
          have := h.u2 j a (by simpa [Bn.put] using b) e
          omega
      · rw [if_neg ha]
        refine ⟨rfl, ?_⟩
        have s2 : (B.at_ p).state ≠ 2 := fun e => ha (h.u2 p ht.1 ht.2 e).symm
        have hd := h.toCore.drop p
        have hnr : ∀ i, p ∉ upd B.ready (B.at_ p).prior.toNat (without (B.ready (B.at_ p).prior.toNat) p) i := fun i hi => by
          by_cases e : i = (B.at_ p).prior.toNat
          · subst e; rw [upd_same] at hi; exact not_mem_without _ _ hi
          · rw [upd_ne _ _ e] at hi
            exact e (h.mr _ p hi).2.2.symm
        have hp := hd.put (k := p) (x := ⟨(B.at_ p).prior, 0, 0⟩) ht.1 ht.2 rfl hnr (fun j hj => by
          have hj' : p ∈ (B.waits.map fun l => without l p).getD j [] := hj
          rw [getD_map_without] at hj'
          exact absurd hj' (not_mem_without _ _))
        show Rel N _ ((B.leave p).put p ⟨(B.at_ p).prior, 0, 0⟩)
        rw [leave_eq h.toCore s2]
        refine ⟨hp, h.ac, fun hne => ?_, fun j a b e => ?_, fun i hne => ?_⟩
        · obtain ⟨⟨c1, c2⟩, c3⟩ := h.a2 hne
          refine ⟨⟨c1, by show S.active ≤ ((B.l.set (p.toNat - 1) _).length : Nat); rw [List.length_set]; exact c2⟩, ?_⟩
          show (Bn.at_ _ S.active).state = 2
          rw [at_put_ne _ ht.1 c1 ha]
          exact c3
        · by_cases ej : j = p
          · subst ej; rw [at_put_same _ ht.1 (by exact ht.2)] at e; simp at e
          · rw [at_put_ne _ ht.1 a ej] at e
            exact h.u2 j a (by simpa [Bn.put] using b) e
        · have hne' : upd B.ready (B.at_ p).prior.toNat (without (B.ready (B.at_ p).prior.toNat) p) i ≠ [] := hne
          refine h.od i ?_
          by_cases e : i = (B.at_ p).prior.toNat
          · subst e
            rw [upd_same] at hne'
            intro x
            rw [x] at hne'
            exact hne' rfl
          · rw [upd_ne _ _ e] at hne'; exact hne'
  · rw [if_neg ht, if_neg ht]; exact ⟨rfl, h⟩

theorem at_app {B : Bn} {x : Pr} {k : Int} (h1 : 1 ≤ k) (h2 : k ≤ B.l.length) : ({ B with l := B.l ++ [x] } : Bn).at_ k = B.at_ k := by
  unfold Bn.at_
  simp only [List.getD_eq_getElem?_getD]
  rw [List.getElem?_append_left (by omega)]

theorem spawn_rel {N : Nat} {S : St} {B : Bn} (h : Rel N S B) (p : Int) : (B.spawn p).1 = (S.spawn p).1 ∧ Rel N (S.spawn p).2 (B.spawn p).2 := by
  unfold St.spawn Bn.spawn
  have hl : S.prior.length = B.l.length := by rw [h.pr]; simp
  rw [hl]
  by_cases hp : p < 1 ∨ p > 8
  · rw [if_pos hp, if_pos hp]; exact ⟨rfl, h⟩
  · rw [if_neg hp, if_neg hp]
    by_cases h100 : B.l.length = 100
    · rw [if_pos h100, if_pos h100]; exact ⟨rfl, h⟩
    · rw [if_neg h100, if_neg h100]
      refine ⟨rfl, ⟨⟨by simp [h.pr], by simp [h.id], h.rd, h.sw, h.ss, fun x hx => ?_, fun i k hk => ?_, fun j k hk => ?_, h.nr, h.nw, h.sg⟩, h.ac, fun hne => ?_, fun k a b e => ?_, fun i hne => ?_⟩⟩
      · rcases List.mem_append.1 hx with hx | hx
        · exact h.pp x hx
        · obtain rfl : x = _ := by simpa using hx
          show 1 ≤ p ∧ p ≤ 8
          omega
      · obtain ⟨⟨a, b⟩, c⟩ := h.mr i k hk
        rw [at_app a b]
        exact ⟨⟨a, by simp; omega⟩, c⟩
      · obtain ⟨⟨a, b⟩, c⟩ := h.mw j k hk
        rw [at_app a b]
        exact ⟨⟨a, by simp; omega⟩, c⟩
      · obtain ⟨⟨a, b⟩, c⟩ := h.a2 hne
        refine ⟨⟨a, by simp; omega⟩, ?_⟩
        show (Bn.at_ _ S.active).state = 2
        rw [at_app a b]; exact c
      · have b' : k ≤ (B.l ++ [(⟨p, 0, 0⟩ : Pr)]).length := b
        simp at b'
        by_cases e2 : k ≤ B.l.length
        · rw [at_app a e2] at e; exact h.u2 k a e2 e
        · exfalso
          have : k.toNat - 1 = B.l.length := by omega
          unfold Bn.at_ at e
          simp only [List.getD_eq_getElem?_getD] at e
          rw [this] at e
          simp at e
      · obtain ⟨c1, c2⟩ := h.od i hne
        refine ⟨c1, ?_⟩
        have : (St.prio { S with prior := S.prior ++ [p], idle := S.idle ++ [true] } S.active) = S.prio S.active := by
          obtain ⟨⟨a, b⟩, _⟩ := h.a2 c1
          unfold St.prio
          simp only [List.getD_eq_getElem?_getD]
          rw [List.getElem?_append_left (by omega)]
        show i ≤ (St.prio { S with prior := S.prior ++ [p], idle := S.idle ++ [true] } S.active).toNat
        rw [this]; exact c2

theorem sem_rel {N : Nat} {S : St} {B : Bn} (h : Rel N S B) : B.sem.1 = S.sem.1 ∧ Rel N S.sem.2 B.sem.2 := by
  unfold St.sem Bn.sem
  have hl : S.sems.length = B.signs.length := by rw [h.ss]; simp
  rw [hl]
  have hnil : ∀ j, (B.waits ++ [([] : List Int)]).getD j [] = B.waits.getD j [] := fun j => by
    simp only [List.getD_eq_getElem?_getD]
    rcases Nat.lt_trichotomy j B.waits.length with e | e | e
    · rw [List.getElem?_append_left e]
    · subst e; rw [List.getElem?_append_right (Nat.le_refl _), List.getElem?_eq_none (Nat.le_refl _)]; simp
    · rw [List.getElem?_eq_none (by simp; omega), List.getElem?_eq_none (by omega)]
  by_cases h100 : B.signs.length = 100
  · rw [if_pos h100, if_pos h100]; exact ⟨rfl, h⟩
  · rw [if_neg h100, if_neg h100]
    refine ⟨rfl, ⟨⟨h.pr, h.id, h.rd, by simp [h.sw], by simp [h.ss], h.pp, h.mr, fun j k hk => ?_, h.nr, fun j => ?_, fun n hn => ?_⟩, h.ac, h.a2, h.u2, h.od⟩⟩
    · have hk' : k ∈ (B.waits ++ [([] : List Int)]).getD j [] := hk
      rw [hnil] at hk'
      exact h.mw j k hk'
    · show ((B.waits ++ [([] : List Int)]).getD j []).Nodup
      rw [hnil]; exact h.nw j
    · rcases List.mem_append.1 hn with hn | hn
      · exact h.sg n hn
      · obtain rfl : n = 0 := by simpa using hn
        exact ⟨by omega, by omega⟩

theorem Rel.does {N : Nat} {S : St} {B : Bn} (h : Rel N S B) (hN : N < 1000000) (d : Deed) : (B.does d).1 = (S.done d).1 ∧ Rel (N + 1) (S.done d).2 (B.does d).2 := by
  unfold St.done Bn.does
  split
  · exact ⟨(spawn_rel h _).1, (spawn_rel h _).2.mono (by omega)⟩
  · split
    · exact ⟨by rw [(resume1_rel h _).1], (resume1_rel h _).2.mono (by omega)⟩
    · split
      · exact ⟨by rw [(resume2_rel h _ _).1], (resume2_rel h _ _).2.mono (by omega)⟩
      · split
        · exact ⟨by rw [(suspend_rel h _).1], (suspend_rel h _).2.mono (by omega)⟩
        · split
          · exact ⟨by rw [(yield_rel h).1], (yield_rel h).2.mono (by omega)⟩
          · split
            · exact ⟨by rw [(signal_rel h hN _).1], (signal_rel h hN _).2⟩
            · split
              · exact ⟨by rw [(wait_rel h _).1], (wait_rel h _).2.mono (by omega)⟩
              · exact ⟨(sem_rel h).1, (sem_rel h).2.mono (by omega)⟩
theorem Rel.new : Rel 0 St.new Bn.new := by
  refine ⟨⟨rfl, rfl, rfl, rfl, rfl, (fun x hx => nomatch hx), (fun i k hk => nomatch hk), (fun j k hk => by simp [Bn.new] at hk), (fun i => List.nodup_nil), (fun j => by simp [Bn.new]), (fun n hn => nomatch hn)⟩, rfl, fun h => absurd rfl h, fun k a b => ?_, fun i hi => absurd rfl hi⟩
  simp [Bn.new] at b
  omega
end Ben
end Go.Proofs.YtlfbommppenlcaaGreatDoor
