/- Two schedulers whose priorities are in one order tell the same, step by step. No program here. Conditions: priorities from 1 to 7 on the first one. -/
import Derived.Test.YtlfbommppenlcaaGreatDoorP0
namespace Go.Proofs.YtlfbommppenlcaaGreatDoor

/-- A deed. -/
structure Deed where
  kind : Int
  a : Int
  b : Int

def St.done (S : St) (d : Deed) : (Int × Int) × St :=
  if d.kind = 0 then S.spawn d.a
  else if d.kind = 1 then ((0, (S.resume [d.a]).1), (S.resume [d.a]).2)
  else if d.kind = 2 then ((0, (S.resume [d.a, d.b]).1), (S.resume [d.a, d.b]).2)
  else if d.kind = 3 then ((0, (S.suspend d.a).1), (S.suspend d.a).2)
  else if d.kind = 4 then ((0, S.yield.1), S.yield.2)
  else if d.kind = 5 then ((0, (S.signal d.b).1), (S.signal d.b).2)
  else if d.kind = 6 then ((0, (S.wait d.b).1), (S.wait d.b).2)
  else S.sem

namespace Pri
open St
def raise (at_ p : Int) : Int := if p > at_ then p + 1 else p
def rz (c i : Nat) : Nat := if i > c then i + 1 else i
/-- The other one's queues. -/
def rd (c : Nat) (f : Nat → List Int) : Nat → List Int := fun q => if q ≤ c then f q else if q = c + 1 then [] else f (q - 1)
theorem rd_rz (c : Nat) (f : Nat → List Int) (i : Nat) : rd c f (rz c i) = f i := by
  unfold rd rz; split
  · rw [if_neg (by omega), if_neg (by omega)]; rfl
  · rw [if_pos (by omega)]
theorem rd_gap (c : Nat) (f : Nat → List Int) : rd c f (c + 1) = [] := by unfold rd; rw [if_neg (by omega), if_pos rfl]
theorem rd_upd (c : Nat) (f : Nat → List Int) (i : Nat) (l : List Int) : rd c (upd f i l) = upd (rd c f) (rz c i) l := by
  funext q
  unfold rd upd rz
  dsimp only
  by_cases h1 : i > c
  · rw [if_pos h1]
    by_cases h2 : q ≤ c
    · rw [if_pos h2, if_neg (show ¬ q = i by omega), if_neg (show ¬ q = i + 1 by omega), if_pos h2]
    · rw [if_neg h2]
      by_cases h3 : q = c + 1
      · rw [if_pos h3, if_neg (show ¬ q = i + 1 by omega), if_neg h2, if_pos h3]
      · rw [if_neg h3]
        by_cases h4 : q = i + 1
        · rw [if_pos (show q - 1 = i by omega), if_pos h4]
        · rw [if_neg (show ¬ q - 1 = i by omega), if_neg h4, if_neg h2, if_neg h3]
  · rw [if_neg h1]
    by_cases h2 : q ≤ c
    · rw [if_pos h2]
      by_cases h4 : q = i
      · rw [if_pos h4, if_pos h4]
      · rw [if_neg h4, if_neg h4, if_pos h2]
    · rw [if_neg h2]
      by_cases h3 : q = c + 1
      · rw [if_pos h3, if_neg (show ¬ q = i by omega), if_neg h2, if_pos h3]
      · rw [if_neg h3, if_neg (show ¬ q - 1 = i by omega), if_neg (show ¬ q = i by omega), if_neg h2, if_neg h3]

structure Rel (c : Nat) (S T : St) : Prop where
  c1 : 1 ≤ c
  c7 : c ≤ 7
  prior : T.prior = S.prior.map (raise c)
  low : ∀ x ∈ S.prior, 1 ≤ x ∧ x ≤ 7
  idle : T.idle = S.idle
  sems : T.sems = S.sems
  active : T.active = S.active
  ready : T.ready = rd c S.ready
  top : ∀ q, 8 ≤ q → S.ready q = []

theorem Rel.plen {c : Nat} {S T : St} (h : Rel c S T) : T.prior.length = S.prior.length := by rw [h.prior]; simp
theorem Rel.has {c : Nat} {S T : St} (h : Rel c S T) (p : Int) : T.has p = S.has p := by unfold St.has; rw [h.plen]
theorem Rel.isIdle {c : Nat} {S T : St} (h : Rel c S T) (p : Int) : T.isIdle p = S.isIdle p := by unfold St.isIdle; rw [h.idle]
theorem has_bd {S : St} {p : Int} (h : S.has p = true) : 1 ≤ p ∧ p ≤ S.prior.length := by simpa [St.has] using h
theorem Rel.prio {c : Nat} {S T : St} (h : Rel c S T) {p : Int} (h1 : 1 ≤ p) (h2 : p ≤ S.prior.length) : T.prio p = raise c (S.prio p) ∧ 1 ≤ S.prio p ∧ S.prio p ≤ 7 := by
  have hl : p.toNat - 1 < S.prior.length := by omega
  unfold St.prio
  rw [h.prior]
  simp only [List.getD_eq_getElem?_getD, List.getElem?_map, List.getElem?_eq_getElem hl, Option.map_some, Option.getD_some]
  exact ⟨trivial, h.low _ (List.getElem_mem hl)⟩
theorem raise_nat {c : Nat} {x : Int} (h1 : 1 ≤ x) : (raise c x).toNat = rz c x.toNat := by
  unfold raise rz; split <;> split <;> omega
theorem raise_lt {c : Int} {x y : Int} : raise c x > raise c y ↔ x > y := by
  unfold raise; split <;> split <;> omega

theorem Rel.setAct {c : Nat} {S T : St} (h : Rel c S T) (a : Int) : Rel c { S with active := a } { T with active := a } :=
  ⟨h.c1, h.c7, h.prior, h.low, h.idle, h.sems, rfl, h.ready, h.top⟩
theorem Rel.setIdle {c : Nat} {S T : St} (h : Rel c S T) (i : Nat) (b : Bool) : Rel c { S with idle := S.idle.set i b } { T with idle := T.idle.set i b } :=
  ⟨h.c1, h.c7, h.prior, h.low, by show T.idle.set i b = S.idle.set i b; rw [h.idle], h.sems, h.active, h.ready, h.top⟩
theorem Rel.setReady {c : Nat} {S T : St} (h : Rel c S T) {i : Nat} (l : List Int) (hi : i < 8) : Rel c { S with ready := upd S.ready i l } { T with ready := upd T.ready (rz c i) l } :=
  ⟨h.c1, h.c7, h.prior, h.low, h.idle, h.sems, h.active, by show upd T.ready _ l = rd c (upd S.ready i l); rw [rd_upd, h.ready], fun q hq => by
    show upd S.ready i l q = []; rw [upd_ne _ _ (by omega)]; exact h.top q hq⟩
theorem Rel.at_ {c : Nat} {S T : St} (h : Rel c S T) (i : Nat) : T.ready (rz c i) = S.ready i := by rw [h.ready, rd_rz]
theorem Rel.push {c : Nat} {S T : St} (h : Rel c S T) {i : Nat} (p : Int) (hi : i < 8) : Rel c (S.push i p) (T.push (rz c i) p) := by
  have := h.setReady (i := i) (S.ready i ++ [p]) hi
  unfold St.push; rw [h.at_]; exact this
theorem Rel.pull {c : Nat} {S T : St} (h : Rel c S T) {i : Nat} (p : Int) (hi : i < 8) : Rel c (S.pull i p) (T.pull (rz c i) p) := by
  have := h.setReady (i := i) ((S.ready i).erase p) hi
  unfold St.pull; rw [h.at_]; exact this

/-- An empty queue is passed over. -/
theorem upd_nil (f : Nat → List Int) (i : Nat) (h : f i = []) : upd f i ([] : List Int) = f := by funext j; unfold upd; split <;> simp_all
theorem nextFrom_empty (S : St) (i : Nat) (h : S.ready (i + 1) = []) : S.nextFrom (i + 1) = S.nextFrom i := by
  show (if S.active = 0 then _ else S) = _
  by_cases ha : S.active = 0
  · rw [if_pos ha]
    have e : ({ S with active := (S.ready (i + 1)).headD 0, ready := upd S.ready (i + 1) (S.ready (i + 1)).tail } : St) = S := by
      cases S
      simp only at h ha ⊢
      rw [h]
      simp only [List.headD_nil, List.tail_nil]
      rw [upd_nil _ _ h, ha]
    rw [e]
  · rw [if_neg ha]
    cases i with
    | zero => rfl
    | succ i => show S = (if S.active = 0 then _ else S); rw [if_neg ha]
theorem nextFrom_act (S : St) (i : Nat) (ha : S.active ≠ 0) : S.nextFrom i = S := by
  cases i with
  | zero => rfl
  | succ i => show (if S.active = 0 then _ else S) = S; rw [if_neg ha]
theorem Rel.nextFrom {c : Nat} : ∀ (i : Nat) {S T : St}, Rel c S T → i < 8 → Rel c (S.nextFrom i) (T.nextFrom (rz c i))
  | 0, S, T, h, _ => by
    have : rz c 0 = 0 := by unfold rz; rw [if_neg (by omega)]
    rw [this]; exact h
  | i + 1, S, T, h, hi => by
    by_cases ha : S.active = 0
    · have hs : S.nextFrom (i + 1) = ({ S with active := (S.ready (i + 1)).headD 0, ready := upd S.ready (i + 1) (S.ready (i + 1)).tail } : St).nextFrom i := by
        show (if S.active = 0 then _ else S) = _; rw [if_pos ha]
      have hR := (h.setReady (i := i + 1) (S.ready (i + 1)).tail hi).setAct ((S.ready (i + 1)).headD 0)
      have hT : T.nextFrom (rz c (i + 1)) = ({ T with active := (S.ready (i + 1)).headD 0, ready := upd T.ready (rz c (i + 1)) (S.ready (i + 1)).tail } : St).nextFrom (rz c (i + 1) - 1) := by
        obtain ⟨j, hj⟩ : ∃ j, rz c (i + 1) = j + 1 := ⟨rz c (i + 1) - 1, by unfold rz; split <;> omega⟩
        have hat := h.at_ (i + 1)
        rw [hj] at hat ⊢
        show (if T.active = 0 then _ else T) = _
        rw [if_pos (by rw [h.active]; exact ha), hat]; rfl
      rw [hs, hT]
      have ih := Rel.nextFrom i hR (by omega)
      by_cases hc : i + 1 = c + 1
      · -- the gap
        have e1 : rz c (i + 1) - 1 = c + 1 := by unfold rz; rw [if_pos (by omega)]; omega
        have e2 : rz c i = c := by unfold rz; rw [if_neg (by omega)]; omega
        rw [e1]
        rw [e2] at ih
        rw [nextFrom_empty]
        · exact ih
        · have := hR.ready
          dsimp only at this ⊢
          rw [this, rd_gap]
      · have e1 : rz c (i + 1) - 1 = rz c i := by
          unfold rz
          by_cases hx : i + 1 > c
          · rw [if_pos hx, if_pos (by omega)]; omega
          · rw [if_neg hx, if_neg (by omega)]; omega
        rw [e1]
        exact ih
    · rw [nextFrom_act S _ ha, nextFrom_act T _ (by rw [h.active]; exact ha)]
      exact h
theorem Rel.next {c : Nat} {S T : St} (h : Rel c S T) : Rel c S.next T.next := by
  have h0 := h.setAct 0
  unfold St.next
  have e8 : ({ S with active := 0 } : St).nextFrom 8 = ({ S with active := 0 } : St).nextFrom 7 := nextFrom_empty _ 7 (h.top 8 (by omega))
  rw [e8]
  have := h0.nextFrom 7 (by omega)
  by_cases hc : c = 7
  · have e : rz c 7 = 7 := by unfold rz; rw [if_neg (by omega)]
    rw [e] at this
    have e9 : ({ T with active := 0 } : St).nextFrom 8 = ({ T with active := 0 } : St).nextFrom 7 := nextFrom_empty _ 7 (by
      show T.ready 8 = []
      rw [h.ready]
      have := rd_gap c S.ready
      rw [hc] at this ⊢
      exact this)
    rw [e9]
    exact this
  · have e : rz c 7 = 8 := by unfold rz; rw [if_pos (by have := h.c7; omega)]
    rw [e] at this
    exact this

theorem Rel.make {c N : Nat} {S T : St} (h : Rel c S T) (hW : S.WF N) {p : Int} (h1 : 1 ≤ p) (h2 : p ≤ S.prior.length) : Rel c (S.make p) (T.make p) := by
  obtain ⟨ep, p1, p2⟩ := h.prio h1 h2
  have hn : (T.prio p).toNat = rz c (S.prio p).toNat := by rw [ep]; exact raise_nat p1
  have hS1 := (h.setIdle (p.toNat - 1) false).push (i := (S.prio p).toNat) p (by omega)
  unfold St.make
  dsimp only
  rw [h.active, hn]
  by_cases ha : S.active = 0
  · rw [if_pos ha, if_pos ha]
    exact (hS1.pull (i := (S.prio p).toNat) p (by omega)).setAct p
  · rw [if_neg ha, if_neg ha]
    have hac := hW.ac
    obtain ⟨eq, q1, q2⟩ := h.prio (p := S.active) (by omega) hac.2
    have hn2 : (T.prio S.active).toNat = rz c (S.prio S.active).toNat := by rw [eq]; exact raise_nat q1
    have hcmp : T.prio p > T.prio S.active ↔ S.prio p > S.prio S.active := by rw [ep, eq]; exact raise_lt
    by_cases hl : S.prio p > S.prio S.active
    · rw [if_pos hl, if_pos (hcmp.2 hl), hn2]
      exact ((hS1.push (i := (S.prio S.active).toNat) S.active (by omega)).pull (i := (S.prio p).toNat) p (by omega)).setAct p
    · rw [if_neg hl, if_neg (fun x => hl (hcmp.1 x))]
      rw [h.active] at hS1
      exact hS1
theorem Rel.makes {c : Nat} : ∀ (l : List Int) {N : Nat} {S T : St}, Rel c S T → S.WF N → (∀ p ∈ l, 1 ≤ p ∧ p ≤ S.prior.length) → Rel c (l.foldl St.make S) (l.foldl St.make T)
  | [], _, _, _, h, _, _ => h
  | p :: l, N, S, T, h, hW, hl => by
    have hp := hl p (by simp)
    exact Rel.makes l (h.make hW hp.1 hp.2) (hW.make hp.1 hp.2) (fun q hq => by simpa using hl q (by simp [hq]))
theorem Rel.fits {c : Nat} {S T : St} (h : Rel c S T) : ∀ (l before : List Int), T.fits before l = S.fits before l
  | [], _ => rfl
  | p :: l, before => by simp only [St.fits]; rw [h.isIdle, Rel.fits h l]
theorem Rel.resume {c N : Nat} {S T : St} (h : Rel c S T) (hW : S.WF N) (l : List Int) : (T.resume l).1 = (S.resume l).1 ∧ Rel c (S.resume l).2 (T.resume l).2 := by
  have e1 : l.all T.has = l.all S.has := by congr 1; funext p; exact h.has p
  unfold St.resume
  rw [e1, h.fits]
  split
  · rename_i ha
    split
    · exact ⟨rfl, h.makes l hW fun p hp => has_bd (List.all_eq_true.1 ha p hp)⟩
    · exact ⟨rfl, h⟩
  · exact ⟨rfl, h⟩
theorem Rel.suspend {c : Nat} {S T : St} (h : Rel c S T) (p : Int) : (T.suspend p).1 = (S.suspend p).1 ∧ Rel c (S.suspend p).2 (T.suspend p).2 := by
  unfold St.suspend
  rw [h.has, h.isIdle]
  by_cases hh : S.has p = true
  · rw [if_pos hh, if_pos hh]
    obtain ⟨h1, h2⟩ := has_bd hh
    obtain ⟨ep, p1, p2⟩ := h.prio h1 h2
    have hn : (T.prio p).toNat = rz c (S.prio p).toNat := by rw [ep]; exact raise_nat p1
    split
    · exact ⟨rfl, h⟩
    · dsimp only
      rw [h.active, hn, h.sems]
      have h3 := h.setIdle (p.toNat - 1) true
      rw [h.active, h.sems] at h3
      split
      · exact ⟨rfl, h3.next⟩
      · have h4 := h3.pull (i := (S.prio p).toNat) p (by omega)
        exact ⟨rfl, ⟨h4.c1, h4.c7, h4.prior, h4.low, h4.idle, rfl, h4.active, h4.ready, h4.top⟩⟩
  · rw [if_neg hh, if_neg hh]
    exact ⟨rfl, h⟩
theorem Rel.yield {c N : Nat} {S T : St} (h : Rel c S T) (hW : S.WF N) : T.yield.1 = S.yield.1 ∧ Rel c S.yield.2 T.yield.2 := by
  unfold St.yield
  rw [h.active]
  split
  · exact ⟨rfl, h⟩
  · rename_i ha
    have hac := hW.ac
    obtain ⟨eq, q1, q2⟩ := h.prio (p := S.active) (by omega) hac.2
    have hn2 : (T.prio S.active).toNat = rz c (S.prio S.active).toNat := by rw [eq]; exact raise_nat q1
    rw [hn2, h.at_]
    split
    · exact ⟨rfl, h⟩
    · exact ⟨rfl, (h.push (i := (S.prio S.active).toNat) S.active (by omega)).next⟩
theorem Rel.semAt {c : Nat} {S T : St} (h : Rel c S T) (k : Nat) : T.semAt k = S.semAt k := by unfold St.semAt; rw [h.sems]
theorem Rel.hasSem {c : Nat} {S T : St} (h : Rel c S T) (k : Int) : T.hasSem k = S.hasSem k := by unfold St.hasSem; rw [h.sems]
theorem Rel.setSem {c : Nat} {S T : St} (h : Rel c S T) (k : Nat) (s : List Int × Int) : Rel c (S.setSem k s) (T.setSem k s) :=
  ⟨h.c1, h.c7, h.prior, h.low, h.idle, by show T.sems.set k s = S.sems.set k s; rw [h.sems], h.active, h.ready, h.top⟩
theorem Rel.signal {c N : Nat} {S T : St} (h : Rel c S T) (hW : S.WF N) (k : Int) : (T.signal k).1 = (S.signal k).1 ∧ Rel c (S.signal k).2 (T.signal k).2 := by
  have hs := hW.semAt (k.toNat - 1)
  unfold St.signal
  rw [h.hasSem, h.semAt]
  split
  · split
    · rename_i p l n e
      rw [e] at hs
      have hp := hs.2.1 p (by simp)
      exact ⟨rfl, (h.setSem _ _).make (hW.setSem (s := (l, n)) ⟨by have := hs.1; simp at this; show l.length ≤ N; omega, fun q hq => hs.2.1 q (by simp [show q ∈ l from hq]), hs.2.2⟩) hp.1 hp.2⟩
    · exact ⟨rfl, h.setSem _ _⟩
  · exact ⟨rfl, h⟩
theorem Rel.wait {c : Nat} {S T : St} (h : Rel c S T) (k : Int) : (T.wait k).1 = (S.wait k).1 ∧ Rel c (S.wait k).2 (T.wait k).2 := by
  unfold St.wait
  rw [h.hasSem, h.semAt, h.active]
  split
  · split
    · exact ⟨rfl, h⟩
    · split
      · exact ⟨rfl, h.setSem _ _⟩
      · exact ⟨rfl, (h.setSem _ _).next⟩
  · exact ⟨rfl, h⟩
theorem Rel.sem {c : Nat} {S T : St} (h : Rel c S T) : T.sem.1 = S.sem.1 ∧ Rel c S.sem.2 T.sem.2 := by
  unfold St.sem
  rw [h.sems]
  split
  · exact ⟨rfl, h⟩
  · exact ⟨rfl, ⟨h.c1, h.c7, h.prior, h.low, h.idle, rfl, h.active, h.ready, h.top⟩⟩
theorem Rel.spawn {c : Nat} {S T : St} (h : Rel c S T) {p : Int} (hp : p = 0 ∨ 1 ≤ p ∧ p ≤ 7) : (T.spawn (if p = 0 then 0 else raise c p)).1 = (S.spawn p).1 ∧ Rel c (S.spawn p).2 (T.spawn (if p = 0 then 0 else raise c p)).2 := by
  unfold St.spawn
  rw [h.plen]
  rcases hp with rfl | ⟨h1, h2⟩
  · simp only [if_true]
    exact ⟨by simp, by simpa using h⟩
  · have hr : 1 ≤ raise c p ∧ raise c p ≤ 8 := by unfold raise; split <;> omega
    have g1 : ¬ (p < 1 ∨ p > 8) := by omega
    have g2 : ¬ (raise c p < 1 ∨ raise c p > 8) := by omega
    have g3 : ¬ p = 0 := by omega
    rw [if_neg g3, if_neg g2, if_neg g1]
    split
    · exact ⟨rfl, h⟩
    · refine ⟨rfl, ⟨h.c1, h.c7, ?_, ?_, ?_, h.sems, h.active, h.ready, h.top⟩⟩
      · show T.prior ++ [raise c p] = (S.prior ++ [p]).map (raise c)
        rw [h.prior]; simp
      · intro x hx
        rcases List.mem_append.1 hx with hx | hx
        · exact h.low x hx
        · simp at hx; subst hx; exact ⟨h1, h2⟩
      · show T.idle ++ [true] = S.idle ++ [true]; rw [h.idle]

/-- The deed as it is done to the first, and to the other. -/
def one (d : Deed) : Deed := if d.kind = 0 ∧ d.a > 0 then { d with a := 1 + d.a % 7 } else d
def two (c : Nat) (d : Deed) : Deed := if d.kind = 0 ∧ d.a > 0 then { d with a := raise c (1 + d.a % 7) } else d
theorem Rel.done {c N : Nat} {S T : St} (h : Rel c S T) (hW : S.WF N) (d : Deed) (hd : 0 ≤ d.a) : (T.done (two c d)).1 = (S.done (one d)).1 ∧ Rel c (S.done (one d)).2 (T.done (two c d)).2 := by
  by_cases h0 : d.kind = 0
  · have e1 : S.done (one d) = S.spawn (if d.a = 0 then 0 else 1 + d.a % 7) := by
      unfold one; split
      · rename_i x; unfold St.done; rw [if_pos h0, if_neg (by omega)]
      · rename_i x; unfold St.done; rw [if_pos h0, if_pos (by omega), show d.a = 0 by omega]
    have e2 : T.done (two c d) = T.spawn (if (if d.a = 0 then 0 else 1 + d.a % 7) = 0 then 0 else raise c (if d.a = 0 then 0 else 1 + d.a % 7)) := by
      unfold two; split
      · rename_i x; unfold St.done; rw [if_pos h0, if_neg (c := d.a = 0) (by omega), if_neg (by omega)]
      · rename_i x; unfold St.done; rw [if_pos h0, if_pos (c := d.a = 0) (by omega), if_pos rfl, show d.a = 0 by omega]
    rw [e1, e2]
    exact h.spawn (by split <;> omega)
  · have e1 : one d = d := by unfold one; rw [if_neg (fun x => h0 x.1)]
    have e2 : two c d = d := by unfold two; rw [if_neg (fun x => h0 x.1)]
    rw [e1, e2]
    unfold St.done
    rw [if_neg h0, if_neg h0]
    split
    · have := h.resume hW [d.a]; exact ⟨by rw [this.1], this.2⟩
    · split
      · have := h.resume hW [d.a, d.b]; exact ⟨by rw [this.1], this.2⟩
      · split
        · have := h.suspend d.a; exact ⟨by rw [this.1], this.2⟩
        · split
          · have := h.yield hW; exact ⟨by rw [this.1], this.2⟩
          · split
            · have := h.signal hW d.b; exact ⟨by rw [this.1], this.2⟩
            · split
              · have := h.wait d.b; exact ⟨by rw [this.1], this.2⟩
              · exact h.sem
theorem Rel.readyOf {c : Nat} {S T : St} (h : Rel c S T) {p : Int} (h1 : 1 ≤ p) (h2 : p ≤ 7) : T.readyOf (raise c p) = S.readyOf p := by
  have hr : 1 ≤ raise c p ∧ raise c p ≤ 8 := by unfold raise; split <;> omega
  unfold St.readyOf
  rw [if_neg (by omega), if_neg (by omega), raise_nat h1, h.at_]
theorem Rel.waiting {c : Nat} {S T : St} (h : Rel c S T) (k : Int) : T.waiting k = S.waiting k := by
  unfold St.waiting; rw [h.hasSem, h.semAt]
theorem Rel.new {c : Nat} (h1 : 1 ≤ c) (h2 : c ≤ 7) : Rel c St.new St.new :=
  ⟨h1, h2, rfl, by simp [St.new], rfl, rfl, rfl, by funext q; unfold rd; simp [St.new], fun _ _ => rfl⟩
end Pri
end Go.Proofs.YtlfbommppenlcaaGreatDoor
