/- What a scheduler is as plain data, how it lies in memory, and how it goes on to lie there behind a step that writes one of its parts. Conditions: none. -/
import Derived.Test.YtlfbommppenlcaaGreatDoorS2
import Derived.Test.YtlfbommppenlcaaGreatDoorP0
namespace Go.Proofs.YtlfbommppenlcaaGreatDoor
open Go.RowKit Go.Mem

def bools (l : List Bool) : List Value := l.map Value.bool
@[simp] theorem length_bools (l : List Bool) : (bools l).length = l.length := by simp [bools]
def ptrs (l : List Nat) : List Value := l.map fun b => .pointer (some ⟨b, 0, none⟩)
@[simp] theorem length_ptrs (l : List Nat) : (ptrs l).length = l.length := by simp [ptrs]

inductive Tg where
  | hdr | fld (j : Nat) | sem (k : Nat) | wq (k : Nat)

def fty (j : Nat) : Nat := if j = 1 then 4 else if j = 11 then 126 else 3
def St.fld (S : St) (ps : List Nat) (j : Nat) : List Value :=
  if j = 0 then ints S.prior else if j = 1 then bools S.idle else if j = 11 then ptrs ps else ints (S.ready (j - 2))

/-- Semaphore k lies at block p. -/
def SemAt (w : World) (tag : Nat → Option Tg) (k p : Nat) (s : List Int × Int) : Prop :=
  ∃ q, w.heap[p]? = some (.cells #[q, .int .i64 s.2] 130 (0, 0)) ∧ Sl w 3 q (ints s.1) ∧ tag p = some (.sem k) ∧ ∀ g, q.ownBlock = some g → tag g = some (.wq k)

structure Sch (w : World) (sb : Nat) (tag : Nat → Option Tg) (S : St) (ps : List Nat) (c : Array Value) : Prop where
  hdr : w.heap[sb]? = some (.cells c 116 (0, 0))
  csz : c.size = 13
  htag : tag sb = some .hdr
  tlt : ∀ k, tag k ≠ none → k < w.heap.size
  act : c[12]? = some (.int .i64 S.active)
  fld : ∀ j, j < 12 → ∃ v, c[j]? = some v ∧ Sl w (fty j) v (S.fld ps j) ∧ ∀ g, v.ownBlock = some g → tag g = some (.fld j)
  len : ps.length = S.sems.length
  sem : ∀ k p, ps[k]? = some p → SemAt w tag k p (S.semAt k)

/-- A scheduler at block sb, whose blocks are F. -/
def SchAt (w : World) (sb : Nat) (F : Nat → Prop) (S : St) : Prop := ∃ tag ps c, Sch w sb tag S ps c ∧ ∀ k, F k ↔ tag k ≠ none

/-- A call changed the blocks F alone, and these are now F'. -/
structure Goes (F F' : Nat → Prop) (w w' : World) : Prop where
  chg : Chg F w w'
  new : ∀ k, F' k → F k ∨ w.heap.size ≤ k

theorem Goes.refl (F : Nat → Prop) (w : World) : Goes F F w w := ⟨Chg.refl _ _, fun _ h => .inl h⟩
theorem Goes.trans {F F' F'' : Nat → Prop} {a b c : World} (h : Goes F F' a b) (k : Goes F' F'' b c) : Goes F F'' a c :=
  ⟨h.chg.trans k.chg fun i hi hf => (h.new i hf).resolve_right (by omega), fun i hi => by
    rcases k.new i hi with h1 | h1
    · exact h.new i h1
    · exact .inr (Nat.le_trans h.chg.size h1)⟩

theorem SchAt.lt {w : World} {sb : Nat} {F : Nat → Prop} {S : St} (h : SchAt w sb F S) : ∀ k, F k → k < w.heap.size := by
  obtain ⟨tag, ps, c, h, hF⟩ := h
  exact fun k hk => h.tlt k ((hF k).1 hk)

theorem SemAt.kept {w w' : World} {tag : Nat → Option Tg} {k p : Nat} {s : List Int × Int} (h : SemAt w tag k p s) (hk : ∀ b, tag b ≠ none → w'.heap[b]? = w.heap[b]?) : SemAt w' tag k p s := by
  obtain ⟨q, h1, h2, h3, h4⟩ := h
  exact ⟨q, (hk p (by rw [h3]; simp)).trans h1, h2.kept fun g hg => hk g (by rw [h4 g hg]; simp), h3, h4⟩

/-- It lies as it lay where its blocks are as they were. -/
theorem SchAt.kept {w w' : World} {sb : Nat} {F : Nat → Prop} {S : St} (h : SchAt w sb F S) (hk : ∀ b, F b → w'.heap[b]? = w.heap[b]?) : SchAt w' sb F S := by
  obtain ⟨tag, ps, c, h, hF⟩ := h
  have hk' : ∀ b, tag b ≠ none → w'.heap[b]? = w.heap[b]? := fun b hb => hk b ((hF b).2 hb)
  refine ⟨tag, ps, c, ⟨(hk' sb (by rw [h.htag]; simp)).trans h.hdr, h.csz, h.htag, fun k ht => ?_, h.act, fun j hj => ?_, h.len, fun k p hp => (h.sem k p hp).kept hk'⟩, hF⟩
  · have e := hk' k ht
    have h1 := h.tlt k ht
    have : (w'.heap[k]?).isSome = true := by rw [e]; simp [h1]
    simpa using this
  · obtain ⟨v, h1, h2, h3⟩ := h.fld j hj
    exact ⟨v, h1, h2.kept fun g hg => hk' g (by rw [h3 g hg]; simp), h3⟩

theorem SchAt.chg {w w' : World} {sb : Nat} {F G : Nat → Prop} {S : St} (h : SchAt w sb F S) (hc : Chg G w w') (hd : ∀ b, F b → ¬ G b) : SchAt w' sb F S :=
  h.kept fun b hb => hc.block b (h.lt b hb) (hd b hb)

/-- A field's slice is another one. -/
theorem Sch.upd {w w' : World} {sb : Nat} {tag : Nat → Option Tg} {S S' : St} {ps ps' : List Nat} {c : Array Value} (h : Sch w sb tag S ps c) {j : Nat} (hj : j < 12) {v v' : Value} (hv : c[j]? = some v)
    (hhdr : w'.heap[sb]? = some (.cells (c.setIfInBounds j v') 116 (0, 0))) (hS : Sl w' (fty j) v' (S'.fld ps j))
    (hC : Chg (fun k => k = sb ∨ some k = v.ownBlock) w w') (hN : Near w v v')
    (hfld : ∀ i, i < 12 → i ≠ j → S'.fld ps i = S.fld ps i) (hact : S'.active = S.active) (hsems : S'.sems = S.sems) (hps : ps' = ps) :
    ∃ tag', Sch w' sb tag' S' ps' (c.setIfInBounds j v') ∧ (∀ k, k < w.heap.size → tag' k = tag k) := by
  subst hps
  obtain ⟨v0, e0, hS0, ht0⟩ := h.fld j hj
  obtain rfl : v0 = v := Option.some.inj (e0.symm.trans hv)
  have hlt : ∀ k, tag k ≠ none → k < w.heap.size := h.tlt
  -- blocks with another tag are as they were
  have hk : ∀ b, tag b ≠ none → tag b ≠ some .hdr → tag b ≠ some (.fld j) → w'.heap[b]? = w.heap[b]? := fun b hb h1 h2 => hC.block b (hlt b hb) (by
    rintro (rfl | e)
    · exact h1 h.htag
    · exact h2 (ht0 b e.symm))
  let tag' : Nat → Option Tg := fun k => if w.heap.size ≤ k ∧ v'.ownBlock = some k then some (.fld j) else tag k
  have hold : ∀ k, k < w.heap.size → tag' k = tag k := fun k hk => by simp only [tag']; rw [if_neg (by omega)]
  have hof : ∀ k t, tag k = some t → tag' k = some t := fun k t ht => (hold k (hlt k (by rw [ht]; simp))).trans ht
  refine ⟨tag', ⟨hhdr, by simp [h.csz], hof _ _ h.htag, fun k ht => ?_, ?_, fun i hi => ?_, by rw [h.len, hsems], fun k p hp => ?_⟩, hold⟩
  · by_cases hc : w.heap.size ≤ k ∧ v'.ownBlock = some k
    · exact hS.lt hc.2
    · simp only [tag'] at ht
      rw [if_neg hc] at ht
      exact Nat.lt_of_lt_of_le (hlt k ht) hC.size
  · rw [Array.getElem?_setIfInBounds_ne (by omega), h.act, hact]
  · by_cases e : i = j
    · subst e
      refine ⟨v', by rw [Array.getElem?_setIfInBounds_self_of_lt (by rw [h.csz]; omega)], hS, fun g hg => ?_⟩
      rcases hN with hn | ⟨g', hn, hge⟩
      · exact hof _ _ (ht0 g (hn.symm.trans hg))
      · obtain rfl : g' = g := Option.some.inj (hn.symm.trans hg)
        simp only [tag']
        rw [if_pos ⟨hge, hg⟩]
    · obtain ⟨u, h1, h2, h3⟩ := h.fld i hi
      refine ⟨u, by rw [Array.getElem?_setIfInBounds_ne (fun x => e x.symm)]; exact h1, ?_, fun g hg => hof _ _ (h3 g hg)⟩
      rw [hfld i hi e]
      exact h2.kept fun g hg => hk g (by rw [h3 g hg]; simp) (by rw [h3 g hg]; simp) (by rw [h3 g hg]; simp; omega)
  · obtain ⟨q, h1, h2, h3, h4⟩ := h.sem k p hp
    have es : S'.semAt k = S.semAt k := by unfold St.semAt; rw [hsems]
    rw [es]
    exact ⟨q, (hk p (by rw [h3]; simp) (by rw [h3]; simp) (by rw [h3]; simp)).trans h1, h2.kept fun g hg => hk g (by rw [h4 g hg]; simp) (by rw [h4 g hg]; simp) (by rw [h4 g hg]; simp), hof _ _ h3, fun g hg => hof _ _ (h4 g hg)⟩

/-- The one that is active is another one. -/
theorem Sch.setAct {w : World} {sb : Nat} {tag : Nat → Option Tg} {S : St} {ps : List Nat} {c : Array Value} (h : Sch w sb tag S ps c) (a : Int) :
    Sch (w.setCell ⟨sb, 12, none⟩ (.int .i64 a)) sb tag { S with active := a } ps (c.setIfInBounds 12 (.int .i64 a)) := by
  have hk : ∀ b, tag b ≠ some .hdr → (w.setCell ⟨sb, 12, none⟩ (.int .i64 a)).heap[b]? = w.heap[b]? := fun b hb => heap_setCell_ne (by rintro rfl; exact hb h.htag)
  refine ⟨heap_setCell_at h.hdr, by simp [h.csz], h.htag, fun k hk => by simpa using h.tlt k hk, by simp [h.csz], fun j hj => ?_, h.len, fun k p hp => ?_⟩
  · obtain ⟨v, h1, h2, h3⟩ := h.fld j hj
    exact ⟨v, by rw [Array.getElem?_setIfInBounds_ne (by omega)]; exact h1, h2.kept fun g hg => hk g (by rw [h3 g hg]; simp), h3⟩
  · obtain ⟨q, h1, h2, h3, h4⟩ := h.sem k p hp
    exact ⟨q, (hk p (by rw [h3]; simp)).trans h1, h2.kept fun g hg => hk g (by rw [h4 g hg]; simp), h3, h4⟩

/-- An element of a field's slice is another one. -/
theorem Sch.setElem {w : World} {sb : Nat} {tag : Nat → Option Tg} {S S' : St} {ps : List Nat} {c : Array Value} (h : Sch w sb tag S ps c) {j g n cap i : Nat} (hj : j < 12) (hv : c[j]? = some (.slice (some ⟨g, 0, none⟩) n cap)) (u : Value)
    (hi : i < (S.fld ps j).length) (hfj : S'.fld ps j = (S.fld ps j).set i u) (hfld : ∀ i, i < 12 → i ≠ j → S'.fld ps i = S.fld ps i) (hact : S'.active = S.active) (hsems : S'.sems = S.sems) :
    Sch (w.setCell ⟨g, i, none⟩ u) sb tag S' ps c := by
  obtain ⟨v0, e0, hS0, ht0⟩ := h.fld j hj
  obtain rfl : v0 = _ := Option.some.inj (e0.symm.trans hv)
  have hg := ht0 g rfl
  have hk : ∀ b, tag b ≠ some (.fld j) → (w.setCell ⟨g, i, none⟩ u).heap[b]? = w.heap[b]? := fun b hb => heap_setCell_ne (by rintro rfl; exact hb hg)
  refine ⟨(hk sb (by rw [h.htag]; simp)).trans h.hdr, h.csz, h.htag, fun k hk => by simpa using h.tlt k hk, by rw [h.act, hact], fun l hl => ?_, by rw [h.len, hsems], fun k p hp => ?_⟩
  · by_cases e : l = j
    · subst e
      refine ⟨_, hv, ?_, ht0⟩
      rw [hfj]
      exact (hS0.set i u).resolve_right (by omega)
    · obtain ⟨v, h1, h2, h3⟩ := h.fld l hl
      refine ⟨v, h1, ?_, h3⟩
      rw [hfld l hl e]
      exact h2.kept fun g hg => hk g (by rw [h3 g hg]; simp; omega)
  · obtain ⟨q, h1, h2, h3, h4⟩ := h.sem k p hp
    have es : S'.semAt k = S.semAt k := by unfold St.semAt; rw [hsems]
    rw [es]
    exact ⟨q, (hk p (by rw [h3]; simp)).trans h1, h2.kept fun g hg => hk g (by rw [h4 g hg]; simp), h3, h4⟩
end Go.Proofs.YtlfbommppenlcaaGreatDoor
