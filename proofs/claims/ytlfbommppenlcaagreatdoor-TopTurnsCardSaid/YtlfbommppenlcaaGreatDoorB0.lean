/- How a scheduler on paper lies in memory, and what a store changes there. Conditions: none. -/
import Derived.Test.YtlfbommppenlcaaGreatDoorT3
import Derived.Test.YtlfbommppenlcaaGreatDoorP3
namespace Go.Proofs.YtlfbommppenlcaaGreatDoor
open Go.RowKit Go.Mem
namespace Ben

def pcells (L : List Pr) : List Value := L.flatMap fun x => [.int .i64 x.prior, .int .i64 x.state, .int .i64 x.sem]
theorem length_pcells (L : List Pr) : (pcells L).length = L.length * 3 := by
  induction L with
  | nil => rfl
  | cons x L ih => simp only [pcells, List.flatMap_cons, List.length_append, List.length_cons, List.length_nil] at ih ⊢; omega
theorem pcells_get (L : List Pr) (i : Nat) : (pcells L)[i]? = (L[i / 3]?).map fun x => if i % 3 = 0 then Value.int .i64 x.prior else if i % 3 = 1 then .int .i64 x.state else .int .i64 x.sem := by
  induction L generalizing i with
  | nil => simp [pcells]
  | cons x L ih =>
    simp only [pcells, List.flatMap_cons]
    rcases i with _ | _ | _ | i
    · rfl
    · rfl
    · rfl
    · rw [List.getElem?_append_right (by simp)]
      have e : (i + 1 + 1 + 1) / 3 = i / 3 + 1 := by omega
      have e2 : (i + 1 + 1 + 1) % 3 = i % 3 := by omega
      rw [e, e2, List.getElem?_cons_succ]
      have := ih i
      simp only [pcells] at this
      rw [← this]
      congr 1
theorem pcells_state {L : List Pr} {k : Nat} {x : Pr} (h : L[k]? = some x) (s : Int) : (pcells L).set (k * 3 + 1) (.int .i64 s) = pcells (L.set k ⟨x.prior, s, x.sem⟩) := by
  have hk : k < L.length := (List.getElem?_eq_some_iff.1 h).1
  apply List.ext_getElem?
  intro i
  rw [pcells_get]
  by_cases e : i = k * 3 + 1
  · subst e
    have e1 : (k * 3 + 1) / 3 = k := by omega
    have e2 : (k * 3 + 1) % 3 = 1 := by omega
    rw [List.getElem?_set_self (by rw [length_pcells]; omega), e1, e2, List.getElem?_set_self hk]
    rfl
  · rw [List.getElem?_set_ne (Ne.symm e), pcells_get]
    by_cases e1 : i / 3 = k
    · subst e1
      rw [List.getElem?_set_self hk, h]
      have : i % 3 ≠ 1 := by omega
      simp only [Option.map_some, if_neg this]
    · rw [List.getElem?_set_ne (Ne.symm e1)]
theorem pcells_sem {L : List Pr} {k : Nat} {x : Pr} (h : L[k]? = some x) (s : Int) : (pcells L).set (k * 3 + 2) (.int .i64 s) = pcells (L.set k ⟨x.prior, x.state, s⟩) := by
  have hk : k < L.length := (List.getElem?_eq_some_iff.1 h).1
  apply List.ext_getElem?
  intro i
  rw [pcells_get]
  by_cases e : i = k * 3 + 2
  · subst e
    have e1 : (k * 3 + 2) / 3 = k := by omega
    have e2 : (k * 3 + 2) % 3 = 2 := by omega
    rw [List.getElem?_set_self (by rw [length_pcells]; omega), e1, e2, List.getElem?_set_self hk]
    rfl
  · rw [List.getElem?_set_ne (Ne.symm e), pcells_get]
    by_cases e1 : i / 3 = k
    · subst e1
      rw [List.getElem?_set_self hk, h]
      by_cases e3 : i % 3 = 0
      · simp only [Option.map_some, if_pos e3]
      · have : i % 3 = 1 := by omega
        simp only [Option.map_some, if_neg e3, if_pos this]
    · rw [List.getElem?_set_ne (Ne.symm e1)]
theorem pcells_app (L : List Pr) (x : Pr) : pcells (L ++ [x]) = pcells L ++ [.int .i64 x.prior, .int .i64 x.state, .int .i64 x.sem] := by simp [pcells]

inductive Bt where
  | hdr | fld (j : Nat) | wq (k : Nat)
def bsz (j : Nat) : Nat := if j = 0 then 3 else 1
def bty (j : Nat) : TypeId := if j = 0 then 122 else if j = 11 then 28 else 3
def Bn.fld (B : Bn) (qs : List Value) (j : Nat) : List Value := if j = 0 then pcells B.l else if j = 11 then qs else if j = 12 then ints B.signs else ints (B.ready (j - 1))
def Own (w : World) (j : Nat) (v : Value) (xs : List Value) : Prop := w.ownsRow 0 (bty j) (bsz j) v (xs.length / bsz j) xs

theorem bsz_pos (j : Nat) : 0 < bsz j := by unfold bsz; split <;> omega
theorem Own.kept {w w' : World} {j : Nat} {v : Value} {xs : List Value} (h : Own w j v xs) (hk : ∀ g, v.ownBlock = some g → w'.heap[g]? = w.heap[g]?) : Own w' j v xs := by
  refine ⟨h.1, ?_⟩
  rcases h.2 with hn | ⟨g, cap, cur, rfl, hb, hg, r⟩
  · exact .inl hn
  · exact .inr ⟨g, cap, cur, rfl, hb, (hk g rfl).trans hg, r⟩
theorem Own.lt {w : World} {j : Nat} {v : Value} {xs : List Value} (h : Own w j v xs) {g : Nat} (hg : v.ownBlock = some g) : g < w.heap.size := (World.ownsRow.lt h g hg).2
theorem Own.of_sl {w : World} {j : Nat} {v : Value} {xs : List Value} (hj : j ≠ 0) (h : Sl w (bty j) v xs) : Own w j v xs := by
  unfold Own
  have : bsz j = 1 := by unfold bsz; rw [if_neg hj]
  rw [this, Nat.div_one]; exact h
theorem Own.sl {w : World} {j : Nat} {v : Value} {xs : List Value} (hj : j ≠ 0) (h : Own w j v xs) : Sl w (bty j) v xs := by
  unfold Own at h
  have : bsz j = 1 := by unfold bsz; rw [if_neg hj]
  rw [this, Nat.div_one] at h; exact h
/-- A store into the row. -/
theorem Own.set {w : World} {j g n cap : Nat} {xs : List Value} (h : Own w j (.slice (some ⟨g, 0, none⟩) n cap) xs) (i : Nat) (u : Value) :
    Own (w.setCell ⟨g, i, none⟩ u) j (.slice (some ⟨g, 0, none⟩) n cap) (xs.set i u) := by
  unfold Own at h ⊢
  refine ⟨by rw [List.length_set]; exact h.1, ?_⟩
  rw [List.length_set]
  rcases h.2 with ⟨e, _⟩ | ⟨g', cap', cur, e, hb, hg, h1, h2, h3, h4⟩
  · cases e
  · simp only [Value.slice.injEq, Option.some.injEq, Addr.mk.injEq, and_true] at e
    obtain ⟨rfl, e2, rfl⟩ := e
    refine .inr ⟨g, cap, cur.setIfInBounds i u, by rw [e2], hb, heap_setCell_at hg, h1, h2, by simpa using h3, ?_⟩
    rw [Array.toList_setIfInBounds, List.take_set, h4]

structure Bm (w : World) (bb : Nat) (tag : Nat → Option Bt) (B : Bn) (qs : List Value) (c : Array Value) : Prop where
  hdr : w.heap[bb]? = some (.cells c 32 (0, 0))
  csz : c.size = 13
  htag : tag bb = some .hdr
  tlt : ∀ k, tag k ≠ none → k < w.heap.size
  act : c[10]? = some (.int .i64 B.active)
  fld : ∀ j, j < 13 → j ≠ 10 → ∃ v, c[j]? = some v ∧ Own w j v (B.fld qs j) ∧ ∀ g, v.ownBlock = some g → tag g = some (.fld j)
  len : qs.length = B.waits.length
  wq : ∀ k q, qs[k]? = some q → Sl w 3 q (ints (B.waits.getD k [])) ∧ ∀ g, q.ownBlock = some g → tag g = some (.wq k)

def BenAt (w : World) (bb : Nat) (F : Nat → Prop) (B : Bn) : Prop := ∃ tag qs c, Bm w bb tag B qs c ∧ ∀ k, F k ↔ tag k ≠ none

theorem Bm.kept {w w' : World} {bb : Nat} {tag : Nat → Option Bt} {B : Bn} {qs : List Value} {c : Array Value} (h : Bm w bb tag B qs c) (hk : ∀ b, tag b ≠ none → w'.heap[b]? = w.heap[b]?) : Bm w' bb tag B qs c := by
  refine ⟨(hk bb (by rw [h.htag]; simp)).trans h.hdr, h.csz, h.htag, fun k ht => ?_, h.act, fun j hj hj2 => ?_, h.len, fun k q hq => ?_⟩
  · have e := hk k ht
    have h1 := h.tlt k ht
    have : (w'.heap[k]?).isSome = true := by rw [e]; simp [h1]
    simpa using this
  · obtain ⟨v, h1, h2, h3⟩ := h.fld j hj hj2
    exact ⟨v, h1, h2.kept fun g hg => hk g (by rw [h3 g hg]; simp), h3⟩
  · obtain ⟨h1, h2⟩ := h.wq k q hq
    exact ⟨h1.kept fun g hg => hk g (by rw [h2 g hg]; simp), h2⟩
theorem BenAt.lt {w : World} {bb : Nat} {F : Nat → Prop} {B : Bn} (h : BenAt w bb F B) : ∀ k, F k → k < w.heap.size := by
  obtain ⟨tag, qs, c, h, hF⟩ := h
  exact fun k hk => h.tlt k ((hF k).1 hk)
theorem BenAt.kept {w w' : World} {bb : Nat} {F : Nat → Prop} {B : Bn} (h : BenAt w bb F B) (hk : ∀ b, F b → w'.heap[b]? = w.heap[b]?) : BenAt w' bb F B := by
  obtain ⟨tag, qs, c, h, hF⟩ := h
  exact ⟨tag, qs, c, h.kept (fun b hb => hk b ((hF b).2 hb)), hF⟩
theorem BenAt.chg {w w' : World} {bb : Nat} {F G : Nat → Prop} {B : Bn} (h : BenAt w bb F B) (hc : Chg G w w') (hd : ∀ b, F b → ¬ G b) : BenAt w' bb F B :=
  h.kept fun b hb => hc.block b (h.lt b hb) (hd b hb)
theorem BenAt.mem {w : World} {bb : Nat} {F : Nat → Prop} {B : Bn} (h : BenAt w bb F B) : F bb := by
  obtain ⟨tag, qs, c, h, hF⟩ := h
  exact (hF bb).2 (by rw [h.htag]; simp)

/-- What a call leaves. -/
def BMakes (w : World) (bb : Nat) (F : Nat → Prop) (B' : Bn) (w' : World) : Prop := ∃ F', BenAt w' bb F' B' ∧ Goes F F' w w'
theorem BMakes.trans' {w w1 w2 : World} {bb : Nat} {F F1 : Nat → Prop} {B2 : Bn} (k : BMakes w1 bb F1 B2 w2) (h : Goes F F1 w w1) : BMakes w bb F B2 w2 := by
  obtain ⟨F2, h2, g2⟩ := k
  exact ⟨F2, h2, h.trans g2⟩
theorem BMakes.of_bm {w w' : World} {bb : Nat} {tag : Nat → Option Bt} {B' : Bn} {F : Nat → Prop} (hF : ∀ k, F k ↔ tag k ≠ none)
    (h : ∃ tag' qs' c', Bm w' bb tag' B' qs' c' ∧ ∀ b, tag' b ≠ none → tag b ≠ none ∨ w.heap.size ≤ b) (hC : Chg F w w') : BMakes w bb F B' w' := by
  obtain ⟨tag', qs', c', h1, h2⟩ := h
  exact ⟨fun b => tag' b ≠ none, ⟨tag', qs', c', h1, fun _ => Iff.rfl⟩, ⟨hC, fun b hb => (h2 b hb).imp (hF b).2 id⟩⟩

/-- The one that is active is another one. -/
theorem Bm.setAct {w : World} {bb : Nat} {tag : Nat → Option Bt} {B : Bn} {qs : List Value} {c : Array Value} (h : Bm w bb tag B qs c) (a : Int) :
    Bm (w.setCell ⟨bb, 10, none⟩ (.int .i64 a)) bb tag { B with active := a } qs (c.setIfInBounds 10 (.int .i64 a)) := by
  have hk : ∀ b, tag b ≠ some .hdr → (w.setCell ⟨bb, 10, none⟩ (.int .i64 a)).heap[b]? = w.heap[b]? := fun b hb => heap_setCell_ne (by rintro rfl; exact hb h.htag)
  refine ⟨heap_setCell_at h.hdr, by simp [h.csz], h.htag, fun k hk => by simpa using h.tlt k hk, by simp [h.csz], fun j hj hj2 => ?_, h.len, fun k q hq => ?_⟩
  · obtain ⟨v, h1, h2, h3⟩ := h.fld j hj hj2
    exact ⟨v, by rw [Array.getElem?_setIfInBounds_ne (by omega)]; exact h1, h2.kept fun g hg => hk g (by rw [h3 g hg]; simp), h3⟩
  · obtain ⟨h1, h2⟩ := h.wq k q hq
    exact ⟨h1.kept fun g hg => hk g (by rw [h2 g hg]; simp), h2⟩

/-- A field's slice is another one. -/
theorem Bm.upd {w w' : World} {bb : Nat} {tag : Nat → Option Bt} {B B' : Bn} {qs qs' : List Value} {c : Array Value} (h : Bm w bb tag B qs c) {j : Nat} (hj : j < 13) (hj2 : j ≠ 10) {v v' : Value} (hv : c[j]? = some v)
    (hhdr : w'.heap[bb]? = some (.cells (c.setIfInBounds j v') 32 (0, 0))) (hS : Own w' j v' (B'.fld qs' j))
    (hC : Chg (fun k => k = bb ∨ some k = v.ownBlock) w w') (hN : ∀ g, v'.ownBlock = some g → v.ownBlock = some g ∨ w.heap.size ≤ g)
    (hfld : ∀ i, i < 13 → i ≠ 10 → i ≠ j → B'.fld qs' i = B.fld qs i) (hact : B'.active = B.active) (hlen : qs'.length = B'.waits.length)
    (hwq : ∀ k q, qs'[k]? = some q → (qs[k]? = some q ∧ B'.waits.getD k [] = B.waits.getD k []) ∨ (q = .slice none 0 0 ∧ B'.waits.getD k [] = [])) :
    ∃ tag', Bm w' bb tag' B' qs' (c.setIfInBounds j v') ∧ ∀ b, tag' b ≠ none → tag b ≠ none ∨ w.heap.size ≤ b := by
  obtain ⟨v0, e0, hS0, ht0⟩ := h.fld j hj hj2
  obtain rfl : v0 = v := Option.some.inj (e0.symm.trans hv)
  have hlt : ∀ k, tag k ≠ none → k < w.heap.size := h.tlt
  have hk : ∀ b, tag b ≠ none → tag b ≠ some .hdr → tag b ≠ some (.fld j) → w'.heap[b]? = w.heap[b]? := fun b hb h1 h2 => hC.block b (hlt b hb) (by
    rintro (rfl | e)
    · exact h1 h.htag
    · exact h2 (ht0 b e.symm))
  let tag' : Nat → Option Bt := fun k => if w.heap.size ≤ k ∧ v'.ownBlock = some k then some (.fld j) else tag k
  have hold : ∀ k, k < w.heap.size → tag' k = tag k := fun k hk => by simp only [tag']; rw [if_neg (by omega)]
  have hof : ∀ k t, tag k = some t → tag' k = some t := fun k t ht => (hold k (hlt k (by rw [ht]; simp))).trans ht
  refine ⟨tag', ⟨hhdr, by simp [h.csz], hof _ _ h.htag, fun k ht => ?_, ?_, fun i hi hi2 => ?_, hlen, fun k q hq => ?_⟩, fun k ht => ?_⟩
  · by_cases hc : w.heap.size ≤ k ∧ v'.ownBlock = some k
    · exact hS.lt hc.2
    · simp only [tag'] at ht
      rw [if_neg hc] at ht
      exact Nat.lt_of_lt_of_le (hlt k ht) hC.size
  · rw [Array.getElem?_setIfInBounds_ne hj2, h.act, hact]
  · by_cases e : i = j
    · subst e
      refine ⟨v', by rw [Array.getElem?_setIfInBounds_self_of_lt (by rw [h.csz]; omega)], hS, fun g hg => ?_⟩
      rcases hN g hg with hn | hge
      · exact hof _ _ (ht0 g hn)
      · simp only [tag']
        rw [if_pos ⟨hge, hg⟩]
    · obtain ⟨u, h1, h2, h3⟩ := h.fld i hi hi2
      refine ⟨u, by rw [Array.getElem?_setIfInBounds_ne (fun x => e x.symm)]; exact h1, ?_, fun g hg => hof _ _ (h3 g hg)⟩
      rw [hfld i hi hi2 e]
      exact h2.kept fun g hg => hk g (by rw [h3 g hg]; simp) (by rw [h3 g hg]; simp) (by rw [h3 g hg]; simp; omega)
  · rcases hwq k q hq with ⟨hq1, hq2⟩ | ⟨rfl, hq2⟩
    · obtain ⟨h1, h2⟩ := h.wq k q hq1
      rw [hq2]
      exact ⟨h1.kept fun g hg => hk g (by rw [h2 g hg]; simp) (by rw [h2 g hg]; simp) (by rw [h2 g hg]; simp), fun g hg => hof _ _ (h2 g hg)⟩
    · rw [hq2]
      exact ⟨Sl.nil _ _, fun g hg => by simp [Value.ownBlock] at hg⟩
  · by_cases hc : w.heap.size ≤ k ∧ v'.ownBlock = some k
    · exact .inr hc.1
    · simp only [tag'] at ht
      rw [if_neg hc] at ht
      exact .inl ht

/-- A cell of a field's row is another one. -/
theorem Bm.setElem {w : World} {bb : Nat} {tag : Nat → Option Bt} {B B' : Bn} {qs : List Value} {c : Array Value} (h : Bm w bb tag B qs c) {j g n cap : Nat} (hj : j < 13) (hj2 : j ≠ 10) (hv : c[j]? = some (.slice (some ⟨g, 0, none⟩) n cap)) (i : Nat) (u : Value)
    (hfj : B'.fld qs j = (B.fld qs j).set i u) (hfld : ∀ i, i < 13 → i ≠ 10 → i ≠ j → B'.fld qs i = B.fld qs i) (hact : B'.active = B.active) (hw : B'.waits = B.waits) :
    Bm (w.setCell ⟨g, i, none⟩ u) bb tag B' qs c := by
  obtain ⟨v0, e0, hS0, ht0⟩ := h.fld j hj hj2
  obtain rfl : v0 = _ := Option.some.inj (e0.symm.trans hv)
  have hg := ht0 g rfl
  have hk : ∀ b, tag b ≠ some (.fld j) → (w.setCell ⟨g, i, none⟩ u).heap[b]? = w.heap[b]? := fun b hb => heap_setCell_ne (by rintro rfl; exact hb hg)
  refine ⟨(hk bb (by rw [h.htag]; simp)).trans h.hdr, h.csz, h.htag, fun k hk => by simpa using h.tlt k hk, by rw [h.act, hact], fun l hl hl2 => ?_, by rw [h.len, hw], fun k q hq => ?_⟩
  · by_cases e : l = j
    · subst e
      refine ⟨_, hv, ?_, ht0⟩
      rw [hfj]
      exact hS0.set i u
    · obtain ⟨v, h1, h2, h3⟩ := h.fld l hl hl2
      refine ⟨v, h1, ?_, h3⟩
      rw [hfld l hl hl2 e]
      exact h2.kept fun g hg => hk g (by rw [h3 g hg]; simp; omega)
  · obtain ⟨h1, h2⟩ := h.wq k q hq
    rw [hw]
    exact ⟨h1.kept fun g hg => hk g (by rw [h2 g hg]; simp), h2⟩

/-- A semaphore's row is another one. -/
theorem Bm.setWait {w w' : World} {bb : Nat} {tag : Nat → Option Bt} {B : Bn} {qs : List Value} {c : Array Value} (h : Bm w bb tag B qs c) {g n cap k : Nat} {cur : Array Value} (hv : c[11]? = some (.slice (some ⟨g, 0, none⟩) n cap))
    (hg : w.heap[g]? = some (.cells cur 28 (0, 0))) {q q' : Value} (hq : qs[k]? = some q) {l : List Int}
    (hg' : w'.heap[g]? = some (.cells (cur.setIfInBounds k q') 28 (0, 0))) (hS : Sl w' 3 q' (ints l))
    (hC : Chg (fun b => b = g ∨ some b = q.ownBlock) w w') (hN : ∀ b, q'.ownBlock = some b → q.ownBlock = some b ∨ w.heap.size ≤ b) :
    ∃ tag', Bm w' bb tag' { B with waits := B.waits.set k l } (qs.set k q') c ∧ ∀ b, tag' b ≠ none → tag b ≠ none ∨ w.heap.size ≤ b := by
  obtain ⟨v0, e0, hS0, ht0⟩ := h.fld 11 (by omega) (by omega)
  obtain rfl : v0 = _ := Option.some.inj (e0.symm.trans hv)
  have hgt := ht0 g rfl
  obtain ⟨hq1, hq2⟩ := h.wq k q hq
  have hkl : k < qs.length := (List.getElem?_eq_some_iff.1 hq).1
  have hlt : ∀ k, tag k ≠ none → k < w.heap.size := h.tlt
  have hk : ∀ b, tag b ≠ none → tag b ≠ some (.fld 11) → tag b ≠ some (.wq k) → w'.heap[b]? = w.heap[b]? := fun b hb h1 h2 => hC.block b (hlt b hb) (by
    rintro (rfl | e)
    · exact h1 hgt
    · exact h2 (hq2 b e.symm))
  let tag' : Nat → Option Bt := fun b => if w.heap.size ≤ b ∧ q'.ownBlock = some b then some (.wq k) else tag b
  have hold : ∀ b, b < w.heap.size → tag' b = tag b := fun b hb => by simp only [tag']; rw [if_neg (by omega)]
  have hof : ∀ b t, tag b = some t → tag' b = some t := fun b t ht => (hold b (hlt b (by rw [ht]; simp))).trans ht
  refine ⟨tag', ⟨(hk bb (by rw [h.htag]; simp) (by rw [h.htag]; simp) (by rw [h.htag]; simp)).trans h.hdr, h.csz, hof _ _ h.htag, fun b ht => ?_, h.act, fun i hi hi2 => ?_, by simp [h.len], fun k2 q2 hq2' => ?_⟩, fun b ht => ?_⟩
  · by_cases hc : w.heap.size ≤ b ∧ q'.ownBlock = some b
    · exact hS.lt hc.2
    · simp only [tag'] at ht
      rw [if_neg hc] at ht
      exact Nat.lt_of_lt_of_le (hlt b ht) hC.size
  · by_cases e : i = 11
    · subst e
      refine ⟨_, hv, ?_, fun b hb => hof _ _ (ht0 b hb)⟩
      have e1 : Bn.fld { B with waits := B.waits.set k l } (qs.set k q') 11 = qs.set k q' := rfl
      have e2 : B.fld qs 11 = qs := rfl
      rw [e2] at hS0
      rw [e1]
      unfold Own at hS0 ⊢
      refine ⟨by rw [List.length_set]; exact hS0.1, ?_⟩
      rw [List.length_set]
      rcases hS0.2 with ⟨x, _⟩ | ⟨g', cap', cur', x, hb, hg2, h1, h2, h3, h4⟩
      · cases x
      · simp only [Value.slice.injEq, Option.some.injEq, Addr.mk.injEq, and_true] at x
        obtain ⟨rfl, x2, rfl⟩ := x
        have x3 := Option.some.inj (hg2.symm.trans hg)
        simp only [Obj.cells.injEq] at x3
        obtain ⟨rfl, x4, x5⟩ := x3
        refine .inr ⟨g, cap, cur'.setIfInBounds k q', by rw [x2], hb, hg', h1, h2, by simpa using h3, ?_⟩
        rw [Array.toList_setIfInBounds, List.take_set, h4]
    · obtain ⟨u, h1, h2, h3⟩ := h.fld i hi hi2
      refine ⟨u, h1, ?_, fun b hb => hof _ _ (h3 b hb)⟩
      have e1 : Bn.fld { B with waits := B.waits.set k l } (qs.set k q') i = B.fld qs i := by unfold Bn.fld; rw [if_neg e, if_neg e]
      rw [e1]
      exact h2.kept fun b hb => hk b (by rw [h3 b hb]; simp) (by rw [h3 b hb]; simp; omega) (by rw [h3 b hb]; simp)
  · have hwl : k < B.waits.length := by rw [← h.len]; exact hkl
    by_cases e : k2 = k
    · subst e
      rw [List.getElem?_set_self hkl] at hq2'
      obtain rfl := Option.some.inj hq2'
      have e1 : ({ B with waits := B.waits.set k2 l } : Bn).waits.getD k2 [] = l := by
        show (B.waits.set k2 l).getD k2 [] = l
        rw [getD_set _ _ _ _ _ hwl, if_pos rfl]
      rw [e1]
      refine ⟨hS, fun b hb => ?_⟩
      rcases hN b hb with hn | hge
      · exact hof _ _ (hq2 b hn)
      · simp only [tag']
        rw [if_pos ⟨hge, hb⟩]
    · rw [List.getElem?_set_ne (Ne.symm e)] at hq2'
      obtain ⟨h1, h2⟩ := h.wq k2 q2 hq2'
      have e1 : ({ B with waits := B.waits.set k l } : Bn).waits.getD k2 [] = B.waits.getD k2 [] := by
        show (B.waits.set k l).getD k2 [] = _
        rw [getD_set _ _ _ _ _ hwl, if_neg e]
      rw [e1]
      exact ⟨h1.kept fun b hb => hk b (by rw [h2 b hb]; simp) (by rw [h2 b hb]; simp) (by rw [h2 b hb]; simp; omega), fun b hb => hof _ _ (h2 b hb)⟩
  · by_cases hc : w.heap.size ≤ b ∧ q'.ownBlock = some b
    · exact .inr hc.1
    · simp only [tag'] at ht
      rw [if_neg hc] at ht
      exact .inl ht
end Ben
end Go.Proofs.YtlfbommppenlcaaGreatDoor
