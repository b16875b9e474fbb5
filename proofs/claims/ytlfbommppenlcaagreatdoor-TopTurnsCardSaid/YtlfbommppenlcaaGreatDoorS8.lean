/- The scheduler's semaphores in memory, and the calls that read: New, Active, Ready, Waiting. Conditions: a scheduler lies there; its queues are short. -/
import Derived.Test.YtlfbommppenlcaaGreatDoorS7
namespace Go.Proofs.YtlfbommppenlcaaGreatDoor
open Go.RowKit Go.Mem

theorem SchAt.semsAt {w : World} {sb : Nat} {tag : Nat → Option Tg} {S : St} {ps : List Nat} {c : Array Value} (h : Sch w sb tag S ps c) :
    ∃ a cap, c[11]? = some (.slice a S.sems.length cap) ∧ w.cell? ⟨sb, 11, none⟩ = some (.slice a S.sems.length cap) ∧ ∀ k : Int, 1 ≤ k → k ≤ S.sems.length → ∃ g p, a = some ⟨g, 0, none⟩ ∧ ps[k.toNat - 1]? = some p ∧ w.cell? ⟨g, k.toNat - 1, none⟩ = some (.pointer (some ⟨p, 0, none⟩)) := by
  obtain ⟨v, h1, h2, h3⟩ := h.fld 11 (by omega)
  have e : S.fld ps 11 = ptrs ps := rfl
  rw [e] at h2
  obtain ⟨a, cap, rfl⟩ := h2.shape
  refine ⟨a, cap, by rw [h1, ← h.len]; simp, by rw [cell_of_block h.hdr h1, ← h.len]; simp, fun k k1 k2 => ?_⟩
  have hk : k.toNat - 1 < ps.length := by rw [h.len]; omega
  obtain ⟨g, cap', e', _, _, hc, _⟩ := h2.at (by simp; omega)
  cases e'
  exact ⟨g, ps[k.toNat - 1], rfl, List.getElem?_eq_getElem hk, hc _ _ (by simp [ptrs, hk])⟩

theorem at_yes {w : World} {sb : Nat} {tag : Nat → Option Tg} {S : St} {ps : List Nat} {c : Array Value} (h : Sch w sb tag S ps c) (hsl : S.sems.length ≤ 100) (k : Int) (hk : S.hasSem k = true) :
    Calls Tryz.prog 66 #[.pointer (some ⟨sb, 0, none⟩), .int .i64 k] w fun e w' => (∃ p, e = .returned (.tuple #[.pointer (some ⟨p, 0, none⟩), .int .i64 0]) ∧ ps[k.toNat - 1]? = some p) ∧ w = w' := by
  simp only [St.hasSem, Bool.and_eq_true, decide_eq_true_eq] at hk
  obtain ⟨k1, k2⟩ := hk
  obtain ⟨a, cap, _, hc, hk⟩ := SchAt.semsAt h
  obtain ⟨g, p, rfl, hp, hg⟩ := hk k k1 k2
  have HP := Lib.hid hp
  have b1 : k - 1 < (S.sems.length : Int) := by omega
  have b3 : (S.sems.length : Int) ≤ 100 := by omega
  clear hk hp
  go_enter Tryz.func66, Tryz.ntmps66
  go_wp2
  go_ret2
  exact ⟨⟨p, rfl, HP.out⟩, rfl⟩

theorem at_no {w : World} {sb : Nat} {tag : Nat → Option Tg} {S : St} {ps : List Nat} {c : Array Value} (h : Sch w sb tag S ps c) (hsl : S.sems.length ≤ 100) (k : Int) (hk : S.hasSem k = false) :
    Calls Tryz.prog 66 #[.pointer (some ⟨sb, 0, none⟩), .int .i64 k] w fun e w' => e = .returned (.tuple #[.pointer none, .int .i64 4]) ∧ w = w' := by
  simp only [St.hasSem, Bool.and_eq_false_iff, decide_eq_false_iff_not] at hk
  obtain ⟨a, cap, _, hc, _⟩ := SchAt.semsAt h
  have b3 : (S.sems.length : Int) ≤ 100 := by omega
  by_cases k1 : 1 ≤ k
  · have k2 : (S.sems.length : Int) < k := by omega
    clear hk
    go_enter Tryz.func66, Tryz.ntmps66
    go_wp2
    go_ret2
    exact ⟨rfl, rfl⟩
  · have k1' : k < 1 := by omega
    clear hk
    go_enter Tryz.func66, Tryz.ntmps66
    go_wp2
    go_ret2
    exact ⟨rfl, rfl⟩

/-- Behind a step that leaves another semaphore k. -/
theorem SchAt.sem_step {w : World} {sb : Nat} {tag : Nat → Option Tg} {S : St} {ps : List Nat} {c : Array Value} {F : Nat → Prop} (h : Sch w sb tag S ps c) (hF : ∀ k, F k ↔ tag k ≠ none) {k p : Nat} (hp : ps[k]? = some p)
    {q q' : Value} {T : TypeId} {n : Value} {s : List Int × Int} {w' : World} (hq : w.heap[p]? = some (.cells #[q, n] T (0, 0)))
    (hb : w'.heap[p]? = some (.cells #[q', .int .i64 s.2] 130 (0, 0))) (hS : Sl w' 3 q' (ints s.1))
    (hC : Chg (fun b => b = p ∨ some b = q.ownBlock) w w') (hN : Near w q q') :
    (∃ tag', Sch w' sb tag' (S.setSem k s) ps c ∧ ∀ b, tag' b ≠ none → tag b ≠ none ∨ w.heap.size ≤ b) ∧ Chg F w w' := by
  obtain ⟨q0, h1, h2, h3, h4⟩ := h.sem k p hp
  obtain rfl : q0 = q := by
    have := h1.symm.trans hq
    simp at this
    exact this.1.1
  have hlt : ∀ k, tag k ≠ none → k < w.heap.size := h.tlt
  have hkl : k < ps.length := (List.getElem?_eq_some_iff.1 hp).1
  have hk : ∀ b, tag b ≠ none → tag b ≠ some (.sem k) → tag b ≠ some (.wq k) → w'.heap[b]? = w.heap[b]? := fun b hb g1 g2 => hC.block b (hlt b hb) (by
    rintro (rfl | e)
    · exact g1 h3
    · exact g2 (h4 b e.symm))
  let tag' : Nat → Option Tg := fun b => if w.heap.size ≤ b ∧ q'.ownBlock = some b then some (.wq k) else tag b
  have hold : ∀ b, b < w.heap.size → tag' b = tag b := fun b hb => by simp only [tag']; rw [if_neg (by omega)]
  have hof : ∀ b t, tag b = some t → tag' b = some t := fun b t ht => (hold b (hlt b (by rw [ht]; simp))).trans ht
  refine ⟨⟨tag', ⟨(hk sb (by rw [h.htag]; simp) (by rw [h.htag]; simp) (by rw [h.htag]; simp)).trans h.hdr, h.csz, hof _ _ h.htag, fun b ht => ?_, h.act, fun j hj => ?_, by rw [h.len]; simp [St.setSem], fun i pi hi => ?_⟩, fun b hb => ?_⟩, hC.mono fun b hb hx => ?_⟩
  · by_cases hc : w.heap.size ≤ b ∧ q'.ownBlock = some b
    · exact hS.lt hc.2
    · simp only [tag'] at ht
      rw [if_neg hc] at ht
      exact Nat.lt_of_lt_of_le (hlt b ht) hC.size
  · obtain ⟨v, e1, e2, e3⟩ := h.fld j hj
    exact ⟨v, e1, e2.kept fun g hg => hk g (by rw [e3 g hg]; simp) (by rw [e3 g hg]; simp) (by rw [e3 g hg]; simp), fun g hg => hof _ _ (e3 g hg)⟩
  · by_cases e : i = k
    · subst e
      obtain rfl : pi = p := Option.some.inj (hi.symm.trans hp)
      have es : (S.setSem i s).semAt i = s := by
        have : i < S.sems.length := by rw [← h.len]; exact hkl
        simp [St.setSem, St.semAt, List.getD, this]
      rw [es]
      refine ⟨q', hb, hS, hof _ _ h3, fun g hg => ?_⟩
      rcases hN with hn | ⟨g', hn, hge⟩
      · exact hof _ _ (h4 g (hn.symm.trans hg))
      · obtain rfl : g' = g := Option.some.inj (hn.symm.trans hg)
        simp only [tag']
        rw [if_pos ⟨hge, hg⟩]
    · obtain ⟨r, e1, e2, e3, e4⟩ := h.sem i pi hi
      have es : (S.setSem k s).semAt i = S.semAt i := by simp [St.setSem, St.semAt, List.getD, List.getElem?_set_ne (Ne.symm e)]
      rw [es]
      exact ⟨r, (hk pi (by rw [e3]; simp) (by rw [e3]; simp; exact e) (by rw [e3]; simp)).trans e1, e2.kept fun g hg => hk g (by rw [e4 g hg]; simp) (by rw [e4 g hg]; simp) (by rw [e4 g hg]; simp; exact e), hof _ _ e3, fun g hg => hof _ _ (e4 g hg)⟩
  · by_cases hb' : w.heap.size ≤ b
    · exact .inr hb'
    · rw [hold b (by omega)] at hb; exact .inl hb
  · rw [hF]
    rcases hx with rfl | e
    · rw [h3]; simp
    · rw [h4 b e.symm]; simp

theorem Makes.of_sch {w w' : World} {sb : Nat} {tag : Nat → Option Tg} {S' : St} {ps' : List Nat} {c' : Array Value} {F : Nat → Prop} (hF : ∀ k, F k ↔ tag k ≠ none)
    (h : (∃ tag', Sch w' sb tag' S' ps' c' ∧ ∀ b, tag' b ≠ none → tag b ≠ none ∨ w.heap.size ≤ b) ∧ Chg F w w') : Makes w sb F S' w' := by
  obtain ⟨⟨tag', h1, h2⟩, h3⟩ := h
  exact ⟨fun b => tag' b ≠ none, ⟨tag', ps', c', h1, fun _ => Iff.rfl⟩, ⟨h3, fun b hb => (h2 b hb).imp (hF b).2 id⟩⟩

theorem new_calls (w : World) : Calls Tryz.prog 16 #[] w fun e w' => ∃ F, e = .returned (.pointer (some ⟨w.heap.size, 0, none⟩)) ∧ SchAt w' w.heap.size F St.new ∧ Goes (fun _ => False) F w w' := by
  go_enter Tryz.func16, Tryz.ntmps16
  go_wp2
  go_ret
  refine ⟨fun b => b = w.heap.size, rfl, ⟨fun b => if b = w.heap.size then some .hdr else none, [], _, ⟨heap_alloc_self, rfl, by simp, fun k hk => ?_, rfl, fun j hj => ?_, rfl, fun k p hp => by simp at hp⟩, fun k => ?_⟩, ⟨(Chg.refl _ _).alloc _, fun k hk => .inr (by omega)⟩⟩
  · simp at hk; simp; omega
  · refine ⟨.slice none 0 0, ?_, ?_, fun g hg => by simp [Value.ownBlock] at hg⟩
    · match j, hj with
      | 0, _ | 1, _ | 2, _ | 3, _ | 4, _ | 5, _ | 6, _ | 7, _ | 8, _ | 9, _ | 10, _ | 11, _ => rfl
    · have : St.new.fld [] j = [] := by unfold St.fld; split; rfl; split; rfl; split; rfl; rfl
      rw [this]; exact Sl.nil _ _
  · by_cases h : k = w.heap.size <;> simp [h]

theorem active_calls {w : World} {sb : Nat} {F : Nat → Prop} {S : St} (hA : SchAt w sb F S) :
    Calls Tryz.prog 22 #[.pointer (some ⟨sb, 0, none⟩)] w fun e w' => e = .returned (.int .i64 S.active) ∧ w = w' := by
  have hc := hA.actCell.1
  go_enter Tryz.func22, Tryz.ntmps22
  go_wp2
  go_ret
  exact ⟨rfl, rfl⟩

/-- A new slice that holds these numbers. -/
def Fresh (w : World) (l : List Int) (v : Value) (w' : World) : Prop := Sl w' 3 v (ints l) ∧ Below w.heap.size w w' ∧ ∀ g, v.ownBlock = some g → w.heap.size ≤ g

theorem ready_calls {w : World} {sb : Nat} {F : Nat → Prop} {S : St} {N : Nat} (hA : SchAt w sb F S) (hW : S.WF N) (hN : N < 100000) (p : Int) :
    Calls Tryz.prog 24 #[.pointer (some ⟨sb, 0, none⟩), .int .i64 p] w fun e w' => ∃ v, e = .returned v ∧ Fresh w (S.readyOf p) v w' := by
  unfold St.readyOf
  by_cases h1 : p < 1
  · rw [if_pos (.inl h1)]
    go_enter Tryz.func24, Tryz.ntmps24
    go_wp2
    go_ret
    exact ⟨_, rfl, Sl.nil _ _, Below.refl _ _, fun g hg => by simp [Value.ownBlock] at hg⟩
  · by_cases h2 : p > 8
    · rw [if_pos (.inr h2)]
      have h1' : 1 ≤ p := by omega
      clear h1
      go_enter Tryz.func24, Tryz.ntmps24
      go_wp2
      go_ret
      exact ⟨_, rfl, Sl.nil _ _, Below.refl _ _, fun g hg => by simp [Value.ownBlock] at hg⟩
    · rw [if_neg (by omega)]
      have h1' : 1 ≤ p := by omega
      have h2' : p ≤ 8 := by omega
      clear h1 h2
      go_enter Tryz.func24, Tryz.ntmps24
      go_wp2_with fail
      refine (sch_list hA (k := p.toNat) (by omega) (by have := hW.rl p.toNat; omega)).mono ?_
      rintro e w' ⟨v, rfl, g1, g2, g3⟩
      have G3 := Lib.hid g3
      clear g3
      go_wp2
      go_ret
      exact ⟨v, rfl, g1, g2, G3.out⟩
end Go.Proofs.YtlfbommppenlcaaGreatDoor
