/- The scheduler's calls Yield and Sem. Conditions: a scheduler lies there; its queues are short. -/
import Derived.Test.YtlfbommppenlcaaGreatDoorS9
namespace Go.Proofs.YtlfbommppenlcaaGreatDoor
open Go.RowKit Go.Mem

theorem SchAt.drewN {w : World} {sb : Nat} {F : Nat → Prop} {S : St} (h : SchAt w sb F S) (n : Nat) : SchAt (w.drewN n) sb F S := h.kept fun _ _ => rfl

theorem SchAt.queue {w : World} {sb : Nat} {F : Nat → Prop} {S : St} (h : SchAt w sb F S) {k : Nat} (hk : k < 9) : ∃ a cap, w.cell? ⟨sb, 2 + k, none⟩ = some (.slice a (S.ready k).length cap) := by
  obtain ⟨tag, ps, c, h, _⟩ := h
  obtain ⟨v, h1, h2, _⟩ := h.ready hk
  obtain ⟨a, cap, rfl⟩ := h2.shape
  exact ⟨a, cap, by rw [cell_of_block h.hdr h1]; simp⟩

theorem yield_none {w : World} {sb : Nat} {F : Nat → Prop} {S : St} (hA : SchAt w sb F S) (ha : S.active = 0) :
    Calls Tryz.prog 58 #[.pointer (some ⟨sb, 0, none⟩)] w fun e w' => e = .returned (.int .i64 4) ∧ w = w' := by
  have hac := hA.actCell.1
  rw [ha] at hac
  clear ha
  go_enter Tryz.func58, Tryz.ntmps58
  go_wp2
  go_ret
  exact ⟨rfl, rfl⟩

set_option maxRecDepth 100000 in
set_option maxHeartbeats 1000000 in
theorem yield_some {w : World} {sb : Nat} {F : Nat → Prop} {S : St} {N : Nat} (hA : SchAt w sb F S) (hW : S.WF N) (hN : N < 100000) (ha : S.active ≠ 0) :
    Calls Tryz.prog 58 #[.pointer (some ⟨sb, 0, none⟩)] w fun e w' => e = .returned (.int .i64 0) ∧
      Makes w sb F (if S.ready (S.prio S.active).toNat = [] then S else (S.push (S.prio S.active).toNat S.active).next) w' := by
  have hac := hA.actCell.1
  have hac2 := hW.ac
  have a1 : 1 ≤ S.active := by omega
  have a2 : S.active ≤ S.prior.length := hac2.2
  obtain ⟨g, cap, hp3, hp4⟩ := hA.priorAt a1 a2
  have d1 := (hW.prio a1 a2).1
  have d2 := (hW.prio a1 a2).2
  have hd : (S.active == 0) = false := by simpa using ha
  have hpl := hW.pl
  have c1 : S.active - 1 < (S.prior.length : Int) := by omega
  have w1' : IntKind.i64.wrap (S.active - 1) = S.active - 1 := IntWalk.i64_in _ (by omega)
  have w2' : 0 ≤ S.active - 1 := by omega
  have w3' : (S.active - 1).toNat = S.active.toNat - 1 := by omega
  have w4' : S.prio S.active < 9 := by omega
  have w5' : 0 ≤ S.prio S.active := by omega
  obtain ⟨a, cap2, hq⟩ := hA.queue (k := (S.prio S.active).toNat) (by omega)
  have HA := Lib.hid ha
  clear ha hac2
  by_cases he : S.ready (S.prio S.active).toNat = []
  · rw [if_pos he]
    rw [he] at hq
    clear he
    go_enter Tryz.func58, Tryz.ntmps58
    go_wp2_with fail
    go_quiet (fail)
    clear w1' w2' w3' w4' w5'
    go_wp2
    go_ret
    exact ⟨rfl, F, hA.drewN _, ⟨(Chg.refl _ _).drewN _, fun _ h => .inl h⟩⟩
  · rw [if_neg he]
    have hlen : (0 : Int) < (S.ready (S.prio S.active).toNat).length := by
      have := List.length_pos_iff.2 he
      omega
    have hlen2 : (S.ready (S.prio S.active).toNat).length < 100000 := by have := hW.rl (S.prio S.active).toNat; omega
    clear he
    go_enter Tryz.func58, Tryz.ntmps58
    go_wp2_with fail
    go_quiet (fail)
    clear w1' w2' w3' w4' w5'
    go_wp2_with fail
    refine (sch_add (hA.drewN _) (k := (S.prio S.active).toNat) S.active (by omega) (by omega)).mono ?_
    rintro e w1 ⟨rfl, F1, hA1, hG1⟩
    clear hac hp3 hp4 hq
    go_wp2_with fail
    refine (next_calls hA1 (hW.push _ a1 a2) (by omega)).mono ?_
    rintro e w2 ⟨rfl, hM⟩
    go_wp2
    go_ret
    exact ⟨rfl, hM.trans' (Goes.trans ⟨(Chg.refl _ _).drewN _, fun _ h => .inl h⟩ hG1)⟩

theorem yield_calls {w : World} {sb : Nat} {F : Nat → Prop} {S : St} {N : Nat} (hA : SchAt w sb F S) (hW : S.WF N) (hN : N < 100000) :
    Calls Tryz.prog 58 #[.pointer (some ⟨sb, 0, none⟩)] w fun e w' => e = .returned (.int .i64 S.yield.1) ∧ Makes w sb F S.yield.2 w' := by
  unfold St.yield
  by_cases ha : S.active = 0
  · rw [if_pos ha]
    refine (yield_none hA ha).mono fun e w' ⟨h1, h2⟩ => ?_
    subst h2
    exact ⟨h1, F, hA, Goes.refl _ _⟩
  · rw [if_neg ha]
    refine (yield_some hA hW hN ha).mono fun e w' ⟨h1, h2⟩ => ?_
    split
    · rename_i he; rw [if_pos he] at h2; exact ⟨h1, h2⟩
    · rename_i he; rw [if_neg he] at h2; exact ⟨h1, h2⟩

theorem info126 : (Tryz.prog.info? 126).map (fun i => (i.zero, i.size, i.bytes)) = some (some (.pointer none), 1, 8) := by kernel_rfl
theorem info4 : (Tryz.prog.info? 4).map (fun i => (i.zero, i.size, i.bytes)) = some (some (.bool false), 1, 1) := by kernel_rfl

/-- One semaphore more. -/
theorem SchAt.sem_more {w : World} {sb : Nat} {tag : Nat → Option Tg} {S : St} {ps : List Nat} {c : Array Value} {F : Nat → Prop} (h : Sch w sb tag S ps c) (hF : ∀ k, F k ↔ tag k ≠ none)
    {p : Nat} {v v' : Value} {w' : World} (hv : c[11]? = some v) (hhdr : w'.heap[sb]? = some (.cells (c.setIfInBounds 11 v') 116 (0, 0))) (hS : Sl w' 126 v' (ptrs (ps ++ [p])))
    (hC : Chg (fun b => b = sb ∨ some b = v.ownBlock) w w') (hN : Near w v v') (hp : w'.heap[p]? = some (.cells #[.slice none 0 0, .int .i64 0] 130 (0, 0))) (hpn : w.heap.size ≤ p) (hpv : v'.ownBlock ≠ some p) :
    Makes w sb F { S with sems := S.sems ++ [([], 0)] } w' := by
  obtain ⟨v0, e0, hS0, ht0⟩ := h.fld 11 (by omega)
  obtain rfl : v0 = v := Option.some.inj (e0.symm.trans hv)
  have hlt : ∀ k, tag k ≠ none → k < w.heap.size := h.tlt
  have hk : ∀ b, tag b ≠ none → tag b ≠ some .hdr → tag b ≠ some (.fld 11) → w'.heap[b]? = w.heap[b]? := fun b hb h1 h2 => hC.block b (hlt b hb) (by
    rintro (rfl | e)
    · exact h1 h.htag
    · exact h2 (ht0 b e.symm))
  let tag' : Nat → Option Tg := fun k => if w.heap.size ≤ k ∧ v'.ownBlock = some k then some (.fld 11) else if k = p then some (.sem ps.length) else tag k
  have hold : ∀ k, k < w.heap.size → tag' k = tag k := fun k hk => by simp only [tag']; rw [if_neg (by omega), if_neg (by omega)]
  have hof : ∀ k t, tag k = some t → tag' k = some t := fun k t ht => (hold k (hlt k (by rw [ht]; simp))).trans ht
  refine ⟨fun b => tag' b ≠ none, ⟨tag', ps ++ [p], _, ⟨hhdr, by simp [h.csz], hof _ _ h.htag, fun k ht => ?_, ?_, fun i hi => ?_, by simp [h.len], fun k q hq => ?_⟩, fun _ => Iff.rfl⟩, ⟨hC.mono fun b hb hx => ?_, fun b hb => ?_⟩⟩
  · by_cases hc : w.heap.size ≤ k ∧ v'.ownBlock = some k
    · exact hS.lt hc.2
    · simp only [tag'] at ht
      rw [if_neg hc] at ht
      by_cases e : k = p
      · subst e; exact lt_of_block hp
      · rw [if_neg e] at ht
        exact Nat.lt_of_lt_of_le (hlt k ht) hC.size
  · rw [Array.getElem?_setIfInBounds_ne (by omega)]; exact h.act
  · by_cases e : i = 11
    · subst e
      refine ⟨v', by rw [Array.getElem?_setIfInBounds_self_of_lt (by rw [h.csz]; omega)], hS, fun g hg => ?_⟩
      rcases hN with hn | ⟨g', hn, hge⟩
      · exact hof _ _ (ht0 g (hn.symm.trans hg))
      · obtain rfl : g' = g := Option.some.inj (hn.symm.trans hg)
        simp only [tag']
        rw [if_pos ⟨hge, hg⟩]
    · obtain ⟨u, h1, h2, h3⟩ := h.fld i hi
      refine ⟨u, by rw [Array.getElem?_setIfInBounds_ne (fun x => e x.symm)]; exact h1, ?_, fun g hg => hof _ _ (h3 g hg)⟩
      have ef : ({ S with sems := S.sems ++ [([], 0)] } : St).fld (ps ++ [p]) i = S.fld ps i := by simp only [St.fld]; simp [e]
      rw [ef]
      exact h2.kept fun g hg => hk g (by rw [h3 g hg]; simp) (by rw [h3 g hg]; simp) (by rw [h3 g hg]; simp; omega)
  · by_cases e : k < ps.length
    · rw [List.getElem?_append_left e] at hq
      obtain ⟨r, h1, h2, h3, h4⟩ := h.sem k q hq
      have es : ({ S with sems := S.sems ++ [([], 0)] } : St).semAt k = S.semAt k := by
        simp only [St.semAt, List.getD]; rw [List.getElem?_append_left (by rw [← h.len]; exact e)]
      rw [es]
      exact ⟨r, (hk q (by rw [h3]; simp) (by rw [h3]; simp) (by rw [h3]; simp)).trans h1, h2.kept fun g hg => hk g (by rw [h4 g hg]; simp) (by rw [h4 g hg]; simp) (by rw [h4 g hg]; simp), hof _ _ h3, fun g hg => hof _ _ (h4 g hg)⟩
    · have hk2 : k = ps.length := by have := (List.getElem?_eq_some_iff.1 hq).1; simp at this; omega
      subst hk2
      obtain rfl : p = q := by simpa using hq
      have es : ({ S with sems := S.sems ++ [([], 0)] } : St).semAt ps.length = ([], 0) := by simp [St.semAt, List.getD, h.len]
      rw [es]
      refine ⟨.slice none 0 0, hp, Sl.nil _ _, ?_, fun g hg => by simp [Value.ownBlock] at hg⟩
      simp only [tag']
      rw [if_neg (fun x => hpv x.2)]; simp
  · rw [hF]
    rcases hx with rfl | e
    · rw [h.htag]; simp
    · rw [ht0 b e.symm]; simp
  · by_cases hb' : w.heap.size ≤ b
    · exact .inr hb'
    · rw [hold b (by omega)] at hb
      exact .inl ((hF b).2 hb)

set_option maxHeartbeats 1000000 in
theorem sem_calls {w : World} {sb : Nat} {F : Nat → Prop} {S : St} {N : Nat} (hA : SchAt w sb F S) (hW : S.WF N) :
    Calls Tryz.prog 26 #[.pointer (some ⟨sb, 0, none⟩)] w fun e w' => e = .returned (.tuple #[.int .i64 S.sem.1.1, .int .i64 S.sem.1.2]) ∧ Makes w sb F S.sem.2 w' := by
  obtain ⟨tag, ps, c, h, hF⟩ := id hA
  obtain ⟨v, h1, h2, h3⟩ := h.fld 11 (by omega)
  have e : S.fld ps 11 = ptrs ps := rfl
  rw [e] at h2
  have hc : w.cell? ⟨sb, 11, none⟩ = some v := cell_of_block h.hdr h1
  have hsl := hW.sl
  unfold St.sem
  by_cases hf : S.sems.length = 100
  · rw [if_pos hf]
    obtain ⟨a, cap, rfl⟩ := h2.shape
    simp only [length_ptrs, h.len, hf] at hc
    clear h1 h2 h3 hf
    go_enter Tryz.func26, Tryz.ntmps26
    go_wp2
    go_ret2
    exact ⟨rfl, F, hA, Goes.refl _ _⟩
  · rw [if_neg hf]
    obtain ⟨a, cap, rfl⟩ := h2.shape
    have hlen : ps.length = S.sems.length := h.len
    simp only [length_ptrs, hlen] at hc h1 h2 h3
    have hd : ((S.sems.length : Int) == 100) = false := by simp; omega
    have hf1 := free_of_block h.hdr 11
    have hbl := lt_of_block h.hdr
    have hne : (Value.slice a S.sems.length cap).ownBlock ≠ some sb := fun e => by have := h3 sb e; rw [h.htag] at this; cases this
    have HF := Lib.hid hf
    have H1 := Lib.hid h1
    have H3 := Lib.hid h3
    have HN := Lib.hid hne
    have HL := Lib.hid hlen
    clear hf h1 h3 hlen hne
    go_enter Tryz.func26, Tryz.ntmps26
    go_wp2_with (at_builtin; go_must (refine wpList_push rfl _ _ 114 126 rfl (.pointer none) 8 Tryz.underlying114 info126 rfl _ (ptrs ps) rfl (Sl.chg h2 (((Chg.refl (fun _ => False) w).alloc _).alloc _) (fun _ _ h => h)) (w.heap.size + 1) (.pointer (some ⟨w.heap.size, 0, none⟩)) rfl (by simp) rfl (by simp; have := HL.out; omega) ?_))
    intro g' cap' w1 hS1 hC1 hloc
    have hC : Chg (fun k => k = sb ∨ some k = (Value.slice a S.sems.length cap).ownBlock) w w1 := (((Chg.refl _ w).alloc _).alloc _).trans hC1 (fun i _ h => .inr h)
    have hb1 : w1.heap[sb]? = some (.cells c 116 (0,0)) := hC1.get (heap_alloc_get (heap_alloc_get h.hdr)) (fun h => HN.out h.symm)
    have hpn : w1.heap[w.heap.size]? = some (.cells #[.slice none 0 0, .int .i64 0] 130 (0, 0)) := hC1.get (heap_alloc_get heap_alloc_self) (fun e => by have := h2.lt e.symm; omega)
    have hc1 : w1.cell? ⟨sb, 11, none⟩ = some _ := cell_of_block hb1 H1.out
    have hfr1 := free_of_block hb1 11
    have hsz : w.heap.size + 1 + 1 ≤ w1.heap.size := by have := hC1.size; simpa using this
    have HB1 := Lib.hid hb1
    have HPN := Lib.hid hpn
    have HLc := Lib.hid hloc
    have HS1 := Lib.hid hS1
    clear hc hf1 hb1 hloc hS1 hpn
    go_wp2
    go_ret2
    have hg : g' = w.heap.size + 1 + 1 ∨ (Value.slice a S.sems.length cap).ownBlock = some g' := HLc.out.symm
    have hS2 : Sl w1 126 (.slice (some ⟨g', 0, none⟩) (ps.length + 1) cap') (ptrs (ps ++ [w.heap.size])) := by
      rw [show ptrs (ps ++ [w.heap.size]) = ptrs ps ++ [.pointer (some ⟨w.heap.size, 0, none⟩)] from by simp [ptrs]]; exact HS1.out
    refine ⟨by rw [HL.out]; rfl, SchAt.sem_more h hF H1.out (heap_setCell_at HB1.out) (hS2.kept fun g e => ?_) (hC.setCell (fun _ => .inl rfl) _) ?_ (p := w.heap.size) ?_ (Nat.le_refl _) ?_⟩
    · simp only [Value.ownBlock, Option.some.injEq] at e
      subst e
      refine heap_setCell_ne fun e => ?_
      dsimp only at e
      subst e
      rcases hg with e | e
      · omega
      · exact HN.out e
    · rcases hg with e | e
      · exact .inr ⟨g', rfl, by omega⟩
      · exact .inl e.symm
    · rw [heap_setCell_ne (by dsimp only; omega)]; exact HPN.out
    · intro e
      simp only [Value.ownBlock, Option.some.injEq] at e
      rcases hg with e' | e'
      · omega
      · have := h2.lt e'; omega
end Go.Proofs.YtlfbommppenlcaaGreatDoor
