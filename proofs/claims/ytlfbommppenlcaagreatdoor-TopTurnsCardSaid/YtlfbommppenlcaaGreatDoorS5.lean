/- A ready queue of a scheduler: what first, add, drop and list do to the whole of it; the next one becomes active. Conditions: a scheduler lies there; its queues are short. -/
import Derived.Test.YtlfbommppenlcaaGreatDoorS4
namespace Go.Proofs.YtlfbommppenlcaaGreatDoor
open Go.RowKit Go.Mem

/-- A call that leaves a scheduler S' where S was. -/
def Makes (w : World) (sb : Nat) (F : Nat → Prop) (S' : St) (w' : World) : Prop := ∃ F', SchAt w' sb F' S' ∧ Goes F F' w w'

theorem Goes.makes {w w1 w2 : World} {sb : Nat} {F F1 : Nat → Prop} {S2 : St} (h : Goes F F1 w w1) (k : Makes w1 sb F1 S2 w2) : Makes w sb F S2 w2 := by
  obtain ⟨F2, h2, g2⟩ := k
  exact ⟨F2, h2, h.trans g2⟩

theorem Makes.trans' {w w1 w2 : World} {sb : Nat} {F F1 : Nat → Prop} {S2 : St} (k : Makes w1 sb F1 S2 w2) (h : Goes F F1 w w1) : Makes w sb F S2 w2 := h.makes k

theorem SchAt.actCell {w : World} {sb : Nat} {F : Nat → Prop} {S : St} (h : SchAt w sb F S) : w.cell? ⟨sb, 12, none⟩ = some (.int .i64 S.active) ∧ w.frozen? ⟨sb, 12, none⟩ = false := by
  obtain ⟨tag, ps, c, h, _⟩ := h
  exact ⟨cell_of_block h.hdr h.act, free_of_block h.hdr 12⟩

theorem SchAt.setAct {w : World} {sb : Nat} {F : Nat → Prop} {S : St} (h : SchAt w sb F S) (a : Int) : SchAt (w.setCell ⟨sb, 12, none⟩ (.int .i64 a)) sb F { S with active := a } := by
  obtain ⟨tag, ps, c, h, hF⟩ := h
  exact ⟨tag, ps, _, h.setAct a, hF⟩

theorem SchAt.mem {w : World} {sb : Nat} {F : Nat → Prop} {S : St} (h : SchAt w sb F S) : F sb := by
  obtain ⟨tag, ps, c, h, hF⟩ := h
  exact (hF sb).2 (by rw [h.htag]; simp)

theorem SchAt.goes_set {w : World} {sb : Nat} {F : Nat → Prop} {S : St} (h : SchAt w sb F S) (o : Nat) (u : Value) : Goes F F w (w.setCell ⟨sb, o, none⟩ u) :=
  ⟨(Chg.refl _ _).setCell (fun _ => h.mem) _, fun _ h => .inl h⟩

theorem fld_ready (S : St) (ps : List Nat) {k : Nat} (hk : k < 9) : S.fld ps (2 + k) = ints (S.ready k) := by
  unfold St.fld
  rw [if_neg (by omega), if_neg (by omega), if_neg (by omega)]
  congr 2; omega
theorem fty_ready {k : Nat} (hk : k < 9) : fty (2 + k) = 3 := by unfold fty; rw [if_neg (by omega), if_neg (by omega)]
theorem fld_ready_ne (S : St) (ps : List Nat) (k : Nat) (l : List Int) {i : Nat} (hi : i < 12) (h : i ≠ 2 + k) : ({ S with ready := upd S.ready k l } : St).fld ps i = S.fld ps i := by
  unfold St.fld
  split
  · rfl
  · split
    · rfl
    · split
      · rfl
      · dsimp only; rw [upd_ne _ _ (by omega)]

/-- Behind a step that leaves another queue in the field of readiness k. -/
theorem SchAt.ready_step {w : World} {sb : Nat} {tag : Nat → Option Tg} {S : St} {ps : List Nat} {c : Array Value} {F : Nat → Prop} (h : Sch w sb tag S ps c) (hF : ∀ k, F k ↔ tag k ≠ none) {k : Nat} (hk : k < 9)
    {v v' : Value} {l : List Int} {w' : World} (hv : c[2 + k]? = some v) (hS : Sl w' 3 v' (ints l)) (hhdr : w'.heap[sb]? = some (.cells (c.setIfInBounds (2 + k) v') 116 (0, 0)))
    (hC : Chg (fun b => b = sb ∨ some b = v.ownBlock) w w') (hN : Near w v v') : Makes w sb F { S with ready := upd S.ready k l } w' := by
  obtain ⟨v0, e0, _, ht0⟩ := h.fld (2 + k) (by omega)
  obtain rfl : v0 = v := Option.some.inj (e0.symm.trans hv)
  obtain ⟨tag', h', hold⟩ := h.upd (S' := { S with ready := upd S.ready k l }) (ps' := ps) (j := 2 + k) (by omega) hv hhdr (by rw [fty_ready hk, fld_ready _ _ hk]; simpa using hS) hC hN
    (fun i hi hne => fld_ready_ne S ps k l hi hne) rfl rfl rfl
  refine ⟨fun b => tag' b ≠ none, ⟨tag', ps, _, h', fun _ => Iff.rfl⟩, ⟨hC.mono fun b hb hx => ?_, fun b hb => ?_⟩⟩
  · rw [hF]
    rcases hx with rfl | e
    · rw [h.htag]; simp
    · rw [ht0 b e.symm]; simp
  · by_cases hb' : w.heap.size ≤ b
    · exact .inr hb'
    · rw [hold b (by omega)] at hb
      exact .inl ((hF b).2 hb)

theorem Sch.ready {w : World} {sb : Nat} {tag : Nat → Option Tg} {S : St} {ps : List Nat} {c : Array Value} (h : Sch w sb tag S ps c) {k : Nat} (hk : k < 9) :
    ∃ v, c[2 + k]? = some v ∧ Sl w 3 v (ints (S.ready k)) ∧ v.ownBlock ≠ some sb := by
  obtain ⟨v, h1, h2, h3⟩ := h.fld (2 + k) (by omega)
  rw [fty_ready hk, fld_ready _ _ hk] at h2
  exact ⟨v, h1, h2, fun e => by have := h3 sb e; rw [h.htag] at this; cases this⟩

theorem sch_first {w : World} {sb : Nat} {F : Nat → Prop} {S : St} (hA : SchAt w sb F S) {k : Nat} (hk : k < 9) (hl : (S.ready k).length < 1000000) :
    Calls Tryz.prog 94 #[.pointer (some ⟨sb, 2 + k, none⟩)] w fun e w' => e = .returned (.int .i64 ((S.ready k).headD 0)) ∧ Makes w sb F { S with ready := upd S.ready k (S.ready k).tail } w' := by
  obtain ⟨tag, ps, c, h, hF⟩ := id hA
  obtain ⟨v, hv, hS, hne⟩ := h.ready hk
  cases e : S.ready k with
  | nil =>
    rw [e] at hS
    refine (q_first_none h.hdr hv hS).mono fun e' w' ⟨h1, h2⟩ => ?_
    subst h2
    refine ⟨h1, F, ?_, Goes.refl _ _⟩
    have : upd S.ready k ([] : List Int).tail = S.ready := by funext j; unfold upd; split <;> simp_all
    rw [this]; exact hA
  | cons z zs =>
    rw [e] at hS hl
    refine (q_first_some h.hdr hv hS hne (by simp at hl; omega)).mono fun e' w' ⟨h1, v', h2, h3, h4, h5⟩ => ?_
    exact ⟨h1, SchAt.ready_step h hF hk hv h2 h3 h4 h5⟩

theorem sch_add {w : World} {sb : Nat} {F : Nat → Prop} {S : St} (hA : SchAt w sb F S) {k : Nat} (p : Int) (hk : k < 9) (hl : (S.ready k).length < 1000000) :
    Calls Tryz.prog 93 #[.pointer (some ⟨sb, 2 + k, none⟩), .int .i64 p] w fun e w' => e = .returned (.tuple #[]) ∧ Makes w sb F (S.push k p) w' := by
  obtain ⟨tag, ps, c, h, hF⟩ := id hA
  obtain ⟨v, hv, hS, hne⟩ := h.ready hk
  refine (q_add p h.hdr hv hS hne hl).mono fun e' w' ⟨h1, v', h2, h3, h4, h5⟩ => ?_
  exact ⟨h1, SchAt.ready_step h hF hk hv h2 h3 h4 h5⟩

theorem sch_drop {w : World} {sb : Nat} {F : Nat → Prop} {S : St} (hA : SchAt w sb F S) {k : Nat} (p : Int) (hk : k < 9) (hl : (S.ready k).length < 1000000) :
    Calls Tryz.prog 92 #[.pointer (some ⟨sb, 2 + k, none⟩), .int .i64 p] w fun e w' => (∃ r : Bool, e = .returned (.bool r)) ∧ Makes w sb F (S.pull k p) w' := by
  obtain ⟨tag, ps, c, h, hF⟩ := id hA
  obtain ⟨v, hv, hS, hne⟩ := h.ready hk
  refine (q_drop p h.hdr hv hS hne hl).mono fun e' w' ⟨h1, v', h2, h3, h4, h5⟩ => ?_
  exact ⟨h1, SchAt.ready_step h hF hk hv h2 h3 h4 h5⟩

theorem sch_list {w : World} {sb : Nat} {F : Nat → Prop} {S : St} (hA : SchAt w sb F S) {k : Nat} (hk : k < 9) (hl : (S.ready k).length < 1000000) :
    Calls Tryz.prog 65 #[.pointer (some ⟨sb, 2 + k, none⟩)] w fun e w' => ∃ v', e = .returned v' ∧ Sl w' 3 v' (ints (S.ready k)) ∧ Below w.heap.size w w' ∧ ∀ g, v'.ownBlock = some g → w.heap.size ≤ g := by
  obtain ⟨tag, ps, c, h, hF⟩ := id hA
  obtain ⟨v, hv, hS, hne⟩ := h.ready hk
  exact q_list h.hdr hv hS hl

set_option maxHeartbeats 1000000 in
theorem next_calls {w : World} {sb : Nat} {F : Nat → Prop} {S : St} {N : Nat} (hA : SchAt w sb F S) (hW : S.WF N) (hN : N < 1000000) :
    Calls Tryz.prog 91 #[.pointer (some ⟨sb, 0, none⟩)] w fun e w' => e = .returned (.tuple #[]) ∧ Makes w sb F S.next w' := by
  have hc := hA.actCell.1
  have hf := hA.actCell.2
  go_enter Tryz.func91, Tryz.ntmps91
  go_wp2
  go_loopw [2] (fun i wr => ∃ k : Nat, k ≤ 8 ∧ i = .int .i64 k ∧ ∃ F' S', SchAt wr sb F' S' ∧ Goes F F' w wr ∧ S'.WF N ∧ S'.nextFrom k = S.next) (fun i _ => (intOf i).toNat)
  case atStart =>
    exact ⟨8, by omega, rfl, F, _, hA.setAct 0, hA.goes_set 12 _, hW.setAct (Int.le_refl 0) (by omega), rfl⟩
  case round =>
    obtain ⟨k, hk, rfl, F', S', hA', hG, hW', hnext⟩ := hrel
    have HN := Lib.hid hnext
    clear hc hf hnext
    by_cases hk0 : k = 0
    · subst hk0
      have hc1 := hA'.actCell.1
      go_wp2
      go_end0
      exact ⟨rfl, F', by rw [← HN.out]; exact hA', hG⟩
    · have hk1 : (0 : Int) < k := by omega
      by_cases ha : S'.active = 0
      · have hc1 := hA'.actCell.1
        rw [ha] at hc1
        have HA := Lib.hid ha
        clear ha
        go_wp2_with fail
        refine (sch_first hA' (k := k) (by omega) (by have := hW'.rl k; omega)).mono ?_
        rintro e w1 ⟨rfl, F2, hA2, hG2⟩
        have hc2 := hA2.actCell.1
        have hf2 := hA2.actCell.2
        clear hc1
        go_wp2
        go_roundw
        case rel =>
          obtain ⟨j, rfl⟩ : ∃ j, k = j + 1 := ⟨k - 1, by omega⟩
          have hn := HN.out
          unfold St.nextFrom at hn
          rw [if_pos HA.out] at hn
          refine ⟨j, by omega, by go_num, F2, _, hA2.setAct _, (hG.trans hG2).trans (hA2.goes_set 12 _), ?_, by simpa using hn⟩
          simpa using hW'.first (j + 1)
        case measure => simp [intOf]; omega
      · have hc1 := hA'.actCell.1
        have hd : (S'.active == 0) = false := by simpa using ha
        have HA := Lib.hid ha
        clear ha
        go_wp2
        go_end0
        refine ⟨rfl, F', ?_, hG⟩
        rw [← HN.out]
        obtain ⟨j, rfl⟩ : ∃ j, k = j + 1 := ⟨k - 1, by omega⟩
        unfold St.nextFrom
        rw [if_neg HA.out]
        exact hA'
end Go.Proofs.YtlfbommppenlcaaGreatDoor
