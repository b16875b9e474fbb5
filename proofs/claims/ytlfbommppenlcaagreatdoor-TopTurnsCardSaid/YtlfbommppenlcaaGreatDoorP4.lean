/- What stays true of a scheduler on paper: lengths and ranges. No program here. Conditions: none. -/
import Derived.Test.YtlfbommppenlcaaGreatDoorP3
namespace Go.Proofs.YtlfbommppenlcaaGreatDoor
namespace Ben
open Bn

structure BW (M : Nat) (B : Bn) : Prop where
  ll : B.l.length ≤ 100
  pp : ∀ x ∈ B.l, 1 ≤ x.prior ∧ x.prior ≤ 8
  rl : ∀ i, (B.ready i).length ≤ M
  rd : ∀ i, ∀ k ∈ B.ready i, 1 ≤ k ∧ k ≤ B.l.length
  ac : 0 ≤ B.active ∧ B.active ≤ B.l.length
  sl : B.signs.length ≤ 100
  wl : B.waits.length = B.signs.length
  wq : ∀ j, (B.waits.getD j []).length ≤ M
  wr : ∀ j, ∀ k ∈ B.waits.getD j [], 1 ≤ k ∧ k ≤ B.l.length
  sg : ∀ n ∈ B.signs, 0 ≤ n ∧ n ≤ M
  s3 : ∀ x ∈ B.l, x.state = 3 → 1 ≤ x.sem ∧ x.sem ≤ B.signs.length

theorem BW.mono {M N : Nat} {B : Bn} (h : BW M B) (hm : M ≤ N) : BW N B :=
  { h with rl := fun i => Nat.le_trans (h.rl i) hm, wq := fun j => Nat.le_trans (h.wq j) hm, sg := fun n hn => ⟨(h.sg n hn).1, by have := (h.sg n hn).2; omega⟩ }
theorem BW.new : BW 0 Bn.new :=
  ⟨by simp [Bn.new], (fun x hx => nomatch hx), (fun i => by simp [Bn.new]), (fun i k hk => nomatch hk), ⟨Int.le_refl _, by simp [Bn.new]⟩, by simp [Bn.new], rfl, (fun j => by simp [Bn.new]), (fun j k hk => by simp [Bn.new] at hk), (fun n hn => nomatch hn), (fun x hx => nomatch hx)⟩
theorem at_mem {B : Bn} {k : Int} (h1 : 1 ≤ k) (h2 : k ≤ B.l.length) : B.at_ k ∈ B.l := List.mem_of_getElem? (at_some h1 h2)
theorem BW.prior {M : Nat} {B : Bn} (h : BW M B) {k : Int} (h1 : 1 ≤ k) (h2 : k ≤ B.l.length) : 1 ≤ (B.at_ k).prior ∧ (B.at_ k).prior ≤ 8 := h.pp _ (at_mem h1 h2)
theorem BW.put {M : Nat} {B : Bn} (h : BW M B) (k : Int) {x : Pr} (hx : 1 ≤ x.prior ∧ x.prior ≤ 8) (h3 : x.state = 3 → 1 ≤ x.sem ∧ x.sem ≤ B.signs.length) : BW M (B.put k x) := by
  have hl : (B.put k x).l.length = B.l.length := by simp [Bn.put]
  refine ⟨by rw [hl]; exact h.ll, fun y hy => ?_, h.rl, fun i j hj => by rw [hl]; exact h.rd i j hj, by rw [hl]; exact h.ac, h.sl, h.wl, h.wq, fun i j hj => by rw [hl]; exact h.wr i j hj, h.sg, fun y hy => ?_⟩
  · rcases List.mem_or_eq_of_mem_set hy with hy | rfl
    · exact h.pp y hy
    · exact hx
  · rcases List.mem_or_eq_of_mem_set hy with hy | rfl
    · exact h.s3 y hy
    · exact h3
theorem BW.rdy {M : Nat} {B : Bn} (h : BW M B) (i : Nat) {l : List Int} (hl : l.length ≤ M) (hm : ∀ k ∈ l, 1 ≤ k ∧ k ≤ B.l.length) : BW M (B.rdy i l) := by
  refine ⟨h.ll, h.pp, fun j => ?_, fun j k hk => ?_, h.ac, h.sl, h.wl, h.wq, h.wr, h.sg, h.s3⟩
  · show (upd B.ready i l j).length ≤ M
    by_cases e : j = i
    · subst e; rw [upd_same]; exact hl
    · rw [upd_ne _ _ e]; exact h.rl j
  · have hk' : k ∈ upd B.ready i l j := hk
    by_cases e : j = i
    · subst e; rw [upd_same] at hk'; exact hm k hk'
    · rw [upd_ne _ _ e] at hk'; exact h.rd j k hk'
theorem BW.act {M : Nat} {B : Bn} (h : BW M B) {a : Int} (ha : 0 ≤ a ∧ a ≤ B.l.length) : BW M { B with active := a } := { h with ac := ha }
theorem BW.wait {M : Nat} {B : Bn} (h : BW M B) (k : Nat) {l : List Int} (hl : l.length ≤ M) (hm : ∀ x ∈ l, 1 ≤ x ∧ x ≤ B.l.length) : BW M { B with waits := B.waits.set k l } := by
  have hg : ∀ j, (B.waits.set k l).getD j [] = if j = k ∧ k < B.waits.length then l else B.waits.getD j [] := fun j => by
    by_cases hk : k < B.waits.length
    · rw [getD_set _ _ _ _ _ hk]
      by_cases e : j = k
      · rw [if_pos e, if_pos ⟨e, hk⟩]
      · rw [if_neg e, if_neg (fun x => e x.1)]
    · rw [if_neg (fun x => hk x.2), List.set_eq_of_length_le (by omega)]
  refine ⟨h.ll, h.pp, h.rl, h.rd, h.ac, h.sl, by show (B.waits.set k l).length = _; rw [List.length_set]; exact h.wl, fun j => ?_, fun j x hx => ?_, h.sg, h.s3⟩
  · show ((B.waits.set k l).getD j []).length ≤ M
    rw [hg]; split
    · exact hl
    · exact h.wq j
  · have hx' : x ∈ (B.waits.set k l).getD j [] := hx
    rw [hg] at hx'
    split at hx'
    · exact hm x hx'
    · exact h.wr j x hx'
theorem BW.sign {M : Nat} {B : Bn} (h : BW M B) (k : Nat) {n : Int} (hn : 0 ≤ n ∧ n ≤ M) : BW M { B with signs := B.signs.set k n } :=
  ⟨h.ll, h.pp, h.rl, h.rd, h.ac, by show (B.signs.set k n).length ≤ 100; rw [List.length_set]; exact h.sl, by show _ = (B.signs.set k n).length; rw [List.length_set]; exact h.wl, h.wq, h.wr,
    fun x hx => by
      rcases List.mem_or_eq_of_mem_set hx with hx | rfl
      · exact h.sg x hx
      · exact hn,
    fun x hx e => by show _ ∧ _ ≤ ((B.signs.set k n).length : Int); rw [List.length_set]; exact h.s3 x hx e⟩
theorem BW.nextFrom {M : Nat} : ∀ (i : Nat) {B : Bn}, BW M B → BW M (B.nextFrom i)
  | 0, _, h => h
  | i + 1, B, h => by
    show BW M (match B.ready (i + 1) with | [] => Bn.nextFrom i B | k :: t => _ : Bn)
    cases e : B.ready (i + 1) with
    | nil => exact BW.nextFrom i h
    | cons k t =>
      obtain ⟨k1, k2⟩ := h.rd (i + 1) k (by rw [e]; simp)
      have hl := h.rl (i + 1)
      rw [e] at hl
      have ha : BW M ({ B with active := k } : Bn) := h.act ⟨by omega, k2⟩
      have hr : BW M (({ B with active := k } : Bn).rdy (i + 1) t) := ha.rdy (i + 1) (by simp at hl; omega) (fun x hx => h.rd (i + 1) x (by rw [e]; exact List.mem_cons_of_mem _ hx))
      exact hr.put k (h.prior k1 k2) (fun e => by simp at e)
theorem BW.next {M : Nat} {B : Bn} (h : BW M B) : BW M B.next := BW.nextFrom 8 (h.act ⟨Int.le_refl _, by omega⟩)
theorem BW.enter {M : Nat} {B : Bn} (h : BW M B) {k : Int} (s : Int) (h1 : 1 ≤ k) (h2 : k ≤ B.l.length) : BW (M + 1) (B.enter k s) := by
  have hp := (h.mono (Nat.le_succ M)).put k (x := ⟨(B.at_ k).prior, 1, s⟩) (h.prior h1 h2) (fun e => by simp at e)
  refine hp.rdy _ (by have := h.rl (B.at_ k).prior.toNat; simp; omega) (fun x hx => ?_)
  have hl : (B.put k ⟨(B.at_ k).prior, 1, s⟩).l.length = B.l.length := by simp [Bn.put]
  rw [hl]
  rcases List.mem_append.1 hx with hx | hx
  · exact h.rd _ x hx
  · obtain rfl : x = k := by simpa using hx
    exact ⟨h1, h2⟩
theorem enter_len (B : Bn) (k s : Int) : (B.enter k s).l.length = B.l.length := by simp [Bn.enter, Bn.rdy, Bn.put]
theorem BW.wakes {M : Nat} {B : Bn} (h : BW M B) {k : Int} (h1 : 1 ≤ k) (h2 : k ≤ B.l.length) : BW (M + 2) (B.wakes k) := by
  have hE := h.enter 0 h1 h2
  unfold Bn.wakes
  split
  · exact (hE.mono (by omega)).next
  · rename_i ha
    split
    · exact (hE.enter _ (by have := h.ac.1; omega) (by rw [enter_len]; exact h.ac.2)).next
    · exact hE.mono (by omega)
theorem there_iff {B : Bn} {k : Int} (h : B.there k = true) : 1 ≤ k ∧ k ≤ B.l.length := by
  simpa [Bn.there, Bool.and_eq_true, decide_eq_true_eq] using h
theorem without_len (l : List Int) (k : Int) : (without l k).length ≤ l.length := List.length_filter_le _ _
theorem mem_without {l : List Int} {k x : Int} (h : x ∈ without l k) : x ∈ l := (List.mem_filter.1 h).1
theorem nextFrom_signs : ∀ (i : Nat) (B : Bn), (B.nextFrom i).signs = B.signs
  | 0, _ => rfl
  | i + 1, B => by
    show (match B.ready (i + 1) with | [] => Bn.nextFrom i B | k :: t => _ : Bn).signs = _
    cases B.ready (i + 1) with
    | nil => exact nextFrom_signs i B
    | cons k t => rfl
theorem BW.does {M : Nat} {B : Bn} (h : BW M B) (d : Deed) : BW (M + 4) (B.does d).2 := by
  unfold Bn.does
  split
  · unfold Bn.spawn
    split
    · exact h.mono (by omega)
    · split
      · exact h.mono (by omega)
      · rename_i h1 h2
        have hM := h.mono (show M ≤ M + 4 by omega)
        have hl : ({ B with l := B.l ++ [⟨d.a, 0, 0⟩] } : Bn).l.length = B.l.length + 1 := by simp
        have := h.ll
        refine ⟨by rw [hl]; omega, fun x hx => ?_, hM.rl, fun i k hk => ?_, ?_, h.sl, h.wl, hM.wq, fun j k hk => ?_, hM.sg, fun x hx e => ?_⟩
        · rcases List.mem_append.1 hx with hx | hx
          · exact h.pp x hx
          · obtain rfl : x = _ := by simpa using hx
            show 1 ≤ d.a ∧ d.a ≤ 8
            omega
        · have := h.rd i k hk; rw [hl]; omega
        · have := h.ac; rw [hl]; show 0 ≤ B.active ∧ B.active ≤ _; omega
        · have := h.wr j k hk; rw [hl]; omega
        · rcases List.mem_append.1 hx with hx | hx
          · exact h.s3 x hx e
          · obtain rfl : x = _ := by simpa using hx
            simp at e
  · split
    · unfold Bn.resume1
      split
      · rename_i ht
        split
        · exact (h.wakes (there_iff ht).1 (there_iff ht).2).mono (by omega)
        · exact h.mono (by omega)
      · exact h.mono (by omega)
    · split
      · unfold Bn.resume2
        split
        · rename_i ht
          split
          · rename_i hu
            split
            · exact (h.wakes (there_iff ht).1 (there_iff ht).2).wakes (there_iff hu).1 (by rw [wakes_len]; exact (there_iff hu).2)
            · exact h.mono (by omega)
          · exact h.mono (by omega)
        · exact h.mono (by omega)
      · split
        · unfold Bn.suspend
          split
          · rename_i ht
            split
            · exact h.mono (by omega)
            · have hp := h.prior (there_iff ht).1 (there_iff ht).2
              refine BW.mono (M := M) (BW.put ?_ _ hp (fun e => by simp at e)) (by omega)
              unfold Bn.leave
              split
              · exact h.rdy _ (Nat.le_trans (without_len _ _) (h.rl _)) (fun x hx => h.rd _ x (mem_without hx))
              · split
                · exact h.next
                · split
                  · exact h.wait _ (Nat.le_trans (without_len _ _) (h.wq _)) (fun x hx => h.wr _ x (mem_without hx))
                  · exact h
          · exact h.mono (by omega)
        · split
          · unfold Bn.yield
            split
            · exact h.mono (by omega)
            · rename_i ha
              split
              · exact h.mono (by omega)
              · exact ((h.enter _ (by have := h.ac.1; omega) h.ac.2).next).mono (by omega)
          · split
            · unfold Bn.signal
              split
              · rename_i hk
                obtain ⟨k1, k2⟩ := hasSem_lt hk
                have hsg := h.sg _ (List.mem_of_getElem? (getElem?_of_lt 0 k2))
                split
                · rename_i p l e
                  have hq := h.wq (d.b.toNat - 1)
                  rw [e] at hq
                  have hr := h.wr (d.b.toNat - 1) p (by rw [e]; simp)
                  have hw := h.wait (d.b.toNat - 1) (l := l) (by simp at hq; omega) (fun x hx => h.wr (d.b.toNat - 1) x (by rw [e]; exact List.mem_cons_of_mem _ hx))
                  exact (hw.wakes hr.1 hr.2).mono (by omega)
                · exact (h.mono (show M ≤ M + 4 by omega)).sign _ (by omega)
              · exact h.mono (by omega)
            · split
              · unfold Bn.wait
                split
                · rename_i hk
                  obtain ⟨k1, k2⟩ := hasSem_lt hk
                  have hsg := h.sg _ (List.mem_of_getElem? (getElem?_of_lt 0 k2))
                  split
                  · exact h.mono (by omega)
                  · rename_i ha
                    have hac := h.ac
                    split
                    · exact (h.mono (show M ≤ M + 4 by omega)).sign _ (by omega)
                    · have hw := (h.mono (show M ≤ M + 4 by omega)).wait (d.b.toNat - 1) (l := B.waits.getD (d.b.toNat - 1) [] ++ [B.active]) (by have := h.wq (d.b.toNat - 1); rw [List.length_append, List.length_singleton]; omega) (fun x hx => by
                        rcases List.mem_append.1 hx with hx | hx
                        · exact h.wr _ x hx
                        · obtain rfl : x = B.active := by simpa using hx
                          omega)
                      exact (hw.put B.active (x := ⟨(B.at_ B.active).prior, 3, d.b⟩) (h.prior (by omega) hac.2) (fun _ => by show 1 ≤ d.b ∧ d.b ≤ B.signs.length; omega)).next
                · exact h.mono (by omega)
              · unfold Bn.sem
                split
                · exact h.mono (by omega)
                · have hM := h.mono (show M ≤ M + 4 by omega)
                  have hnil : ∀ j, (B.waits ++ [([] : List Int)]).getD j [] = B.waits.getD j [] := fun j => by
                    simp only [List.getD_eq_getElem?_getD]
                    rcases Nat.lt_trichotomy j B.waits.length with e | e | e
                    · rw [List.getElem?_append_left e]
                    · subst e; rw [List.getElem?_append_right (Nat.le_refl _), List.getElem?_eq_none (Nat.le_refl _)]; simp
                    · rw [List.getElem?_eq_none (by simp; omega), List.getElem?_eq_none (by omega)]
                  have hsl := h.sl
                  refine ⟨h.ll, h.pp, hM.rl, h.rd, h.ac, by show (B.signs ++ [0]).length ≤ 100; simp; omega, by show (B.waits ++ [[]]).length = (B.signs ++ [0]).length; simp [h.wl], fun j => ?_, fun j k hk => ?_, fun n hn => ?_, fun x hx e => ?_⟩
                  · show ((B.waits ++ [([] : List Int)]).getD j []).length ≤ _
                    rw [hnil]; exact hM.wq j
                  · have hk' : k ∈ (B.waits ++ [([] : List Int)]).getD j [] := hk
                    rw [hnil] at hk'
                    exact h.wr j k hk'
                  · rcases List.mem_append.1 hn with hn | hn
                    · exact hM.sg n hn
                    · obtain rfl : n = 0 := by simpa using hn
                      exact ⟨Int.le_refl _, by omega⟩
                  · have := h.s3 x hx e
                    show 1 ≤ x.sem ∧ x.sem ≤ ((B.signs ++ [0]).length : Int)
                    simp; omega
end Ben
end Go.Proofs.YtlfbommppenlcaaGreatDoor
