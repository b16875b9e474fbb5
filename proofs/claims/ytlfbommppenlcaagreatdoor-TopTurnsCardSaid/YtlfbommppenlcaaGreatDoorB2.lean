/- Small functions of the scheduler on paper: there, wakes. Conditions: it lies in memory; lengths are bounded. -/
import Derived.Test.YtlfbommppenlcaaGreatDoorB1
import Derived.Deep.RegionHeld3
import Derived.Deep.DrawnRows
namespace Go.Proofs.YtlfbommppenlcaaGreatDoor
open Go.RowKit Go.Mem
namespace Ben

theorem Bm.lenCell {w : World} {bb : Nat} {tag : Nat → Option Bt} {B : Bn} {qs : List Value} {c : Array Value} (h : Bm w bb tag B qs c) : ∃ a cap, w.cell? ⟨bb, 0, none⟩ = some (.slice a B.l.length cap) := by
  obtain ⟨v, h1, h2, h3⟩ := h.fld 0 (by omega) (by omega)
  have e0 : B.fld qs 0 = pcells B.l := rfl
  have e1 : (pcells B.l).length / bsz 0 = B.l.length := by rw [length_pcells]; unfold bsz; rw [if_pos rfl]; omega
  unfold Own at h2
  rw [e0, e1] at h2
  rcases h2.2 with ⟨rfl, hn⟩ | ⟨g, cap, cur, rfl, _⟩
  · exact ⟨none, 0, by rw [hn]; exact cell_of_block h.hdr h1⟩
  · exact ⟨_, cap, cell_of_block h.hdr h1⟩

theorem there_calls {w : World} {bb p : Nat} {F : Nat → Prop} {B : Bn} {M : Nat} (hA : BenAt w bb F B) (hW : BW M B) (hp : w.cell? ⟨p, 0, none⟩ = some (.pointer (some ⟨bb, 0, none⟩))) (k : Int) :
    Calls Tryz.prog 61 #[.int .i64 k, .pointer (some ⟨p, 0, none⟩)] w fun e w' => e = .returned (.bool (B.there k)) ∧ w = w' := by
  obtain ⟨tag, qs, c, h, hF⟩ := hA
  obtain ⟨a, cap, hc⟩ := h.lenCell
  have hll := hW.ll
  clear h hF
  unfold Bn.there
  by_cases h1 : 1 ≤ k
  · by_cases h2 : k ≤ (B.l.length : Nat)
    · have e : (decide (1 ≤ k) && decide (k ≤ (B.l.length : Nat))) = true := by simp [h1, h2]
      rw [e]
      clear e
      go_enter Tryz.func61, Tryz.ntmps61
      go_wp2
      go_ret
      exact ⟨rfl, rfl⟩
    · have e : (decide (1 ≤ k) && decide (k ≤ (B.l.length : Nat))) = false := by simp [h2]
      rw [e]
      clear e
      go_enter Tryz.func61, Tryz.ntmps61
      go_wp2
      go_ret
      exact ⟨rfl, rfl⟩
  · have e : (decide (1 ≤ k) && decide (k ≤ (B.l.length : Nat))) = false := by simp [h1]
    rw [e]
    clear e
    go_enter Tryz.func61, Tryz.ntmps61
    go_wp2
    go_ret
    exact ⟨rfl, rfl⟩

set_option maxRecDepth 100000 in
set_option maxHeartbeats 4000000 in
theorem wakes_calls {w : World} {bb : Nat} {F : Nat → Prop} {B : Bn} {M : Nat} (hA : BenAt w bb F B) (hW : BW M B) (hM : M < 900000) (k : Int) (hk1 : 1 ≤ k) (hk2 : k ≤ B.l.length) :
    Calls Tryz.prog 62 #[.pointer (some ⟨bb, 0, none⟩), .int .i64 k] w fun e w' => e = .returned (.tuple #[]) ∧ BMakes w bb F (B.wakes k) w' := by
  obtain ⟨tag, qs, c, h, hF⟩ := id hA
  obtain ⟨x, hx⟩ : ∃ x, B.l[k.toNat - 1]? = some x := ⟨_, at_some (B := B) hk1 hk2⟩
  obtain ⟨gp, capp, p0, p1, p2, p3, p4, p5, p6, p7⟩ := h.procs (k := k.toNat - 1) (x := x) hx
  have hf1 := p4 ((k.toNat - 1) * 3 + 1)
  have hf2 := p4 ((k.toNat - 1) * 3 + 2)
  have hll := hW.ll
  have hw1 : IntKind.i64.wrap (k - 1) = k - 1 := IntWalk.i64_in _ (by omega)
  have hx1 : (0 : Int) ≤ k - 1 := by omega
  have hx2 : k - 1 < (B.l.length : Nat) := by omega
  have H := Lib.hid h
  have HP0 := Lib.hid p0
  have HX := Lib.hid hx
  have HP2 := Lib.hid p2
  have hB1 : Bm ((w.setCell ⟨gp, (k.toNat - 1) * 3 + 1, none⟩ (.int .i64 1)).setCell ⟨gp, (k.toNat - 1) * 3 + 2, none⟩ (.int .i64 0)) bb tag (B.put k ⟨x.prior, 1, 0⟩) qs c := by
    have h2 := (h.setState p0 hx 1).setSem p0 (k := k.toNat - 1) (x := ⟨x.prior, 1, x.sem⟩) (by rw [List.getElem?_set_self (by omega)]) 0
    have e : (B.l.set (k.toNat - 1) ⟨x.prior, 1, x.sem⟩).set (k.toNat - 1) ⟨x.prior, 1, 0⟩ = B.l.set (k.toNat - 1) ⟨x.prior, 1, 0⟩ := List.set_set ..
    dsimp only at h2
    rw [e] at h2
    exact h2
  have hG1 : Goes F F w ((w.setCell ⟨gp, (k.toNat - 1) * 3 + 1, none⟩ (.int .i64 1)).setCell ⟨gp, (k.toNat - 1) * 3 + 2, none⟩ (.int .i64 0)) :=
    ⟨((Chg.refl _ _).setCell (fun _ => (hF gp).2 (by rw [p2]; simp)) _).setCell (fun _ => (hF gp).2 (by rw [p2]; simp)) _, fun _ h => .inl h⟩
  have hpr := hW.prior hk1 hk2
  have ex : B.at_ k = x := Option.some.inj ((at_some (B := B) hk1 hk2).symm.trans hx)
  rw [ex] at hpr
  have HB1 := Lib.hid hB1
  have HG1 := Lib.hid hG1
  have HEX := Lib.hid ex
  clear h p0 hx p4 p2 hB1 hG1 ex
  go_enter Tryz.func62, Tryz.ntmps62
  go_wp2_with fail
  clear p1 p5 p6 p7 hf1 hf2
  generalize (w.setCell ⟨gp, (k.toNat - 1) * 3 + 1, none⟩ (.int .i64 1)).setCell ⟨gp, (k.toNat - 1) * 3 + 2, none⟩ (.int .i64 0) = w1 at HB1 HG1 ⊢
  have hb1 := HB1.out
  obtain ⟨gq, capq, p0, p1, p2, p3, p4, p5, p6, p7⟩ := hb1.procs (k := k.toNat - 1) (x := ⟨x.prior, 1, 0⟩) (by show (B.l.set (k.toNat - 1) _)[k.toNat - 1]? = _; rw [List.getElem?_set_self (by omega)])
  have egq : gq = gp := by
    have := p0.symm.trans HP0.out
    simp only [Option.some.injEq, Value.slice.injEq, Addr.mk.injEq, and_true] at this
    exact this.1
  subst egq
  obtain ⟨v, h1, h2, h3, h4⟩ := hb1.ready (k := x.prior.toNat) (by omega)
  obtain ⟨a, cap, rfl⟩ := h2.shape
  rw [length_ints] at h1 h2 h3 h4
  have e0 : (B.put k ⟨x.prior, 1, 0⟩).ready x.prior.toNat = B.ready x.prior.toNat := rfl
  rw [e0] at h1 h2 h3 h4
  have hff := free_of_block hb1.hdr (1 + x.prior.toNat)
  have hbl := lt_of_block hb1.hdr
  have hrl := hW.rl x.prior.toNat
  have hp9 : x.prior < 9 := by omega
  have hp0 : 0 ≤ x.prior := by omega
  have h5 : (Value.slice a (B.ready x.prior.toNat).length cap).ownBlock ≠ some gq := by
    obtain ⟨v0, f0, _, t0⟩ := hb1.fld (1 + x.prior.toNat) (by omega) (by omega)
    have f1 := Option.some.inj (f0.symm.trans h1)
    intro e
    have := t0 gq (by rw [f1]; exact e)
    rw [p2] at this
    simp at this
    omega
  dsimp only at p5 p6 p7
  have hgl : gq < w1.heap.size := World.block_lt_of_cell? _ _ p5
  have H1 := Lib.hid h1
  have H2 := Lib.hid h2
  have H3 := Lib.hid h3
  have H5 := Lib.hid h5
  clear h5
  clear h1 h2 h3 e0 p0 p2 p6 p7 p1 p4 hb1
  go_cut [] (fun w' => BMakes w1 bb F (B.enter k 0) w' ∧ w'.cell? ⟨bb, 0, none⟩ = some (.slice (some ⟨gq, 0, none⟩) B.l.length capp))
  case first =>
    go_region_law ((refine step_cat (n := (B.ready x.prior.toNat).length) (v := .slice a (B.ready x.prior.toNat).length cap) rfl (.tmp 32) (.tmp 34) 28 3 rfl (.int .i64 0) 8 Tryz.underlying28 info3 rfl (ints (B.ready x.prior.toNat)) (length_ints _) rfl ?_ ⟨w1.heap.size, 0, none⟩ 1 1 [.int .i64 k] rfl rfl ?_ ?_ ?_ ?_); (exact Sl.chg H2.out ((((Chg.refl (fun _ => False) w1).alloc _)).drew) (fun _ _ h => h)); (intro j u hj; rcases j with _ | j; (simp at hj; subst hj; exact cell_of_block heap_alloc_self rfl); (simp at hj)); (intro u hu; simp at hu; subst hu; rfl); (omega); intro a2 cap2 w2 hS2 hC2 hl2; have hh2 : w2.heap[bb]? = some (.cells c 32 (0, 0)) := hC2.get (heap_alloc_get HB1.out.hdr) (fun e => H3.out e.symm); have hc2 := cell_of_block hh2 H1.out; have hf2 := free_of_block hh2 (1 + x.prior.toNat); have hp2 : w2.cell? ⟨gq, (k.toNat - 1) * 3, none⟩ = some (.int .i64 x.prior) := (hC2.cell (p := ⟨gq, (k.toNat - 1) * 3, none⟩) (by simp; omega) (fun e => H5.out e.symm)).trans ((World.cell?_alloc_lt _ _ _ hgl).trans p5); have HB2 := Lib.hid hh2; have HS2 := Lib.hid hS2; have HL2 := Lib.hid hl2; clear hh2 hS2 hl2)
    all_goals go_wp2_with fail
    all_goals go_meet
    all_goals
      have e : B.enter k 0 = (B.put k ⟨x.prior, 1, 0⟩).rdy x.prior.toNat (B.ready x.prior.toNat ++ [k]) := by unfold Bn.enter; rw [HEX.out]
      rw [e]
      refine ⟨?_, by rw [World.cell?_setCell_other _ _ _ _ (by simp)]; exact cell_of_block HB2.out HP0.out⟩
      first
        | exact HB1.out.readyFin hF (by omega) H1.out (u := .slice a (B.ready x.prior.toNat).length cap) (((Chg.refl _ w1).alloc _).drew) (fun g hg => .inl hg) H3.out hC2 HB2.out (by rw [ints_append]; exact HS2.out) HL2.out
        | exact HB1.out.readyFin hF (by omega) H1.out (u := .slice a (B.ready x.prior.toNat).length cap) (((Chg.refl _ w1).drew).alloc _) (fun g hg => .inl hg) H3.out hC2 HB2.out (by rw [ints_append]; exact HS2.out) HL2.out
  case rest =>
    obtain ⟨⟨F2, hA2, g2⟩, hcl⟩ := hcut
    obtain ⟨tag2, qs2, c2, hm2, hF2⟩ := id hA2
    have hact := hA2.actCell.1
    have ha0 : (B.enter k 0).active = B.active := rfl
    rw [ha0] at hact
    by_cases ha : B.active = 0
    · rw [ha] at hact
      have HA := Lib.hid ha
      clear ha hm2
      go_wp2_with fail
      refine (bnext_calls hA2 (hW.enter 0 hk1 hk2) (by omega)).mono ?_
      rintro e w5 ⟨rfl, hM5⟩
      go_wp2
      refine bodyPost_ret (results_none rfl _ _ _) rfl ?_
      refine ⟨rfl, ?_⟩
      unfold Bn.wakes
      rw [if_pos HA.out]
      exact hM5.trans' (HG1.out.trans g2)
    · have hac := hW.ac
      have hne : (B.active == 0) = false := by simpa using ha
      have hE := hW.enter 0 hk1 hk2
      have hlen := enter_len B k 0
      obtain ⟨y, hy⟩ : ∃ y, (B.enter k 0).l[B.active.toNat - 1]? = some y := ⟨_, at_some (B := B.enter k 0) (by omega) (by rw [hlen]; exact hac.2)⟩
      obtain ⟨gr, capr, r0, r1, r2, r3, r4, r5, r6, r7⟩ := hm2.procs (k := B.active.toNat - 1) (x := y) hy
      have hxk : (B.enter k 0).l[k.toNat - 1]? = some ⟨x.prior, 1, 0⟩ := by
        show (B.l.set (k.toNat - 1) ⟨(B.at_ k).prior, 1, 0⟩)[k.toNat - 1]? = _
        rw [List.getElem?_set_self (by omega), HEX.out]
      obtain ⟨gs, caps, s0, s1, s2, s3, s4, s5, s6, s7⟩ := hm2.procs (k := k.toNat - 1) (x := ⟨x.prior, 1, 0⟩) hxk
      have egr : gr = gq := by
        have := (cell_of_block hm2.hdr r0).symm.trans hcl
        simp only [Option.some.injEq, Value.slice.injEq, Addr.mk.injEq, and_true] at this
        exact this.1
      have ers : gs = gr := by
        have := s0.symm.trans r0
        simp only [Option.some.injEq, Value.slice.injEq, Addr.mk.injEq, and_true] at this
        exact this.1
      subst ers egr
      have hwa : IntKind.i64.wrap (B.active - 1) = B.active - 1 := IntWalk.i64_in _ (by omega)
      have hx3 : (0 : Int) ≤ B.active - 1 := by omega
      have hx4 : B.active - 1 < (B.l.length : Nat) := by omega
      rw [hlen] at r1
      have hgs : gs ≠ bb := s3
      have hs4 := r4 ((B.active.toNat - 1) * 3 + 1)
      have HM2 := Lib.hid hm2
      have HR0 := Lib.hid r0
      have HY := Lib.hid hy
      have HR2 := Lib.hid r2
      dsimp only at s5
      by_cases hg : x.prior > y.prior
      · clear hm2 r0 hy r2 s0 s2 s4 r4 s6 s7 r7 hcl hxk hA2 p3 s1
        go_wp2_with fail
        go_quiet (fail)
        go_wp2_with fail
        clear hs4 r6 r5 s5 r1
        have hq0 := HM2.out.kept (w' := wc.drewN nq) (fun _ _ => rfl)
        have hq1 : Bm ((wc.drewN nq).setCell ⟨gs, (B.active.toNat - 1) * 3 + 1, none⟩ (.int .i64 1)) bb tag2 ((B.enter k 0).put B.active ⟨y.prior, 1, y.sem⟩) qs2 c2 := hq0.setState HR0.out HY.out 1
        have hG3 : Goes F2 F2 wc ((wc.drewN nq).setCell ⟨gs, (B.active.toNat - 1) * 3 + 1, none⟩ (.int .i64 1)) := ⟨((Chg.refl _ _).drewN _).setCell (fun _ => (hF2 gs).2 (by rw [HR2.out]; simp)) _, fun _ h => .inl h⟩
        have ey : (B.enter k 0).at_ B.active = y := Option.some.inj ((at_some (B := B.enter k 0) (by omega) (by rw [hlen]; exact hac.2)).symm.trans HY.out)
        have hyb := hE.prior (k := B.active) (by omega) (by rw [hlen]; exact hac.2)
        rw [ey] at hyb
        have HEY := Lib.hid ey
        have HQ1 := Lib.hid hq1
        have HG3 := Lib.hid hG3
        clear hq0 hq1 hG3 ey
        generalize (wc.drewN nq).setCell ⟨gs, (B.active.toNat - 1) * 3 + 1, none⟩ (.int .i64 1) = w3 at HQ1 HG3 ⊢
        have hq1 := HQ1.out
        obtain ⟨L, hL⟩ : ∃ L, (B.enter k 0).ready y.prior.toNat = L := ⟨_, rfl⟩
        obtain ⟨ga, capa, a0, a1, a2, a3, a4, a5, a6, a7⟩ := hq1.procs (k := B.active.toNat - 1) (x := ⟨y.prior, 1, y.sem⟩) (by show ((B.enter k 0).l.set (B.active.toNat - 1) _)[B.active.toNat - 1]? = _; rw [List.getElem?_set_self (by rw [← Int.ofNat_lt]; have := hac.2; omega)])
        have hl3 : ((B.enter k 0).put B.active ⟨y.prior, 1, y.sem⟩).l.length = B.l.length := by simp [Bn.put, hlen]
        rw [hl3] at a0 a1
        obtain ⟨v, h1, h2, h3, h4⟩ := hq1.ready (k := y.prior.toNat) (by omega)
        obtain ⟨a, cap, rfl⟩ := h2.shape
        have e0 : ((B.enter k 0).put B.active ⟨y.prior, 1, y.sem⟩).ready y.prior.toNat = L := hL
        rw [length_ints] at h1 h2 h3 h4
        rw [e0] at h1 h2 h3 h4
        have hff := free_of_block hq1.hdr (1 + y.prior.toNat)
        have hbl := lt_of_block hq1.hdr
        have hrl := hE.rl y.prior.toNat
        rw [hL] at hrl
        have hp9 : y.prior < 9 := by omega
        have hp0 : 0 ≤ y.prior := by omega
        have h5 : (Value.slice a L.length cap).ownBlock ≠ some ga := by
          obtain ⟨v0, f0, _, t0⟩ := hq1.fld (1 + y.prior.toNat) (by omega) (by omega)
          have f1 := Option.some.inj (f0.symm.trans h1)
          intro e
          have := t0 ga (by rw [f1]; exact e)
          rw [a2] at this
          simp at this
          omega
        dsimp only at a5 a6 a7
        have hgl : ga < w3.heap.size := World.block_lt_of_cell? _ _ a5
        have H1b := Lib.hid h1
        have H2b := Lib.hid h2
        have H3b := Lib.hid h3
        have H5b := Lib.hid h5
        have HLe := Lib.hid hL
        have hA0 := Lib.hid a0
        clear h1 h2 h3 h5 e0 a0 a2 a6 a7 a4 hq1 hL hl3 hact p5 hgl hrl
        have hgl : ga < w3.heap.size := World.block_lt_of_cell? _ _ a5
        have hrl := hE.rl y.prior.toNat
        rw [HLe.out] at hrl
        have hx5 : (1 : Int) ≤ B.active := by omega
        have hk0 := cell_of_block HQ1.out.hdr hA0.out
        go_cut [] (fun w' => BMakes w3 bb F2 ((B.enter k 0).enter B.active y.sem) w')
        case first =>
          have hne1 := World.new_ne w3 _ hk0
          have hne2 := World.new_ne w3 _ a5
          have hne3 := World.new_ne w3 _ h4
          go_region_held3 (fun w' => w'.cell? ⟨bb, 0, none⟩ = some (.slice (some ⟨ga, 0, none⟩) B.l.length capa) ∧ w'.cell? ⟨ga, (B.active.toNat - 1) * 3, none⟩ = some (.int .i64 y.prior)) (first | go_keep | exact ⟨(World.cell?_setCell_other _ _ _ _ (by simp)).trans hc0, (World.cell?_setCell_other _ _ _ _ (by simp [a3])).trans hp2⟩)
            (((refine step_cat (n := L.length) (v := .slice a L.length cap) rfl (.tmp 98) (.tmp 100) 28 3 rfl (.int .i64 0) 8 Tryz.underlying28 info3 rfl (ints L) (length_ints _) rfl ?_ ⟨w3.heap.size, 0, none⟩ 1 1 [.int .i64 B.active] rfl rfl ?_ ?_ ?_ ?_); (exact Sl.chg H2b.out ((((Chg.refl (fun _ => False) w3).alloc _)).drew) (fun _ _ h => h)); (intro j u hj; rcases j with _ | j; (simp at hj; subst hj; exact cell_of_block heap_alloc_self rfl); (simp at hj)); (intro u hu; simp at hu; subst hu; rfl); (omega); intro a2 cap2 w4 hS2 hC2 hl2; have hh2 : w4.heap[bb]? = some (.cells c2 32 (0, 0)) := hC2.get (heap_alloc_get HQ1.out.hdr) (fun e => H3b.out e.symm); have hc2 := cell_of_block hh2 H1b.out; have hc0 := cell_of_block hh2 hA0.out; have hf2 := free_of_block hh2 (1 + y.prior.toNat); have hp2 : w4.cell? ⟨ga, (B.active.toNat - 1) * 3, none⟩ = some (.int .i64 y.prior) := (hC2.cell (p := ⟨ga, (B.active.toNat - 1) * 3, none⟩) (by simp; omega) (fun e => H5b.out e.symm)).trans ((World.cell?_alloc_lt _ _ _ hgl).trans a5); have HB2 := Lib.hid hh2; have HS2 := Lib.hid hS2; have HL2 := Lib.hid hl2; clear hh2 hS2 hl2))
          all_goals go_wp2_with fail
          all_goals go_meet
          all_goals
            have e : (B.enter k 0).enter B.active y.sem = ((B.enter k 0).put B.active ⟨y.prior, 1, y.sem⟩).rdy y.prior.toNat (L ++ [B.active]) := by rw [← HLe.out]; rw [show y = (B.enter k 0).at_ B.active from HEY.out.symm]; rfl
            rw [e]
            first
              | exact HQ1.out.readyFin hF2 (by omega) H1b.out (u := .slice a L.length cap) (((Chg.refl _ w3).alloc _).drew) (fun g hg => .inl hg) H3b.out hC2 HB2.out (by rw [ints_append]; exact HS2.out) HL2.out
              | exact HQ1.out.readyFin hF2 (by omega) H1b.out (u := .slice a L.length cap) (((Chg.refl _ w3).drew).alloc _) (fun g hg => .inl hg) H3b.out hC2 HB2.out (by rw [ints_append]; exact HS2.out) HL2.out
        case rest =>
          obtain ⟨F3, hA3, g3⟩ := hcut
          go_wp2_with fail
          refine (bnext_calls hA3 (hE.enter y.sem (by omega) (by rw [hlen]; exact hac.2)) (by omega)).mono ?_
          rintro e w5 ⟨rfl, hM5⟩
          go_wp2
          go_end0
          refine ⟨rfl, ?_⟩
          unfold Bn.wakes
          rw [if_neg ha, HEX.out, HEY.out, if_pos hg]
          exact hM5.trans' (((HG1.out.trans g2).trans HG3.out).trans g3)
      · clear hm2 r0 hy r2 s0 s2 s4 r4 s6 s7 r7 hcl hxk hA2 p3 s1
        go_wp2_with fail
        go_quiet (fail)
        go_wp2_with fail
        go_end0
        refine ⟨rfl, ?_⟩
        have ey : (B.enter k 0).at_ B.active = y := Option.some.inj ((at_some (B := B.enter k 0) (by omega) (by rw [hlen]; exact hac.2)).symm.trans HY.out)
        unfold Bn.wakes
        rw [if_neg ha, HEX.out, ey, if_neg (by omega)]
        exact ⟨F2, ⟨tag2, qs2, c2, HM2.out.kept (fun _ _ => rfl), hF2⟩, (HG1.out.trans g2).trans ⟨Chg.drewN (Chg.refl _ _) _, fun _ h => .inl h⟩⟩
end Ben
end Go.Proofs.YtlfbommppenlcaaGreatDoor
