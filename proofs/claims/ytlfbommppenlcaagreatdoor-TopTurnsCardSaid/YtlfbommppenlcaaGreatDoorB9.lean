/- The scheduler on paper: others of its priority first. Conditions: it lies in memory; lengths are bounded. -/
import Derived.Test.YtlfbommppenlcaaGreatDoorB3
namespace Go.Proofs.YtlfbommppenlcaaGreatDoor
open Go.RowKit Go.Mem
namespace Ben

set_option maxRecDepth 100000 in
set_option maxHeartbeats 8000000 in
theorem bdoes_4_none {w : World} {bb : Nat} {F : Nat → Prop} {B : Bn} (hA : BenAt w bb F B) (a b : Int) (h0 : B.active = 0) :
    Calls Tryz.prog 19 #[.pointer (some ⟨bb, 0, none⟩), .agg #[.int .i64 4, .int .i64 a, .int .i64 b]] w fun e w' => e = .returned (.tuple #[.int .i64 0, .int .i64 4]) ∧ BMakes w bb F B w' := by
  have hA1 := (hA.alloc (.cells #[.pointer (some ⟨bb, 0, none⟩)] 26)).alloc (.cells #[.int .i64 4, .int .i64 a, .int .i64 b] 36)
  have hact := hA1.actCell.1
  rw [h0] at hact
  have HA1 := Lib.hid hA1
  clear hA hA1 h0
  go_enter Tryz.func19, Tryz.ntmps19
  go_wp2_with fail
  go_ret2
  exact ⟨rfl, F, HA1.out, (Goes.alloc _ _).trans (Goes.alloc _ _)⟩

set_option maxRecDepth 100000 in
set_option maxHeartbeats 8000000 in
theorem bdoes_4 {w : World} {bb : Nat} {F : Nat → Prop} {B : Bn} {M : Nat} (hA : BenAt w bb F B) (hW : BW M B) (hM : M < 800000) (a b : Int) (ha : B.active ≠ 0) :
    Calls Tryz.prog 19 #[.pointer (some ⟨bb, 0, none⟩), .agg #[.int .i64 4, .int .i64 a, .int .i64 b]] w fun e w' => e = .returned (.tuple #[.int .i64 0, .int .i64 B.yield.1]) ∧ BMakes w bb F B.yield.2 w' := by
  have hlt := hA.lt
  have hA1 := (hA.alloc (.cells #[.pointer (some ⟨bb, 0, none⟩)] 26)).alloc (.cells #[.int .i64 4, .int .i64 a, .int .i64 b] 36)
  have s1 := isBegun w bb 4 a b
  have hact := hA1.actCell.1
  have hne : (B.active == 0) = false := by simpa using ha
  have HA1 := Lib.hid hA1
  have HLT := Lib.hid hlt
  have HA := Lib.hid ha
  clear hA hA1 hlt ha
  go_enter Tryz.func19, Tryz.ntmps19
  go_wp2_with fail
  generalize (w.alloc (.cells #[.pointer (some ⟨bb, 0, none⟩)] 26)).alloc (.cells #[.int .i64 4, .int .i64 a, .int .i64 b] 36) = w1 at s1 hact HA1 ⊢
  obtain ⟨tag, qs, c, h, hF⟩ := id HA1.out
  have hac := hW.ac
  have hact1 : 1 ≤ B.active := by have := HA.out; omega
  obtain ⟨x, hx⟩ : ∃ x, B.l[B.active.toNat - 1]? = some x := ⟨_, at_some (B := B) hact1 hac.2⟩
  obtain ⟨g, cap, p0, p1, p2, p3, p4, p5, p6, p7⟩ := h.procs hx
  have ex : B.at_ B.active = x := Option.some.inj ((at_some (B := B) hact1 hac.2).symm.trans hx)
  have hpr := hW.prior hact1 hac.2
  rw [ex] at hpr
  have hll := hW.ll
  have hw1 : IntKind.i64.wrap (B.active - 1) = B.active - 1 := IntWalk.i64_in _ (by omega)
  have hx1 : (0 : Int) ≤ B.active - 1 := by omega
  have hx2 : B.active - 1 < (B.l.length : Nat) := by omega
  have hp := s1.hp
  have S1 := Lib.hid s1
  have HEX := Lib.hid ex
  have HP0 := Lib.hid p0
  have HP2 := Lib.hid p2
  have HX := Lib.hid hx
  have HBM := Lib.hid h
  have HP4 := Lib.hid p4
  have HP3 := Lib.hid p3
  clear h p0 hx p2 p3 p4 ex s1
  go_quiet (fail)
  have hm1 : Bm (w1.drewN nq) bb tag B qs c := HBM.out.kept (fun _ _ => rfl)
  have s2 : Begun w (w1.drewN nq) bb 4 a b := ⟨S1.out.hp, S1.out.h0, S1.out.h1, S1.out.h2, S1.out.chg.drewN nq, S1.out.size⟩
  clear hp p1 p5 p6 p7 hact
  generalize w1.drewN nq = w2 at s2 hm1 ⊢
  have hact := cell_of_block hm1.hdr hm1.act
  have hp := s2.hp
  obtain ⟨gq, capq, p0, p1, p2, p3, p4, p5, p6, p7⟩ := hm1.procs HX.out
  have egq : gq = g := by
    have := p0.symm.trans HP0.out
    simp only [Option.some.injEq, Value.slice.injEq, Addr.mk.injEq, and_true] at this
    exact this.1
  subst egq
  obtain ⟨v, k1, k2, k3, k4⟩ := hm1.ready (k := x.prior.toNat) (by omega)
  obtain ⟨va, vcap, rfl⟩ := k2.shape
  rw [length_ints] at k1 k2 k3 k4
  have hrl := hW.rl x.prior.toNat
  have hp9 : x.prior < 9 := by omega
  have hp0 : 0 ≤ x.prior := by omega
  obtain ⟨L, hL⟩ : ∃ L, B.ready x.prior.toNat = L := ⟨_, rfl⟩
  rw [hL] at k1 k2 k3 k4 hrl
  have S2 := Lib.hid s2
  have HM1 := Lib.hid hm1
  have HLL := Lib.hid hL
  clear s2 p0 p2 hm1 hL
  by_cases hnil : L = []
  case pos =>
    have hlen : L.length = 0 := by rw [hnil]; rfl
    rw [hlen] at k4
    have HN := Lib.hid hnil
    clear k1 k2 k3 hrl hnil hlen p4
    go_wp2_with fail
    go_quiet (fail)
    go_wp2_with fail
    go_ret2
    unfold Bn.yield
    rw [if_neg HA.out, HEX.out, if_pos (by rw [HLL.out]; exact HN.out)]
    exact ⟨rfl, F, ⟨tag, qs, c, HM1.out.kept (fun _ _ => rfl), hF⟩, (S2.out.goes F).trans ⟨(Chg.refl _ _).drewN _, fun _ h => .inl h⟩⟩
  have hpos : (0 : Int) < L.length := by
    cases L with
    | nil => exact absurd rfl hnil
    | cons z t => simp
  have HN := Lib.hid hnil
  have f1 := p4 ((B.active.toNat - 1) * 3 + 1)
  have K1 := Lib.hid k1
  have K2 := Lib.hid k2
  have K3 := Lib.hid k3
  have P4 := Lib.hid p4
  clear hnil k1 k2 k3 p4
  go_wp2_with fail
  go_quiet (fail)
  go_wp2_with fail
  have hm2 : Bm (w2.drewN nq) bb tag B qs c := HM1.out.kept (fun _ _ => rfl)
  have hm3 : Bm ((w2.drewN nq).setCell ⟨gq, (B.active.toNat - 1) * 3 + 1, none⟩ (.int .i64 1)) bb tag (B.put B.active ⟨x.prior, 1, x.sem⟩) qs c := hm2.setState HP0.out HX.out 1
  have hg3 : Goes F F w ((w2.drewN nq).setCell ⟨gq, (B.active.toNat - 1) * 3 + 1, none⟩ (.int .i64 1)) := (S2.out.goes F).trans ⟨((Chg.refl _ _).drewN _).setCell (fun _ => (hF gq).2 (by rw [HP2.out]; simp)) _, fun _ h => .inl h⟩
  have hp3 : ((w2.drewN nq).setCell ⟨gq, (B.active.toNat - 1) * 3 + 1, none⟩ (.int .i64 1)).cell? ⟨w.heap.size, 0, none⟩ = some (.pointer (some ⟨bb, 0, none⟩)) := (World.cell?_setCell_other _ _ _ _ (by
    have hlt := HLT.out gq ((hF gq).2 (by rw [HP2.out]; simp))
    intro e
    have := congrArg Addr.block e
    dsimp only at this
    omega)).trans hp
  clear hact hp p1 p5 p6 p7 k4 hpos f1 hm2 p3
  generalize (w2.drewN nq).setCell ⟨gq, (B.active.toNat - 1) * 3 + 1, none⟩ (.int .i64 1) = w3 at hm3 hg3 hp3 ⊢
  obtain ⟨ga, capa, a0, a1, a2, a3, a4, a5, a6, a7⟩ := hm3.procs (k := B.active.toNat - 1) (x := ⟨x.prior, 1, x.sem⟩) (by show (B.l.set (B.active.toNat - 1) _)[B.active.toNat - 1]? = _; rw [List.getElem?_set_self (by have := hac.2; omega)])
  have ega : ga = gq := by
    have := a0.symm.trans HP0.out
    simp only [Option.some.injEq, Value.slice.injEq, Addr.mk.injEq, and_true] at this
    exact this.1
  subst ega
  obtain ⟨v, k1, k2, k3, k4⟩ := hm3.ready (k := x.prior.toNat) (by omega)
  have e0 : (B.put B.active ⟨x.prior, 1, x.sem⟩).ready x.prior.toNat = L := HLL.out
  have ev : v = .slice va L.length vcap := Option.some.inj (k1.symm.trans K1.out)
  subst ev
  rw [e0] at k2
  have hact : w3.cell? ⟨bb, 10, none⟩ = some (.int .i64 B.active) := cell_of_block hm3.hdr hm3.act
  have hff := free_of_block hm3.hdr (1 + x.prior.toNat)
  have hbl := lt_of_block hm3.hdr
  have h5 : (Value.slice va L.length vcap).ownBlock ≠ some ga := by
    obtain ⟨v0, f0, _, t0⟩ := hm3.fld (1 + x.prior.toNat) (by omega) (by omega)
    have f1 := Option.some.inj (f0.symm.trans k1)
    intro e
    have := t0 ga (by rw [f1]; exact e)
    rw [a2] at this
    simp at this
    omega
  have h6 : (Value.slice va L.length vcap).ownBlock ≠ some w.heap.size := by
    obtain ⟨v0, f0, _, t0⟩ := hm3.fld (1 + x.prior.toNat) (by omega) (by omega)
    have f1 := Option.some.inj (f0.symm.trans k1)
    intro e
    have := HLT.out _ ((hF w.heap.size).2 (by rw [t0 w.heap.size (by rw [f1]; exact e)]; simp))
    omega
  dsimp only at a5
  have hgl : ga < w3.heap.size := World.block_lt_of_cell? _ _ a5
  have hpl := World.block_lt_of_cell? _ _ hp3
  dsimp only at hpl
  have KK1 := Lib.hid k1
  have KK2 := Lib.hid k2
  have KK3 := Lib.hid k3
  have H5 := Lib.hid h5
  have H6 := Lib.hid h6
  have HM3 := Lib.hid hm3
  have HG3 := Lib.hid hg3
  have A3 := Lib.hid a3
  clear k1 k2 k3 h5 h6 hm3 hg3 a0 a1 a2 a3 a4 a6 a7 e0
  have hne1 := World.new_ne w3 _ hp3
  have hne2 := World.new_ne w3 _ a5
  have hne3 := World.new_ne w3 _ hact
  have hne4 := World.new_ne w3 _ k4
  go_cut [] (fun w' => BMakes w3 bb F (B.enter B.active x.sem) w' ∧ w'.cell? ⟨w.heap.size, 0, none⟩ = some (.pointer (some ⟨bb, 0, none⟩)))
  case first =>
    as_aux_lemma =>
      go_region_held3 (fun w' => w'.cell? ⟨w.heap.size, 0, none⟩ = some (.pointer (some ⟨bb, 0, none⟩)) ∧ w'.cell? ⟨ga, (B.active.toNat - 1) * 3, none⟩ = some (.int .i64 x.prior) ∧ w'.cell? ⟨bb, 10, none⟩ = some (.int .i64 B.active)) (first | go_keep | exact ⟨hc0, hc1, hc2⟩ | exact ⟨(World.cell?_setCell_other _ _ _ _ (by simp)).trans hc0, (World.cell?_setCell_other _ _ _ _ (by simp [Ne.symm A3.out])).trans hc1, (World.cell?_setCell_other _ _ _ _ (by simp)).trans hc2⟩)
        (((refine step_cat (n := L.length) (v := .slice va L.length vcap) rfl (.tmp 267) (.tmp 272) 28 3 rfl (.int .i64 0) 8 Tryz.underlying28 info3 rfl (ints L) (length_ints _) rfl ?_ ⟨w3.heap.size, 0, none⟩ 1 1 [.int .i64 B.active] rfl rfl ?_ ?_ ?_ ?_); (exact Sl.chg KK2.out ((((Chg.refl (fun _ => False) w3).alloc _)).drew) (fun _ _ h => h)); (intro j u hj; rcases j with _ | j; (simp at hj; subst hj; exact cell_of_block heap_alloc_self rfl); (simp at hj)); (intro u hu; simp at hu; subst hu; rfl); (omega); intro a2 cap2 w4 hS2 hC2 hl2; have hh2 : w4.heap[bb]? = some (.cells c 32 (0, 0)) := hC2.get (heap_alloc_get HM3.out.hdr) (fun e => KK3.out e.symm); have hcz := cell_of_block hh2 KK1.out; have hc2 : w4.cell? ⟨bb, 10, none⟩ = some (.int .i64 B.active) := cell_of_block hh2 HM3.out.act; have hf2 := free_of_block hh2 (1 + x.prior.toNat); have hc1 : w4.cell? ⟨ga, (B.active.toNat - 1) * 3, none⟩ = some (.int .i64 x.prior) := (hC2.cell (p := ⟨ga, (B.active.toNat - 1) * 3, none⟩) (by simp; omega) (fun e => H5.out e.symm)).trans ((World.cell?_alloc_lt _ _ _ hgl).trans a5); have hc0 : w4.cell? ⟨w.heap.size, 0, none⟩ = some (.pointer (some ⟨bb, 0, none⟩)) := (hC2.cell (p := ⟨w.heap.size, 0, none⟩) (by simp; omega) (fun e => H6.out e.symm)).trans ((World.cell?_alloc_lt _ _ _ hpl).trans hp3); have HB2 := Lib.hid hh2; have HS2 := Lib.hid hS2; have HL2 := Lib.hid hl2; clear hh2 hS2 hl2))
      all_goals go_wp2_with fail
      all_goals go_meet
      all_goals
        have e : B.enter B.active x.sem = (B.put B.active ⟨x.prior, 1, x.sem⟩).rdy x.prior.toNat (L ++ [B.active]) := by
          unfold Bn.enter; rw [HEX.out, HLL.out]
        rw [e]
        refine ⟨?_, (World.cell?_setCell_other _ _ _ _ (by simp)).trans hc0⟩
        first
          | exact HM3.out.readyFin hF (by omega) KK1.out (u := .slice va L.length vcap) (((Chg.refl _ w3).alloc _).drew) (fun g hg => .inl hg) KK3.out hC2 HB2.out (by rw [ints_append]; exact HS2.out) HL2.out
          | exact HM3.out.readyFin hF (by omega) KK1.out (u := .slice va L.length vcap) (((Chg.refl _ w3).drew).alloc _) (fun g hg => .inl hg) KK3.out hC2 HB2.out (by rw [ints_append]; exact HS2.out) HL2.out
  case rest =>
    obtain ⟨⟨F3, hA3, g3⟩, hp4⟩ := hcut
    clear hact hp3 a5 k4 hne1 hne2 hne3 hne4
    go_wp2_with (go_at_call 64; refine (bnext_calls hA3 (hW.enter x.sem hact1 hac.2) (by omega)).mono ?_; rintro e w5 ⟨rfl, hM5⟩)
    go_ret2
    unfold Bn.yield
    rw [if_neg HA.out, HEX.out, if_neg (by rw [HLL.out]; exact HN.out)]
    exact ⟨rfl, hM5.trans' (HG3.out.trans g3)⟩
end Ben
end Go.Proofs.YtlfbommppenlcaaGreatDoor
