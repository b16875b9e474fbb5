/- The scheduler on paper: one goes to rest, or yields. Conditions: it lies in memory; lengths are bounded. -/
import Derived.Test.YtlfbommppenlcaaGreatDoorB3
import Derived.Test.YtlfbommppenlcaaGreatDoorN1
namespace Go.Proofs.YtlfbommppenlcaaGreatDoor
open Go.RowKit Go.Mem
namespace Ben

theorem nextFrom_priors : ∀ (i : Nat) (B : Bn), (∀ j, ∀ k ∈ B.ready j, 1 ≤ k ∧ k ≤ B.l.length) → (B.nextFrom i).l.map Pr.prior = B.l.map Pr.prior
  | 0, _, _ => rfl
  | i + 1, B, h => by
    show (match B.ready (i + 1) with | [] => Bn.nextFrom i B | k :: t => _ : Bn).l.map Pr.prior = _
    cases e : B.ready (i + 1) with
    | nil => exact nextFrom_priors i B h
    | cons k t =>
      obtain ⟨h1, h2⟩ := h (i + 1) k (by rw [e]; simp)
      exact prior_put (B := (({ B with active := k } : Bn).rdy (i + 1) t)) h1 h2 rfl
theorem next_priors (B : Bn) (h : ∀ j, ∀ k ∈ B.ready j, 1 ≤ k ∧ k ≤ B.l.length) : B.next.l.map Pr.prior = B.l.map Pr.prior := nextFrom_priors 8 { B with active := 0 } h

set_option maxRecDepth 100000 in
set_option maxHeartbeats 8000000 in
theorem bdoes_3_none {w : World} {bb : Nat} {F : Nat → Prop} {B : Bn} {M : Nat} (hA : BenAt w bb F B) (hW : BW M B) (a b : Int) (ht : B.there a = false) :
    Calls Tryz.prog 19 #[.pointer (some ⟨bb, 0, none⟩), .agg #[.int .i64 3, .int .i64 a, .int .i64 b]] w fun e w' => e = .returned (.tuple #[.int .i64 0, .int .i64 4]) ∧ BMakes w bb F B w' := by
  have hA1 := (hA.alloc (.cells #[.pointer (some ⟨bb, 0, none⟩)] 26)).alloc (.cells #[.int .i64 3, .int .i64 a, .int .i64 b] 36)
  have s1 := isBegun w bb 3 a b
  have hp := s1.hp
  have HA1 := Lib.hid hA1
  clear hA hA1 s1
  go_enter Tryz.func19, Tryz.ntmps19
  go_wp2_with (go_at_call 61; refine (there_calls HA1.out hW hp a).mono ?_; rintro e w' ⟨rfl, rfl⟩; rw [ht])
  go_ret2
  exact ⟨rfl, F, HA1.out, (Goes.alloc _ _).trans (Goes.alloc _ _)⟩

set_option maxRecDepth 100000 in
set_option maxHeartbeats 8000000 in
theorem bdoes_3 {w : World} {bb : Nat} {F : Nat → Prop} {B : Bn} {M : Nat} (hA : BenAt w bb F B) (hW : BW M B) (hM : M < 800000) (a b : Int) (ht : B.there a = true) :
    Calls Tryz.prog 19 #[.pointer (some ⟨bb, 0, none⟩), .agg #[.int .i64 3, .int .i64 a, .int .i64 b]] w fun e w' => e = .returned (.tuple #[.int .i64 0, .int .i64 (B.suspend a).1]) ∧ BMakes w bb F (B.suspend a).2 w' := by
  have hlt := hA.lt
  have hA1 := (hA.alloc (.cells #[.pointer (some ⟨bb, 0, none⟩)] 26)).alloc (.cells #[.int .i64 3, .int .i64 a, .int .i64 b] 36)
  have s1 := isBegun w bb 3 a b
  have hp := s1.hp
  have HA1 := Lib.hid hA1
  have HLT := Lib.hid hlt
  clear hA hA1 hlt
  go_enter Tryz.func19, Tryz.ntmps19
  go_wp2_with (go_at_call 61; refine (there_calls HA1.out hW hp a).mono ?_; rintro e w' ⟨rfl, rfl⟩; rw [ht])
  generalize (w.alloc (.cells #[.pointer (some ⟨bb, 0, none⟩)] 26)).alloc (.cells #[.int .i64 3, .int .i64 a, .int .i64 b] 36) = w1 at s1 hp HA1 ⊢
  have ht' := there_iff ht
  obtain ⟨tag, qs, c, h, hF⟩ := id HA1.out
  obtain ⟨x, hx⟩ : ∃ x, B.l[a.toNat - 1]? = some x := ⟨_, at_some (B := B) ht'.1 ht'.2⟩
  obtain ⟨g, cap, p0, p1, p2, p3, p4, p5, p6, p7⟩ := h.procs hx
  have ex : B.at_ a = x := Option.some.inj ((at_some (B := B) ht'.1 ht'.2).symm.trans hx)
  have hll := hW.ll
  have hw1 : IntKind.i64.wrap (a - 1) = a - 1 := IntWalk.i64_in _ (by omega)
  have hx1 : (0 : Int) ≤ a - 1 := by omega
  have hx3 : (1 : Int) ≤ a := by omega
  have hx2 : a - 1 < (B.l.length : Nat) := by omega
  have hd1 := s1.h1
  have S1 := Lib.hid s1
  have HEX := Lib.hid ex
  have HT := Lib.hid ht
  have HT' := Lib.hid ht'
  have HP0 := Lib.hid p0
  have HP2 := Lib.hid p2
  have HX := Lib.hid hx
  have HBM := Lib.hid h
  have HP4 := Lib.hid p4
  clear h p0 hx p2 p3 p4 p5 p7 ex ht ht' s1
  go_quiet (fail)
  have s2 : Begun w (w1.drewN nq) bb 3 a b := ⟨S1.out.hp, S1.out.h0, S1.out.h1, S1.out.h2, S1.out.chg.drewN nq, S1.out.size⟩
  have hm1 : Bm (w1.drewN nq) bb tag B qs c := HBM.out.kept (fun _ _ => rfl)
  have hp : (w1.drewN nq).cell? ⟨w.heap.size, 0, none⟩ = some (.pointer (some ⟨bb, 0, none⟩)) := s2.hp
  have hd1 : (w1.drewN nq).cell? ⟨w.heap.size + 1, 1, none⟩ = some (.int .i64 a) := s2.h1
  have p6 : (w1.drewN nq).cell? ⟨g, (a.toNat - 1) * 3 + 1, none⟩ = some (.int .i64 x.state) := p6
  generalize w1.drewN nq = w2 at s2 hm1 hp hd1 p6 ⊢
  have hg2 := s2.goes F
  clear p1
  by_cases h0 : x.state = 0
  case pos =>
    rw [h0] at p6
    have H0 := Lib.hid h0
    have HM1 := Lib.hid hm1
    clear h0 hm1
    go_wp2_with fail
    go_ret2
    unfold Bn.suspend
    rw [if_pos HT.out, HEX.out, if_pos H0.out]
    exact ⟨rfl, F, ⟨tag, qs, c, HM1.out, hF⟩, hg2⟩
  have hd0 : (x.state == 0) = false := by simpa using h0
  have H0 := Lib.hid h0
  clear h0
  -- what is left to do once it has left its row
  have hfin : ∀ (Bx : Bn) (w3 : World), Bx = B.leave a → BMakes w2 bb F Bx w3 → w3.cell? ⟨bb, 0, none⟩ = w2.cell? ⟨bb, 0, none⟩ →
      (∃ y, Bx.l[a.toNat - 1]? = some y ∧ y.prior = x.prior) →
      (∃ v1 v2, w3.cell? ⟨g, (a.toNat - 1) * 3 + 1, none⟩ = some v1 ∧ w3.cell? ⟨g, (a.toNat - 1) * 3 + 2, none⟩ = some v2 ∧ w3.frozen? ⟨g, (a.toNat - 1) * 3 + 1, none⟩ = false ∧ w3.frozen? ⟨g, (a.toNat - 1) * 3 + 2, none⟩ = false) ∧
      BMakes w bb F (B.suspend a).2 ((w3.setCell ⟨g, (a.toNat - 1) * 3 + 1, none⟩ (.int .i64 0)).setCell ⟨g, (a.toNat - 1) * 3 + 2, none⟩ (.int .i64 0)) := by
    intro Bx w3 hBx hM hc0 ⟨y, hy, hyp⟩
    obtain ⟨F3, ⟨tag3, qs3, c3, hm3, hF3⟩, g3⟩ := hM
    obtain ⟨gr, capr, r0, r1, r2, r3, r4, r5, r6, r7⟩ := hm3.procs hy
    have egr : gr = g := by
      have := r1.symm.trans (hc0.trans (cell_of_block hm1.hdr HP0.out))
      simp only [Option.some.injEq, Value.slice.injEq, Addr.mk.injEq, and_true] at this
      exact this.1
    subst egr
    refine ⟨⟨_, _, r6, r7, r4 _, r4 _⟩, F3, ⟨tag3, qs3, c3, ?_, hF3⟩, (hg2.trans g3).trans ⟨((Chg.refl _ _).setCell (fun _ => (hF3 _).2 (by rw [r2]; simp)) _).setCell (fun _ => (hF3 _).2 (by rw [r2]; simp)) _, fun _ h => .inl h⟩⟩
    have hb := hm3.setBoth r0 hy 0 0
    have e : (B.suspend a).2 = { Bx with l := Bx.l.set (a.toNat - 1) ⟨y.prior, 0, 0⟩ } := by
      unfold Bn.suspend
      rw [if_pos HT.out, HEX.out, if_neg H0.out, hyp, hBx]
      rfl
    rw [e]
    exact hb
  have he1 : (B.suspend a).1 = 0 := by
    unfold Bn.suspend
    rw [if_pos HT.out, HEX.out, if_neg H0.out]
  have HE1 := Lib.hid he1
  have HFIN := Lib.hid hfin
  clear hfin he1
  by_cases h1 : x.state = 1
  case pos =>
    rw [h1] at p6 hd0
    have hpr := hW.prior HT'.out.1 HT'.out.2
    rw [HEX.out] at hpr
    obtain ⟨v, k1, k2, k3, k4⟩ := hm1.ready (k := x.prior.toNat) (by omega)
    obtain ⟨va, vcap, rfl⟩ := k2.shape
    rw [length_ints] at k1 k2 k3 k4
    have hrl := hW.rl x.prior.toNat
    have hff := free_of_block hm1.hdr (1 + x.prior.toNat)
    have hbl := lt_of_block hm1.hdr
    have hp9 : x.prior < 9 := by omega
    have hp0 : 0 ≤ x.prior := by omega
    obtain ⟨gq, capq, r0, r1, r2, r3, r4, r5, r6, r7⟩ := hm1.procs HX.out
    have egq : gq = g := by
      have := r0.symm.trans HP0.out
      simp only [Option.some.injEq, Value.slice.injEq, Addr.mk.injEq, and_true] at this
      exact this.1
    subst egq
    have H1 := Lib.hid h1
    have K1 := Lib.hid k1
    have K2 := Lib.hid k2
    have K3 := Lib.hid k3
    have HM1 := Lib.hid hm1
    have hgb := r3
    have hpl := World.block_lt_of_cell? _ _ hp
    have hdl := World.block_lt_of_cell? _ _ hd1
    have hgl := World.block_lt_of_cell? _ _ r5
    have HGB := Lib.hid hgb
    clear h1 k1 k2 k3 hm1 r0 r1 r2 r3 r4 r6 r7 hgb
    go_wp2_with fail
    go_region_held3 (fun w' => w'.cell? ⟨w.heap.size, 0, none⟩ = some (.pointer (some ⟨bb, 0, none⟩)) ∧ w'.cell? ⟨w.heap.size + 1, 1, none⟩ = some (.int .i64 a) ∧ w'.cell? ⟨gq, (a.toNat - 1) * 3, none⟩ = some (.int .i64 x.prior)) (first | go_keep | exact ⟨hc0, hc1, hc2⟩ | exact ⟨(World.cell?_setCell_other _ _ _ _ (by simp)).trans hc0, (World.cell?_setCell_other _ _ _ _ (by simp)).trans hc1, (World.cell?_setCell_other _ _ _ _ (by simp [Ne.symm HGB.out])).trans hc2⟩)
      ((go_at_call 63; refine (without_calls (zs := B.ready x.prior.toNat) a (Sl.chg K2.out ((Chg.refl (fun _ => False) w2).drew) (fun _ _ h => h)) (by omega)).mono ?_; rintro e w3 ⟨v', rfl, hFr⟩; obtain ⟨ra, rcap, rfl⟩ := hFr.1.shape; rw [length_ints] at hFr; rw [length_ints]; have hc0 : w3.cell? ⟨w.heap.size, 0, none⟩ = some (.pointer (some ⟨bb, 0, none⟩)) := (hFr.2.1.cell (p := ⟨w.heap.size, 0, none⟩) hpl).trans hp; have hc1 : w3.cell? ⟨w.heap.size + 1, 1, none⟩ = some (.int .i64 a) := (hFr.2.1.cell (p := ⟨w.heap.size + 1, 1, none⟩) hdl).trans hd1; have hc2 : w3.cell? ⟨gq, (a.toNat - 1) * 3, none⟩ = some (.int .i64 x.prior) := (hFr.2.1.cell (p := ⟨gq, (a.toNat - 1) * 3, none⟩) hgl).trans r5; have hh2 : w3.heap[bb]? = some (.cells c 32 (0, 0)) := (hFr.2.1.block bb hbl).trans HM1.out.hdr; have hcz := cell_of_block hh2 K1.out; have hf2 := free_of_block hh2 (1 + x.prior.toNat); have HB2 := Lib.hid hh2; have HFR := Lib.hid hFr; clear hh2 hFr))
    have hM3 : BMakes w2 bb F (B.rdy x.prior.toNat (Bn.without (B.ready x.prior.toNat) a)) (w3.setCell ⟨bb, 1 + x.prior.toNat, none⟩ (.slice ra (Bn.without (B.ready x.prior.toNat) a).length rcap)) := by
      refine HM1.out.updReady hF (by omega) K1.out (heap_setCell_at HB2.out) (HFR.out.1.kept fun g hg => heap_setCell_ne ?_) ?_ (fun g hg => .inr (HFR.out.2.2 g hg))
      · have := HFR.out.2.2 g hg
        show g ≠ bb
        have e : (w2.drew).heap.size = w2.heap.size := rfl
        omega
      · exact Chg.setCell (Chg.of_below' (w := w2) (w' := w3) ⟨HFR.out.2.1.os, HFR.out.2.1.tape, HFR.out.2.1.output, HFR.out.2.1.size, HFR.out.2.1.block⟩) (fun _ => .inl rfl) _
    have hk3 : (w3.setCell ⟨bb, 1 + x.prior.toNat, none⟩ (.slice ra (Bn.without (B.ready x.prior.toNat) a).length rcap)).cell? ⟨bb, 0, none⟩ = w2.cell? ⟨bb, 0, none⟩ := (World.cell?_setCell_other _ _ _ _ (by simp)).trans (by simp [World.cell?, HB2.out, HM1.out.hdr])
    obtain ⟨t1, t2⟩ := HFIN.out _ _ (by unfold Bn.leave; rw [HEX.out, if_pos H1.out]) hM3 hk3 ⟨x, HX.out, rfl⟩
    obtain ⟨u1, u2, c1, c2, f1, f2⟩ := t1
    have T2 := Lib.hid t2
    clear t2 hM3 hk3
    generalize w3.setCell ⟨bb, 1 + x.prior.toNat, none⟩ (.slice ra (Bn.without (B.ready x.prior.toNat) a).length rcap) = w5 at T2 c1 c2 f1 f2 ⊢
    go_wp2_with fail
    go_ret2
    exact ⟨by rw [HE1.out] <;> rfl, T2.out⟩
  have hd1' : (x.state == 1) = false := by simpa using h1
  have H1 := Lib.hid h1
  clear h1
  by_cases h2 : x.state = 2
  case pos =>
    rw [h2] at p6 hd0 hd1'
    have H2 := Lib.hid h2
    have hA2 : BenAt w2 bb F B := ⟨tag, qs, c, hm1, hF⟩
    have HM1 := Lib.hid hm1
    have hnx : ∃ y, B.next.l[a.toNat - 1]? = some y ∧ y.prior = x.prior := by
      have hpn : B.next.l.map Pr.prior = B.l.map Pr.prior := next_priors B (fun i k hk => hW.rd i k hk)
      have h3 : (B.next.l.map Pr.prior)[a.toNat - 1]? = some x.prior := by rw [hpn, List.getElem?_map, HX.out]; rfl
      rw [List.getElem?_map] at h3
      cases e : B.next.l[a.toNat - 1]? with
      | none => rw [e] at h3; cases h3
      | some y => rw [e] at h3; exact ⟨y, rfl, Option.some.inj h3⟩
    have HNX := Lib.hid hnx
    clear h2 hm1 hnx
    go_wp2_with (go_at_call 64; refine (bnext_keeps hA2 hW (by omega)).mono ?_; rintro e w5 ⟨rfl, hM5, hk5⟩; obtain ⟨t1, t2⟩ := HFIN.out _ _ (by unfold Bn.leave; rw [HEX.out, if_neg H1.out, if_pos H2.out]) hM5 hk5 (HNX.out); obtain ⟨u1, u2, c1, c2, f1, f2⟩ := t1; have T2 := Lib.hid t2; clear t2 hM5 hk5)
    go_ret2
    exact ⟨by rw [HE1.out] <;> rfl, T2.out⟩
  have hd2' : (x.state == 2) = false := by simpa using h2
  have H2 := Lib.hid h2
  clear h2
  by_cases h3 : x.state = 3
  case pos =>
    rw [h3] at p6 hd0 hd1' hd2'
    obtain ⟨n1, n2⟩ := hW.s3 x (List.mem_of_getElem? HX.out) h3
    have hwl := hW.wl
    have hsl := hW.sl
    obtain ⟨gw, capw, cur, q, k1, k2, k3, k4, k5, k6, k7, k8, k9, k10, k11, k12⟩ := hm1.waitsAt (k := x.sem.toNat - 1) (by omega)
    obtain ⟨va, vcap, rfl⟩ := k10.shape
    rw [length_ints] at k6 k7 k8 k10 k11 k12
    rw [hwl] at k1 k2
    have hwq := hW.wq (x.sem.toNat - 1)
    obtain ⟨L, hL⟩ : ∃ L, B.waits.getD (x.sem.toNat - 1) [] = L := ⟨_, rfl⟩
    rw [hL] at hwq k6 k7 k8 k10 k11 k12
    have hw3 : IntKind.i64.wrap (x.sem - 1) = x.sem - 1 := IntWalk.i64_in _ (by omega)
    have hs1 : (0 : Int) ≤ x.sem - 1 := by omega
    have hs3 : (1 : Int) ≤ x.sem := by omega
    have hs2 : x.sem - 1 < (B.signs.length : Nat) := by omega
    have hff := k9 (x.sem.toNat - 1)
    have hbl := lt_of_block hm1.hdr
    have hgwl := lt_of_block k3
    obtain ⟨gq, capq, r0, r1, r2, r3, r4, r5, r6, r7⟩ := hm1.procs HX.out
    have egq : gq = g := by
      have := r0.symm.trans HP0.out
      simp only [Option.some.injEq, Value.slice.injEq, Addr.mk.injEq, and_true] at this
      exact this.1
    subst egq
    have hgq : gq ≠ gw := fun e => by rw [e, k4] at r2; simp at r2
    have hgb := r3
    have hpl := World.block_lt_of_cell? _ _ hp
    have hdl := World.block_lt_of_cell? _ _ hd1
    have hgl := World.block_lt_of_cell? _ _ r7
    have H3 := Lib.hid h3
    have K1 := Lib.hid k1
    have K3 := Lib.hid k3
    have K6 := Lib.hid k6
    have K7 := Lib.hid k7
    have K10 := Lib.hid k10
    have HM1 := Lib.hid hm1
    have HGB := Lib.hid hgb
    have HGQ := Lib.hid hgq
    have HLL := Lib.hid hL
    have K4 := Lib.hid k4
    have hpw : w.heap.size ≠ gw := fun e => by have := HLT.out gw ((hF gw).2 (by rw [k4]; simp)); omega
    have hdw : w.heap.size + 1 ≠ gw := fun e => by have := HLT.out gw ((hF gw).2 (by rw [k4]; simp)); omega
    have HPW := Lib.hid hpw
    have HDW := Lib.hid hdw
    have hk5 := k5
    have HK5 := Lib.hid hk5
    clear h3 k1 k3 k4 k5 k6 k7 k9 k10 k11 k12 hm1 r0 r1 r2 r3 r4 r5 r6 hgb hgq hL hpw hdw hk5
    go_wp2_with fail
    go_region_held3 (fun w' => w'.cell? ⟨w.heap.size, 0, none⟩ = some (.pointer (some ⟨bb, 0, none⟩)) ∧ w'.cell? ⟨w.heap.size + 1, 1, none⟩ = some (.int .i64 a) ∧ w'.cell? ⟨gq, (a.toNat - 1) * 3 + 2, none⟩ = some (.int .i64 x.sem) ∧ w'.cell? ⟨bb, 11, none⟩ = some (.slice (some ⟨gw, 0, none⟩) B.signs.length capw)) (first | go_keep | exact ⟨hc0, hc1, hc2, hcz⟩ | exact ⟨(World.cell?_setCell_other _ _ _ _ (by simp [HPW.out.symm])).trans hc0, (World.cell?_setCell_other _ _ _ _ (by simp [HDW.out.symm])).trans hc1, (World.cell?_setCell_other _ _ _ _ (by simp [HGQ.out.symm])).trans hc2, (World.cell?_setCell_other _ _ _ _ (by simp [HK5.out])).trans hcz⟩)
      ((go_at_call 63; refine (without_calls (zs := L) a (Sl.chg K10.out ((Chg.refl (fun _ => False) w2).drew) (fun _ _ h => h)) (by omega)).mono ?_; rintro e w3 ⟨v', rfl, hFr⟩; obtain ⟨ra, rcap, rfl⟩ := hFr.1.shape; rw [length_ints] at hFr; rw [length_ints]; have hc0 : w3.cell? ⟨w.heap.size, 0, none⟩ = some (.pointer (some ⟨bb, 0, none⟩)) := (hFr.2.1.cell (p := ⟨w.heap.size, 0, none⟩) hpl).trans hp; have hc1 : w3.cell? ⟨w.heap.size + 1, 1, none⟩ = some (.int .i64 a) := (hFr.2.1.cell (p := ⟨w.heap.size + 1, 1, none⟩) hdl).trans hd1; have hc2 : w3.cell? ⟨gq, (a.toNat - 1) * 3 + 2, none⟩ = some (.int .i64 x.sem) := (hFr.2.1.cell (p := ⟨gq, (a.toNat - 1) * 3 + 2, none⟩) hgl).trans r7; have hh2 : w3.heap[bb]? = some (.cells c 32 (0, 0)) := (hFr.2.1.block bb hbl).trans HM1.out.hdr; have hg3 : w3.heap[gw]? = some (.cells cur 28 (0, 0)) := (hFr.2.1.block gw hgwl).trans K3.out; have hcz := cell_of_block hh2 K1.out; have hcy := cell_of_block hg3 K7.out; have hf2 := free_of_block hg3 (x.sem.toNat - 1); have HB2 := Lib.hid hh2; have HG3 := Lib.hid hg3; have HFR := Lib.hid hFr; clear hh2 hFr hg3))
    have hM3 : BMakes w2 bb F { B with waits := B.waits.set (x.sem.toNat - 1) (Bn.without L a) } (w3.setCell ⟨gw, x.sem.toNat - 1, none⟩ (.slice ra (Bn.without L a).length rcap)) := by
      have ez : (w2.drew).heap.size = w2.heap.size := rfl
      refine BMakes.of_bm hF (by
        obtain ⟨tag', h', ho⟩ := HM1.out.setWait (w' := w3.setCell ⟨gw, x.sem.toNat - 1, none⟩ (.slice ra (Bn.without L a).length rcap)) (q' := .slice ra (Bn.without L a).length rcap) K1.out K3.out K6.out (heap_setCell_at HG3.out) (HFR.out.1.kept fun b hb => heap_setCell_ne (by
          have := HFR.out.2.2 b hb
          show b ≠ gw
          omega)) (Chg.setCell (Chg.of_below' (w := w2) (w' := w3) ⟨HFR.out.2.1.os, HFR.out.2.1.tape, HFR.out.2.1.output, HFR.out.2.1.size, HFR.out.2.1.block⟩) (fun _ => .inl rfl) _) (fun b hb => .inr (HFR.out.2.2 b hb))
        exact ⟨tag', _, _, h', ho⟩) (Chg.setCell (Chg.of_below' (w := w2) (w' := w3) ⟨HFR.out.2.1.os, HFR.out.2.1.tape, HFR.out.2.1.output, HFR.out.2.1.size, HFR.out.2.1.block⟩) (fun _ => (hF gw).2 (by rw [K4.out]; simp)) _)
    have hk3 : (w3.setCell ⟨gw, x.sem.toNat - 1, none⟩ (.slice ra (Bn.without L a).length rcap)).cell? ⟨bb, 0, none⟩ = w2.cell? ⟨bb, 0, none⟩ := (World.cell?_setCell_other _ _ _ _ (by simp [HK5.out])).trans (by simp [World.cell?, HB2.out, HM1.out.hdr])
    obtain ⟨t1, t2⟩ := HFIN.out _ _ (by unfold Bn.leave; rw [HEX.out, if_neg H1.out, if_neg H2.out, if_pos H3.out, HLL.out]) hM3 hk3 ⟨x, HX.out, rfl⟩
    obtain ⟨u1, u2, c1, c2, f1, f2⟩ := t1
    have T2 := Lib.hid t2
    clear t2 hM3 hk3
    generalize w3.setCell ⟨gw, x.sem.toNat - 1, none⟩ (.slice ra (Bn.without L a).length rcap) = w5 at T2 c1 c2 f1 f2 ⊢
    go_wp2_with fail
    go_ret2
    exact ⟨by rw [HE1.out] <;> rfl, T2.out⟩
  have hd3' : (x.state == 3) = false := by simpa using h3
  have H3 := Lib.hid h3
  clear h3
  have hM0 : BMakes w2 bb F B w2 := ⟨F, ⟨tag, qs, c, hm1, hF⟩, Goes.refl _ _⟩
  obtain ⟨t1, t2⟩ := HFIN.out _ _ (by unfold Bn.leave; rw [HEX.out, if_neg H1.out, if_neg H2.out, if_neg H3.out]) hM0 rfl ⟨x, HX.out, rfl⟩
  obtain ⟨u1, u2, c1, c2, f1, f2⟩ := t1
  have T2 := Lib.hid t2
  have HM1 := Lib.hid hm1
  clear t2 hM0 hm1
  go_wp2_with fail
  go_ret2
  exact ⟨by rw [HE1.out] <;> rfl, T2.out⟩
end Ben
end Go.Proofs.YtlfbommppenlcaaGreatDoor
