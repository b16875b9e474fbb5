/- The scheduler on paper: the active one waits for a semaphore. Conditions: it lies in memory; lengths are bounded. -/
import Derived.Test.YtlfbommppenlcaaGreatDoorBa
namespace Go.Proofs.YtlfbommppenlcaaGreatDoor
open Go.RowKit Go.Mem
namespace Ben

set_option maxRecDepth 100000 in
set_option maxHeartbeats 8000000 in
theorem bdoes_6 {w : World} {bb : Nat} {F : Nat → Prop} {B : Bn} {M : Nat} (hA : BenAt w bb F B) (hW : BW M B) (hM : M < 800000) (a b : Int) (hs : B.hasSem b = true) :
    Calls Tryz.prog 19 #[.pointer (some ⟨bb, 0, none⟩), .agg #[.int .i64 6, .int .i64 a, .int .i64 b]] w fun e w' => e = .returned (.tuple #[.int .i64 0, .int .i64 (B.wait b).1]) ∧ BMakes w bb F (B.wait b).2 w' := by
  have hlt := hA.lt
  have hA1 := (hA.alloc (.cells #[.pointer (some ⟨bb, 0, none⟩)] 26)).alloc (.cells #[.int .i64 6, .int .i64 a, .int .i64 b] 36)
  have s1 := isBegun w bb 6 a b
  have hp := s1.hp
  have hb := s1.h2
  have hk0 := s1.h0
  obtain ⟨tag, qs, c, h, hF⟩ := id hA1
  obtain ⟨sa, scap, k1, k2, k3, k4⟩ := h.signsCell
  have hsl := hW.sl
  have HBM := Lib.hid h
  have S1 := Lib.hid s1
  obtain ⟨hb1, hb2⟩ := hasSem_true hs
  have HLT := Lib.hid hlt
  have HS := Lib.hid hs
  clear hA hA1 s1 h k1 k3 k4 hs hlt
  have hn : ¬ b < 1 := by omega
  have hn3 : ¬ (B.signs.length : Int) < b := by omega
  have hwl := hW.wl
  have hw1 : IntKind.i64.wrap (b - 1) = b - 1 := IntWalk.i64_in _ (by omega)
  have hx1 : (0 : Int) ≤ b - 1 := by omega
  have hx2 : b - 1 < (B.signs.length : Nat) := by omega
  go_enter Tryz.func19, Tryz.ntmps19
  go_wp2_with fail
  generalize (w.alloc (.cells #[.pointer (some ⟨bb, 0, none⟩)] 26)).alloc (.cells #[.int .i64 6, .int .i64 a, .int .i64 b] 36) = w1 at hp hb hk0 k2 S1 HBM hF ⊢
  go_quiet (fail)
  have s2 : Begun w (w1.drewN nq) bb 6 a b := ⟨S1.out.hp, S1.out.h0, S1.out.h1, S1.out.h2, S1.out.chg.drewN nq, S1.out.size⟩
  have hm2 : Bm (w1.drewN nq) bb tag B qs c := HBM.out.kept (fun _ _ => rfl)
  clear hp hb hk0 k2
  generalize w1.drewN nq = w2 at s2 hm2 ⊢
  have hp := s2.hp
  have hb := s2.h2
  have hk0 := s2.h0
  have hact : w2.cell? ⟨bb, 10, none⟩ = some (.int .i64 B.active) := cell_of_block hm2.hdr hm2.act
  have S2 := Lib.hid s2
  have HM2 := Lib.hid hm2
  clear s2 hm2
  by_cases ha : B.active = 0
  case pos =>
    rw [ha] at hact
    have HA0 := Lib.hid ha
    clear ha
    go_wp2_with fail
    go_ret2
    unfold Bn.wait
    rw [if_pos HS.out, if_pos HA0.out]
    exact ⟨rfl, F, ⟨tag, qs, c, HM2.out, hF⟩, S2.out.goes F⟩
  have hac := hW.ac
  have hact1 : 1 ≤ B.active := by omega
  have hne : (B.active == 0) = false := by simpa using ha
  have HA0 := Lib.hid ha
  clear ha
  obtain ⟨sa, scap, k1, k2, k3, k4⟩ := HM2.out.signsCell
  obtain ⟨gs, es, kc⟩ := Sl.int_at (l := B.signs) (i := b.toNat - 1) k3 (by omega)
  subst es
  obtain ⟨n, hN⟩ : ∃ n, B.signs.getD (b.toNat - 1) 0 = n := ⟨_, rfl⟩
  rw [hN] at kc
  have hnb := hW.sg n (by rw [← hN]; exact List.mem_of_getElem? (getElem?_of_lt 0 (by omega)))
  have hgf : w2.frozen? ⟨gs, b.toNat - 1, none⟩ = false := by
    rcases k3.cases with ⟨e, _⟩ | ⟨g', cap', cur', e, hg, _⟩
    · cases e
    · simp only [Value.slice.injEq, Option.some.injEq, Addr.mk.injEq, and_true] at e
      rw [e.1]; exact free_of_block hg _
  have hgt := k4 gs rfl
  have K1 := Lib.hid k1
  have HN := Lib.hid hN
  have HGT := Lib.hid hgt
  clear k1 k3 k4 hN hgt
  by_cases hpos : 0 < n
  case pos =>
    have hwn : IntKind.i64.wrap (n - 1) = n - 1 := IntWalk.i64_in _ (by omega)
    have HPOS := Lib.hid hpos
    go_wp2_with fail
    go_quiet (fail)
    go_wp2_with fail
    have s3 : Begun w (w2.drewN nq) bb 6 a b := ⟨S2.out.hp, S2.out.h0, S2.out.h1, S2.out.h2, S2.out.chg.drewN nq, S2.out.size⟩
    have hm3 : Bm (w2.drewN nq) bb tag B qs c := HM2.out.kept (fun _ _ => rfl)
    have k2 : (w2.drewN nq).cell? ⟨bb, 12, none⟩ = some (.slice (some ⟨gs, 0, none⟩) B.signs.length scap) := k2
    have kc : (w2.drewN nq).cell? ⟨gs, b.toNat - 1, none⟩ = some (.int .i64 n) := kc
    have hgf : (w2.drewN nq).frozen? ⟨gs, b.toNat - 1, none⟩ = false := hgf
    clear hp hb hk0 hact
    generalize w2.drewN nq = w3 at s3 hm3 k2 kc hgf ⊢
    have hp := s3.hp
    have hb := s3.h2
    have hpg : gs ≠ w.heap.size := fun e => by have := HLT.out gs ((hF gs).2 (by rw [HGT.out]; simp)); omega
    have hdg : gs ≠ w.heap.size + 1 := fun e => by have := HLT.out gs ((hF gs).2 (by rw [HGT.out]; simp)); omega
    have hbg : gs ≠ bb := fun e => by have := HGT.out; rw [e, hm3.htag] at this; cases this
    have S3 := Lib.hid s3
    have HM3 := Lib.hid hm3
    clear s3 hm3
    go_region_held3 (fun w' => w'.cell? ⟨w.heap.size, 0, none⟩ = some (.pointer (some ⟨bb, 0, none⟩)) ∧ w'.cell? ⟨w.heap.size + 1, 2, none⟩ = some (.int .i64 b) ∧ w'.cell? ⟨bb, 12, none⟩ = some (.slice (some ⟨gs, 0, none⟩) B.signs.length scap)) (go_keep) (fail)
    go_wp2_with fail
    go_ret2
    unfold Bn.wait
    rw [if_pos HS.out, if_neg HA0.out, HN.out, if_pos HPOS.out]
    refine ⟨rfl, F, ⟨tag, qs, c, ?_, hF⟩, (S3.out.goes F).trans ⟨((Chg.refl _ _).setCell (fun _ => (hF gs).2 (by rw [HGT.out]; simp)) _).drew, fun _ h => .inl h⟩⟩
    exact (HM3.out.setElem (B' := { B with signs := B.signs.set (b.toNat - 1) (n - 1) }) (j := 12) (by omega) (by omega) K1.out (b.toNat - 1) (.int .i64 (n - 1)) (ints_set _ _ _) (fun i _ _ hne => by unfold Bn.fld; rw [if_neg hne, if_neg hne]) rfl rfl).kept (fun _ _ => rfl)
  have hnp : ¬ 0 < n := hpos
  have HPOS := Lib.hid hpos
  clear hpos
  -- the active one waits
  obtain ⟨x, hx⟩ : ∃ x, B.l[B.active.toNat - 1]? = some x := ⟨_, at_some (B := B) hact1 hac.2⟩
  obtain ⟨g, cap, p0, p1, p2, p3, p4, p5, p6, p7⟩ := HM2.out.procs hx
  have ex : B.at_ B.active = x := Option.some.inj ((at_some (B := B) hact1 hac.2).symm.trans hx)
  have hll := hW.ll
  have hwa : IntKind.i64.wrap (B.active - 1) = B.active - 1 := IntWalk.i64_in _ (by omega)
  have ha1 : (0 : Int) ≤ B.active - 1 := by omega
  have ha2 : B.active - 1 < (B.l.length : Nat) := by omega
  have f1 := p4 ((B.active.toNat - 1) * 3 + 1)
  have f2 := p4 ((B.active.toNat - 1) * 3 + 2)
  have HEX := Lib.hid ex
  have HP0 := Lib.hid p0
  have HP2 := Lib.hid p2
  have HX := Lib.hid hx
  have HP3 := Lib.hid p3
  clear ex p0 p2 hx p3 p4 p5
  go_wp2_with fail
  go_quiet (fail)
  have s3 : Begun w (w2.drewN nq) bb 6 a b := ⟨S2.out.hp, S2.out.h0, S2.out.h1, S2.out.h2, S2.out.chg.drewN nq, S2.out.size⟩
  have hm3 : Bm (w2.drewN nq) bb tag B qs c := HM2.out.kept (fun _ _ => rfl)
  have hact : (w2.drewN nq).cell? ⟨bb, 10, none⟩ = some (.int .i64 B.active) := hact
  have p1 : (w2.drewN nq).cell? ⟨bb, 0, none⟩ = some (.slice (some ⟨g, 0, none⟩) B.l.length cap) := p1
  have p6 : (w2.drewN nq).cell? ⟨g, (B.active.toNat - 1) * 3 + 1, none⟩ = some (.int .i64 x.state) := p6
  have p7 : (w2.drewN nq).cell? ⟨g, (B.active.toNat - 1) * 3 + 2, none⟩ = some (.int .i64 x.sem) := p7
  have f1 : (w2.drewN nq).frozen? ⟨g, (B.active.toNat - 1) * 3 + 1, none⟩ = false := f1
  have f2 : (w2.drewN nq).frozen? ⟨g, (B.active.toNat - 1) * 3 + 2, none⟩ = false := f2
  clear hp hb hk0 k2 kc hgf
  generalize w2.drewN nq = w3 at s3 hm3 hact p1 p6 p7 f1 f2 ⊢
  have hp := s3.hp
  have hb := s3.h2
  have S3 := Lib.hid s3
  have HM3 := Lib.hid hm3
  clear s3 hm3
  have hgp : g ≠ w.heap.size := fun e => by have := HLT.out g ((hF g).2 (by rw [HP2.out]; simp)); omega
  have hgd : g ≠ w.heap.size + 1 := fun e => by have := HLT.out g ((hF g).2 (by rw [HP2.out]; simp)); omega
  go_wp2_with fail
  go_quiet (fail)
  go_wp2_with fail
  have hm4 : Bm (((w3.drewN nq).setCell ⟨g, (B.active.toNat - 1) * 3 + 1, none⟩ (.int .i64 3)).setCell ⟨g, (B.active.toNat - 1) * 3 + 2, none⟩ (.int .i64 b)) bb tag (B.put B.active ⟨x.prior, 3, b⟩) qs c := (HM3.out.kept (w' := w3.drewN nq) (fun _ _ => rfl)).setBoth HP0.out HX.out 3 b
  have hc4 : Chg F w3 (((w3.drewN nq).setCell ⟨g, (B.active.toNat - 1) * 3 + 1, none⟩ (.int .i64 3)).setCell ⟨g, (B.active.toNat - 1) * 3 + 2, none⟩ (.int .i64 b)) := (((Chg.refl _ _).drewN _).setCell (fun _ => (hF g).2 (by rw [HP2.out]; simp)) _).setCell (fun _ => (hF g).2 (by rw [HP2.out]; simp)) _
  clear hact p1 p6 p7 f1 f2 hgp hgd hp hb
  generalize ((w3.drewN nq).setCell ⟨g, (B.active.toNat - 1) * 3 + 1, none⟩ (.int .i64 3)).setCell ⟨g, (B.active.toNat - 1) * 3 + 2, none⟩ (.int .i64 b) = w4 at hm4 hc4 ⊢
  obtain ⟨hp, -, -, hb⟩ := S3.out.kept HLT.out hc4
  obtain ⟨gw, capw, cur, q, c1, c2, c3, c4, c5, c6, c7, c8, c9, c10, c11, c12⟩ := hm4.waitsAt (k := b.toNat - 1) (by show b.toNat - 1 < B.waits.length; omega)
  have ew : (B.put B.active ⟨x.prior, 3, b⟩).waits = B.waits := rfl
  rw [ew] at c1 c2 c10
  rw [hwl] at c1 c2
  obtain ⟨va, vcap, rfl⟩ := c10.shape
  rw [length_ints] at c6 c7 c8 c10 c11 c12
  obtain ⟨L, hL⟩ : ∃ L, B.waits.getD (b.toNat - 1) [] = L := ⟨_, rfl⟩
  have hwq := hW.wq (b.toNat - 1)
  rw [hL] at hwq c6 c7 c8 c10 c11 c12
  have hact : w4.cell? ⟨bb, 10, none⟩ = some (.int .i64 B.active) := cell_of_block hm4.hdr hm4.act
  have hpg : gw ≠ w.heap.size := fun e => by have := HLT.out gw ((hF gw).2 (by rw [c4]; simp)); omega
  have hdg : gw ≠ w.heap.size + 1 := fun e => by have := HLT.out gw ((hF gw).2 (by rw [c4]; simp)); omega
  have hqt := (hm4.wq _ _ c6).2
  have hqp : (Value.slice va L.length vcap).ownBlock ≠ some w.heap.size := fun e => by have := HLT.out w.heap.size ((hF w.heap.size).2 (by rw [hqt _ e]; simp)); omega
  have hqd : (Value.slice va L.length vcap).ownBlock ≠ some (w.heap.size + 1) := fun e => by have := HLT.out (w.heap.size + 1) ((hF (w.heap.size + 1)).2 (by rw [hqt _ e]; simp)); omega
  have hbl := lt_of_block hm4.hdr
  have hgl := lt_of_block c3
  have hpl := World.block_lt_of_cell? _ _ hp
  have hdl := World.block_lt_of_cell? _ _ hb
  dsimp only at hpl hdl
  have hgf3 := free_of_block c3 (b.toNat - 1)
  have hgq : ∀ g', (Value.slice va L.length vcap).ownBlock = some g' → F g' := fun g' e => (hF g').2 (by rw [hqt _ e]; simp)
  have C1 := Lib.hid c1
  have C3 := Lib.hid c3
  have C4 := Lib.hid c4
  have C5 := Lib.hid c5
  have C6 := Lib.hid c6
  have C7 := Lib.hid c7
  have C10 := Lib.hid c10
  have C11 := Lib.hid c11
  have C12 := Lib.hid c12
  have HQP := Lib.hid hqp
  have HQD := Lib.hid hqd
  have HLL := Lib.hid hL
  have HM4 := Lib.hid hm4
  have HC4 := Lib.hid hc4
  have HGQ := Lib.hid hgq
  have hbg : gw ≠ bb := c5
  clear c1 c3 c4 c5 c6 c7 c9 c10 c11 c12 hqp hqd hL hm4 hc4 hgq hqt ew
  have hne1 := World.new_ne w4 _ hp
  have hne2 := World.new_ne w4 _ hb
  have hne3 := World.new_ne w4 _ c2
  have hne4 := World.new_ne w4 _ c8
  have hne5 := World.new_ne w4 _ hact
  go_cut [] (fun w' => BMakes w4 bb F { (B.put B.active ⟨x.prior, 3, b⟩) with waits := B.waits.set (b.toNat - 1) (L ++ [B.active]) } w' ∧ w'.cell? ⟨w.heap.size, 0, none⟩ = some (.pointer (some ⟨bb, 0, none⟩)))
  case first =>
    as_aux_lemma =>
      go_region_held3 (fun w' => w'.cell? ⟨w.heap.size, 0, none⟩ = some (.pointer (some ⟨bb, 0, none⟩)) ∧ w'.cell? ⟨w.heap.size + 1, 2, none⟩ = some (.int .i64 b) ∧ w'.cell? ⟨bb, 11, none⟩ = some (.slice (some ⟨gw, 0, none⟩) B.signs.length capw) ∧ w'.cell? ⟨bb, 10, none⟩ = some (.int .i64 B.active)) (go_keep)
        (((refine step_cat (n := L.length) (v := .slice va L.length vcap) rfl (.tmp 397) (.tmp 402) 28 3 rfl (.int .i64 0) 8 Tryz.underlying28 info3 rfl (ints L) (length_ints _) rfl ?_ ⟨w4.heap.size, 0, none⟩ 1 1 [.int .i64 B.active] rfl rfl ?_ ?_ ?_ ?_); (exact Sl.chg C10.out ((((Chg.refl (fun _ => False) w4).alloc _)).drew) (fun _ _ h => h)); (intro j u hj; rcases j with _ | j; (simp at hj; subst hj; exact cell_of_block heap_alloc_self rfl); (simp at hj)); (intro u hu; simp at hu; subst hu; rfl); (omega); intro a2 cap2 w5 hS2 hC2 hl2; have hh2 : w5.heap[bb]? = some (.cells c 32 (0, 0)) := hC2.get (heap_alloc_get HM4.out.hdr) (fun e => C12.out e.symm); have hg4 : w5.heap[gw]? = some (.cells cur 28 (0, 0)) := hC2.get (heap_alloc_get C3.out) (fun e => C11.out e.symm); have hcz : w5.cell? ⟨bb, 11, none⟩ = some (.slice (some ⟨gw, 0, none⟩) B.signs.length capw) := cell_of_block hh2 C1.out; have hcx : w5.cell? ⟨bb, 10, none⟩ = some (.int .i64 B.active) := cell_of_block hh2 HM4.out.act; have hcy := cell_of_block hg4 C7.out; have hf2 := free_of_block hg4 (b.toNat - 1); have hc0 : w5.cell? ⟨w.heap.size, 0, none⟩ = some (.pointer (some ⟨bb, 0, none⟩)) := (hC2.cell (p := ⟨w.heap.size, 0, none⟩) (by simp; omega) (fun e => HQP.out e.symm)).trans ((World.cell?_alloc_lt _ _ _ hpl).trans hp); have hc1 : w5.cell? ⟨w.heap.size + 1, 2, none⟩ = some (.int .i64 b) := (hC2.cell (p := ⟨w.heap.size + 1, 2, none⟩) (by simp; omega) (fun e => HQD.out e.symm)).trans ((World.cell?_alloc_lt _ _ _ hdl).trans hb); have HB2 := Lib.hid hh2; have HG4 := Lib.hid hg4; have HS2 := Lib.hid hS2; have HL2 := Lib.hid hl2; clear hh2 hS2 hl2 hg4))
      all_goals go_wp2_with fail
      all_goals go_meet
      all_goals
        have hL4 : ∀ g', (Value.slice a2 (L.length + 1) cap2).ownBlock = some g' → (Value.slice va L.length vcap).ownBlock = some g' ∨ w4.heap.size ≤ g' := fun g' hg => by
          rcases HL2.out g' hg with h | h
          · exact .inl h
          · exact .inr (by rw [h]; show w4.heap.size ≤ (w4.alloc _).heap.size; simp)
        have hCC : Chg (fun b' => b' = gw ∨ some b' = (Value.slice va L.length vcap).ownBlock) w4 (w5.setCell ⟨gw, b.toNat - 1, none⟩ (.slice a2 (L.length + 1) cap2)) :=
          Chg.setCell (((((Chg.refl (fun _ => False) w4).alloc _).drew).mono (fun _ _ x => x.elim)).trans hC2 (fun i hi e => .inr e)) (fun _ => .inl rfl) _
        have hS5 : Sl w5 3 (.slice a2 (L.length + 1) cap2) (ints (L ++ [B.active])) := by rw [ints_append]; exact HS2.out
        obtain ⟨tag', h', ho⟩ := HM4.out.setWait (w' := w5.setCell ⟨gw, b.toNat - 1, none⟩ (.slice a2 (L.length + 1) cap2)) (q' := .slice a2 (L.length + 1) cap2) (l := L ++ [B.active]) C1.out C3.out C6.out (heap_setCell_at HG4.out) (hS5.kept fun b' hb' => heap_setCell_ne (by
          show b' ≠ gw
          rcases hL4 b' hb' with h | h
          · rintro rfl; exact C11.out h
          · omega)) hCC hL4
        refine ⟨BMakes.of_bm hF ⟨tag', _, _, h', ho⟩ (hCC.mono fun b' _ h => ?_), (World.cell?_setCell_far _ _ _ _ (by simpa using hpg)).trans hc0⟩
        rcases h with rfl | h
        · exact (hF _).2 (by rw [C4.out]; simp)
        · exact HGQ.out _ h.symm
  case rest =>
    obtain ⟨⟨F5, hA5, g5⟩, hp5⟩ := hcut
    have hW5 : BW (M + 1) { (B.put B.active ⟨x.prior, 3, b⟩) with waits := B.waits.set (b.toNat - 1) (L ++ [B.active]) } := by
      have hw := (hW.mono (Nat.le_succ M)).wait (b.toNat - 1) (l := L ++ [B.active]) (by rw [List.length_append, List.length_singleton]; omega) (fun y hy => by
        rcases List.mem_append.1 hy with hy | hy
        · exact hW.wr (b.toNat - 1) y (by rw [HLL.out]; exact hy)
        · obtain rfl : y = B.active := by simpa using hy
          omega)
      have hpr := hW.prior hact1 hac.2
      rw [HEX.out] at hpr
      exact hw.put B.active (x := ⟨x.prior, 3, b⟩) hpr (fun _ => by show 1 ≤ b ∧ b ≤ B.signs.length; omega)
    clear hp hb c2 c8 hact hne1 hne2 hne3 hne4 hne5
    go_wp2_with (go_at_call 64; refine (bnext_calls hA5 hW5 (by omega)).mono ?_; rintro e w6 ⟨rfl, hM6⟩)
    go_ret2
    unfold Bn.wait
    rw [if_pos HS.out, if_neg HA0.out, HN.out, if_neg (by have := HPOS.out; omega), HEX.out, HLL.out]
    exact ⟨rfl, hM6.trans' (((S3.out.goes F).trans ⟨HC4.out, fun _ h => .inl h⟩).trans g5)⟩
end Ben
end Go.Proofs.YtlfbommppenlcaaGreatDoor
