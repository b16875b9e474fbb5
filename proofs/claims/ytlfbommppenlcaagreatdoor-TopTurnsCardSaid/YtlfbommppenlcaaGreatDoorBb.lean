/- The scheduler on paper: a semaphore is signalled: the first one goes on, or it is kept in mind. Conditions: it lies in memory; lengths are bounded. -/
import Derived.Test.YtlfbommppenlcaaGreatDoorBa
namespace Go.Proofs.YtlfbommppenlcaaGreatDoor
open Go.RowKit Go.Mem
namespace Ben

set_option maxRecDepth 100000 in
set_option maxHeartbeats 8000000 in
theorem bdoes_5 {w : World} {bb : Nat} {F : Nat → Prop} {B : Bn} {M : Nat} (hA : BenAt w bb F B) (hW : BW M B) (hM : M < 800000) (a b : Int) (hs : B.hasSem b = true) :
    Calls Tryz.prog 19 #[.pointer (some ⟨bb, 0, none⟩), .agg #[.int .i64 5, .int .i64 a, .int .i64 b]] w fun e w' => e = .returned (.tuple #[.int .i64 0, .int .i64 (B.signal b).1]) ∧ BMakes w bb F (B.signal b).2 w' := by
  have hlt := hA.lt
  have hA1 := (hA.alloc (.cells #[.pointer (some ⟨bb, 0, none⟩)] 26)).alloc (.cells #[.int .i64 5, .int .i64 a, .int .i64 b] 36)
  have s1 := isBegun w bb 5 a b
  have hp := s1.hp
  have hb := s1.h2
  have hk0 := s1.h0
  obtain ⟨tag, qs, c, h, hF⟩ := id hA1
  obtain ⟨sa, scap, k1, k2, k3, k4⟩ := h.signsCell
  have hsl := hW.sl
  have HBM := Lib.hid h
  have HA1 := Lib.hid hA1
  have S1 := Lib.hid s1
  obtain ⟨hb1, hb2⟩ := hasSem_true hs
  have HLT := Lib.hid hlt
  have HS := Lib.hid hs
  clear hA hA1 s1 h k1 k3 k4 hs hlt
  have hn : ¬ b < 1 := by omega
  have hn3 : ¬ (B.signs.length : Int) < b := by omega
  have hwl := hW.wl
  have hw1 : IntKind.i64.wrap (b - 1) = b - 1 := IntWalk.i64_in _ (by omega)
  have hx1 : (0 : Int) ≤ b - 1 := by omega
  have hx2 : b - 1 < (B.signs.length : Nat) := by omega
  go_enter Tryz.func19, Tryz.ntmps19
  go_wp2_with fail
  generalize (w.alloc (.cells #[.pointer (some ⟨bb, 0, none⟩)] 26)).alloc (.cells #[.int .i64 5, .int .i64 a, .int .i64 b] 36) = w1 at hp hb hk0 k2 HA1 S1 HBM hF ⊢
  obtain ⟨gw, capw, cur, q, c1, c2, c3, c4, c5, c6, c7, c8, c9, c10, c11, c12⟩ := HBM.out.waitsAt (k := b.toNat - 1) (by omega)
  rw [hwl] at c1 c2
  obtain ⟨va, vcap, rfl⟩ := c10.shape
  rw [length_ints] at c6 c7 c8 c10 c11 c12
  obtain ⟨L, hL⟩ : ∃ L, B.waits.getD (b.toNat - 1) [] = L := ⟨_, rfl⟩
  have hwq := hW.wq (b.toNat - 1)
  rw [hL] at hwq c6 c7 c8 c10 c11 c12
  have C1 := Lib.hid c1
  have C3 := Lib.hid c3
  have C4 := Lib.hid c4
  have C5 := Lib.hid c5
  have C6 := Lib.hid c6
  have C7 := Lib.hid c7
  have C9 := Lib.hid c9
  have C10 := Lib.hid c10
  have HLL := Lib.hid hL
  clear c1 c3 c4 c5 c6 c7 c9 c10 c11 c12 hL
  go_quiet (fail)
  have c3 := C3.out
  have s2 : Begun w (w1.drewN nq) bb 5 a b := ⟨S1.out.hp, S1.out.h0, S1.out.h1, S1.out.h2, S1.out.chg.drewN nq, S1.out.size⟩
  have hm2 : Bm (w1.drewN nq) bb tag B qs c := HBM.out.kept (fun _ _ => rfl)
  have c2 : (w1.drewN nq).cell? ⟨bb, 11, none⟩ = some (.slice (some ⟨gw, 0, none⟩) B.signs.length capw) := c2
  have c3 : (w1.drewN nq).heap[gw]? = some (.cells cur 28 (0, 0)) := c3
  have c8 : (w1.drewN nq).cell? ⟨gw, b.toNat - 1, none⟩ = some (.slice va L.length vcap) := c8
  clear hp hb hk0 k2
  generalize w1.drewN nq = w2 at s2 hm2 c2 c3 c8 ⊢
  have C3b := Lib.hid c3
  clear c3
  have hp := s2.hp
  have hb := s2.h2
  have hk0 := s2.h0
  have S2 := Lib.hid s2
  have HM2 := Lib.hid hm2
  clear s2 hm2
  go_wp2_with fail
  go_quiet (fail)
  have s3 : Begun w (w2.drewN nq) bb 5 a b := ⟨S2.out.hp, S2.out.h0, S2.out.h1, S2.out.h2, S2.out.chg.drewN nq, S2.out.size⟩
  have hm3 : Bm (w2.drewN nq) bb tag B qs c := HM2.out.kept (fun _ _ => rfl)
  have c2 : (w2.drewN nq).cell? ⟨bb, 11, none⟩ = some (.slice (some ⟨gw, 0, none⟩) B.signs.length capw) := c2
  have c3 : (w2.drewN nq).heap[gw]? = some (.cells cur 28 (0, 0)) := C3b.out
  have c8 : (w2.drewN nq).cell? ⟨gw, b.toNat - 1, none⟩ = some (.slice va L.length vcap) := c8
  clear hp hb hk0
  generalize w2.drewN nq = w3 at s3 hm3 c2 c3 c8 ⊢
  have C3c := Lib.hid c3
  clear c3
  have hp := s3.hp
  have hb := s3.h2
  have hk0 := s3.h0
  have S3 := Lib.hid s3
  have HM3 := Lib.hid hm3
  clear s3
  have hpw : w.heap.size ≠ gw := fun e => by have := HLT.out gw ((hF gw).2 (by rw [C4.out]; simp)); omega
  have hdw : w.heap.size + 1 ≠ gw := fun e => by have := HLT.out gw ((hF gw).2 (by rw [C4.out]; simp)); omega
  have HPW := Lib.hid hpw
  have HDW := Lib.hid hdw
  clear hpw hdw
  cases L with
  | nil =>
    obtain ⟨sa, scap, k1, k2, k3, k4⟩ := hm3.signsCell
    obtain ⟨gs, es, kc⟩ := Sl.int_at (l := B.signs) (i := b.toNat - 1) k3 (by omega)
    subst es
    have kf := free_of_block hm3.hdr 12
    obtain ⟨n, hN⟩ : ∃ n, B.signs.getD (b.toNat - 1) 0 = n := ⟨_, rfl⟩
    rw [hN] at kc
    have hnb := hW.sg n (by rw [← hN]; exact List.mem_of_getElem? (getElem?_of_lt 0 (by omega)))
    have hgf : w3.frozen? ⟨gs, b.toNat - 1, none⟩ = false := by
      rcases k3.cases with ⟨e, _⟩ | ⟨g', cap', cur', e, hg, _⟩
      · cases e
      · simp only [Value.slice.injEq, Option.some.injEq, Addr.mk.injEq, and_true] at e
        rw [e.1]; exact free_of_block hg _
    have hwn : IntKind.i64.wrap (n + 1) = n + 1 := IntWalk.i64_in _ (by omega)
    have hgt := k4 gs rfl
    have K1 := Lib.hid k1
    have HN := Lib.hid hN
    have HGT := Lib.hid hgt
    have hpg : gs ≠ w.heap.size := fun e => by have := HLT.out gs ((hF gs).2 (by rw [hgt]; simp)); omega
    have hdg : gs ≠ w.heap.size + 1 := fun e => by have := HLT.out gs ((hF gs).2 (by rw [hgt]; simp)); omega
    have hbg : gs ≠ bb := fun e => by rw [e, hm3.htag] at hgt; cases hgt
    clear k1 k3 k4 kf hN hgt c2 c8 hm3
    go_wp2_with fail
    go_region_held3 (fun w' => w'.cell? ⟨w.heap.size, 0, none⟩ = some (.pointer (some ⟨bb, 0, none⟩)) ∧ w'.cell? ⟨w.heap.size + 1, 2, none⟩ = some (.int .i64 b) ∧ w'.cell? ⟨bb, 12, none⟩ = some (.slice (some ⟨gs, 0, none⟩) B.signs.length scap)) (go_keep) (fail)
    go_wp2_with fail
    go_ret2
    unfold Bn.signal
    rw [if_pos HS.out, HLL.out]
    dsimp only
    rw [HN.out]
    refine ⟨rfl, F, ⟨tag, qs, c, ?_, hF⟩, (S3.out.goes F).trans ⟨((Chg.refl _ _).setCell (fun _ => (hF gs).2 (by rw [HGT.out]; simp)) _).drew, fun _ h => .inl h⟩⟩
    exact (HM3.out.setElem (B' := { B with signs := B.signs.set (b.toNat - 1) (n + 1) }) (j := 12) (by omega) (by omega) K1.out (b.toNat - 1) (.int .i64 (n + 1)) (ints_set _ _ _) (fun i _ _ hne => by unfold Bn.fld; rw [if_neg hne, if_neg hne]) rfl rfl).kept (fun _ _ => rfl)
  | cons z t =>
    have hz := hW.wr (b.toNat - 1) z (by rw [HLL.out]; simp)
    have hl1 : (z :: t).length = t.length + 1 := rfl
    rw [hl1] at c8 C6 C7 C10 hwq
    obtain ⟨hq1, hq2⟩ := HM3.out.wq _ _ C6.out
    rw [HLL.out] at hq1
    have hq1 : Sl w3 3 (.slice va (t.length + 1) vcap) (ints (z :: t)) := hq1
    obtain ⟨g1, cap1, ea, hcl, hcm, hcs, hfs⟩ := hq1.at (by simp)
    simp only [Value.slice.injEq] at ea
    obtain ⟨rfl, -, rfl⟩ := ea
    have hz0 : w3.cell? ⟨g1, 0, none⟩ = some (.int .i64 z) := hcs 0 _ rfl
    have hcl1 : t.length + 1 ≤ vcap := by simpa using hcl
    have hb1 : (1 : Int) ≤ (t.length : Int) + 1 := by omega
    have hpos : (0 : Int) < (t.length : Int) + 1 := by omega
    have hg1t := hq2 g1 rfl
    have hg1w : g1 ≠ gw := fun e => by rw [e, C4.out] at hg1t; cases hg1t
    obtain ⟨xa, hxa, hxb, hxc⟩ : ∃ xa : Addr, (if vcap = 1 then some ⟨g1, 0, none⟩ else some ⟨g1, 1, none⟩ : Option Addr) = some xa ∧ xa.block = g1 ∧ ∀ j u, (ints t)[j]? = some u → w3.cell? (xa.add j) = some u := by
      by_cases hc1 : vcap = 1
      · have ht : t = [] := List.eq_nil_of_length_eq_zero (by omega)
        exact ⟨⟨g1, 0, none⟩, by rw [if_pos hc1], rfl, fun j u hj => by rw [ht] at hj; simp [ints] at hj⟩
      · refine ⟨⟨g1, 1, none⟩, by rw [if_neg hc1], rfl, fun j u hj => ?_⟩
        have := hcs (j + 1) u (by simpa [ints] using hj)
        have e : (⟨g1, 1, none⟩ : Addr).add j = ⟨g1, j + 1, none⟩ := by unfold Addr.add; simp [Nat.add_comm]
        rw [e]; exact this
    have hpg : gw ≠ w.heap.size := HPW.out.symm
    have hdg : gw ≠ w.heap.size + 1 := HDW.out.symm
    have hbg : gw ≠ bb := C5.out
    have hbl := lt_of_block HM3.out.hdr
    have hgl := lt_of_block C3c.out
    have hpl := World.block_lt_of_cell? _ _ hp
    have hdl := World.block_lt_of_cell? _ _ hb
    dsimp only at hpl hdl
    have hgf := C9.out (b.toNat - 1)
    have HXB := Lib.hid hxb
    have HXC := Lib.hid hxc
    have HCS := Lib.hid hcs
    have HZ0 := Lib.hid hz0
    have HG1W := Lib.hid hg1w
    have HZ := Lib.hid hz
    have hgf3 := free_of_block C3c.out (b.toNat - 1)
    clear hxb hxc hcs hfs hcl hcm hq1 hq2 hg1t hg1w hz hl1 hm3 hgf
    have hne1 := World.new_ne w3 _ hp
    have hne2 := World.new_ne w3 _ hb
    have hne3 := World.new_ne w3 _ c2
    have hne4 := World.new_ne w3 _ c8
    go_wp2_with fail
    go_cut [] (fun w' => BMakes w3 bb F { B with waits := B.waits.set (b.toNat - 1) t } w' ∧ w'.cell? ⟨w.heap.size, 0, none⟩ = some (.pointer (some ⟨bb, 0, none⟩)) ∧ w'.cell? ⟨g1, 0, none⟩ = some (.int .i64 z))
    case first =>
      as_aux_lemma =>
        go_region_held3 (fun w' => w'.cell? ⟨w.heap.size, 0, none⟩ = some (.pointer (some ⟨bb, 0, none⟩)) ∧ w'.cell? ⟨w.heap.size + 1, 2, none⟩ = some (.int .i64 b) ∧ w'.cell? ⟨bb, 11, none⟩ = some (.slice (some ⟨gw, 0, none⟩) B.signs.length capw)) (go_keep)
          (((refine step_cat (n := 0) (v := .slice (some ⟨w3.heap.size, 0, none⟩) 0 0) rfl (.tmp 317) (.tmp 319) 28 3 rfl (.int .i64 0) 8 Tryz.underlying28 info3 rfl [] rfl rfl (Sl.mk (g := w3.heap.size) (cap := 0) (cur := #[]) ?_ (Nat.le_refl _) (Nat.zero_le _) rfl rfl) xa t.length (vcap - 1) (ints t) (length_ints _) rfl ?_ ?_ ?_ ?_); (exact heap_alloc_self); (intro j u hj; have hcj := HXC.out j u hj; exact (World.cell?_alloc_lt _ _ _ (World.block_lt_of_cell? _ _ hcj)).trans hcj); (intro u hu; simp [ints] at hu; obtain ⟨y, _, rfl⟩ := hu; rfl); (omega); intro a2 cap2 w4 hS2 hC2 hl2; have hh2 : w4.heap[bb]? = some (.cells c 32 (0, 0)) := hC2.get (heap_alloc_get HM3.out.hdr) (fun e => by simp [Value.ownBlock] at e; omega); have hg4 : w4.heap[gw]? = some (.cells cur 28 (0, 0)) := hC2.get (heap_alloc_get C3c.out) (fun e => by simp [Value.ownBlock] at e; omega); have hcz : w4.cell? ⟨bb, 11, none⟩ = some (.slice (some ⟨gw, 0, none⟩) B.signs.length capw) := cell_of_block hh2 C1.out; have hcy := cell_of_block hg4 C7.out; have hf2 := free_of_block hg4 (b.toNat - 1); have hc0 : w4.cell? ⟨w.heap.size, 0, none⟩ = some (.pointer (some ⟨bb, 0, none⟩)) := (hC2.cell (p := ⟨w.heap.size, 0, none⟩) (by simp; omega) (fun e => by simp [Value.ownBlock] at e; omega)).trans ((World.cell?_alloc_lt _ _ _ hpl).trans hp); have hc1 : w4.cell? ⟨w.heap.size + 1, 2, none⟩ = some (.int .i64 b) := (hC2.cell (p := ⟨w.heap.size + 1, 2, none⟩) (by simp; omega) (fun e => by simp [Value.ownBlock] at e; omega)).trans ((World.cell?_alloc_lt _ _ _ hdl).trans hb); have HB2 := Lib.hid hh2; have HG4 := Lib.hid hg4; have HS2 := Lib.hid hS2; have HL2 := Lib.hid hl2; clear hh2 hS2 hl2 hg4))
        all_goals go_wp2_with fail
        all_goals go_meet
        all_goals
          have hS4 : Sl w4 3 (.slice a2 t.length cap2) (ints t) := by have := HS2.out; simpa using this
          have hL4 : ∀ g, (Value.slice a2 t.length cap2).ownBlock = some g → w3.heap.size ≤ g := fun g hg => by
            have := HL2.out g (by simpa using hg)
            simp [Value.ownBlock] at this
            omega
          have hCC : Chg (fun b' => b' = gw ∨ some b' = (Value.slice (some ⟨g1, 0, none⟩) (t.length + 1) vcap).ownBlock) w3 (w4.setCell ⟨gw, b.toNat - 1, none⟩ (.slice a2 t.length cap2)) :=
            Chg.setCell (((((Chg.refl (fun _ => False) w3).alloc _).drew).mono (fun _ _ x => x.elim)).trans hC2 (fun i hi e => by simp [Value.ownBlock] at e; omega)) (fun _ => .inl rfl) _
          obtain ⟨tag', h', ho⟩ := HM3.out.setWait (w' := w4.setCell ⟨gw, b.toNat - 1, none⟩ (.slice a2 t.length cap2)) (q' := .slice a2 t.length cap2) (l := t) C1.out C3c.out C6.out (heap_setCell_at HG4.out) (hS4.kept fun b' hb' => heap_setCell_ne (by
            have := hL4 b' hb'
            show b' ≠ gw
            omega)) hCC (fun b' hb' => .inr (hL4 b' hb'))
          refine ⟨BMakes.of_bm hF ⟨tag', _, _, h', ho⟩ ?_, (World.cell?_setCell_far _ _ _ _ (by simpa using hpg)).trans hc0, (World.cell?_setCell_far _ _ _ _ (by simpa using HG1W.out.symm)).trans ?_⟩
          · refine Chg.setCell (((((Chg.refl (fun _ => False) w3).alloc _).drew).mono (fun _ _ x => x.elim)).trans hC2 (fun i hi e => by simp [Value.ownBlock] at e; omega)) (fun _ => (hF gw).2 (by rw [C4.out]; simp)) _
          · have hg1l := World.block_lt_of_cell? _ _ HZ0.out
            dsimp only at hg1l
            exact (hC2.cell (p := ⟨g1, 0, none⟩) (by simp; omega) (fun e => by simp [Value.ownBlock] at e; omega)).trans ((World.cell?_alloc_lt _ _ _ hg1l).trans HZ0.out)
    case rest =>
      obtain ⟨⟨F4, hA4, g4⟩, hp4, hz4⟩ := hcut
      have hW4 : BW M ({ B with waits := B.waits.set (b.toNat - 1) t } : Bn) := hW.wait _ (by omega) (fun x hx => hW.wr (b.toNat - 1) x (by rw [HLL.out]; simp [hx]))
      have hA4' : BenAt wc.drew bb F4 { B with waits := B.waits.set (b.toNat - 1) t } := hA4.kept (fun _ _ => rfl)
      have hF4 : ∀ b', F4 b' → b' ≠ w.heap.size := fun b' hb' e => by
        rcases g4.new b' hb' with h | h
        · have := HLT.out b' h; omega
        · omega
      have HF4 := Lib.hid hF4
      have HA4 := Lib.hid hA4'
      have hpl4 := World.block_lt_of_cell? _ _ hp4
      clear hp hb hk0 c2 c8 hne1 hne2 hne3 hne4 hxa hF4 hA4 hA4' hz0
      go_wp2_with fail
      go_region_held3 (fun w' => w'.cell? ⟨w.heap.size, 0, none⟩ = some (.pointer (some ⟨bb, 0, none⟩))) (first | go_keep | exact hc0)
        ((go_at_call 62; refine (wakes_calls HA4.out hW4 (by omega) z HZ.out.1 HZ.out.2).mono ?_; rintro e w5 ⟨rfl, F5, hA5, g5⟩; have hc0 : w5.cell? ⟨w.heap.size, 0, none⟩ = some (.pointer (some ⟨bb, 0, none⟩)) := (g5.chg.cell (p := ⟨w.heap.size, 0, none⟩) hpl4 (fun h => HF4.out _ h rfl)).trans hp4))
      go_wp2_with fail
      go_ret2
      unfold Bn.signal
      rw [if_pos HS.out, HLL.out]
      dsimp only
      exact ⟨rfl, F5, hA5, ((S3.out.goes F).trans g4).trans (show Goes F4 F5 wc w5 from ⟨⟨g5.chg.os, g5.chg.tape, g5.chg.output, g5.chg.size, g5.chg.block⟩, g5.new⟩)⟩
end Ben
end Go.Proofs.YtlfbommppenlcaaGreatDoor
