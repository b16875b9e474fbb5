/- The next one on paper becomes active; the row of processes stays where it is. Conditions: it lies in memory; lengths are bounded. -/
import Derived.Test.YtlfbommppenlcaaGreatDoorB1
namespace Go.Proofs.YtlfbommppenlcaaGreatDoor
open Go.RowKit Go.Mem
namespace Ben

set_option maxRecDepth 100000 in
set_option maxHeartbeats 4000000 in
theorem bnext_keeps {w : World} {bb : Nat} {F : Nat → Prop} {B : Bn} {M : Nat} (hA : BenAt w bb F B) (hW : BW M B) (hM : M < 1000000) :
    Calls Tryz.prog 64 #[.pointer (some ⟨bb, 0, none⟩)] w fun e w' => e = .returned (.tuple #[]) ∧ BMakes w bb F B.next w' ∧ w'.cell? ⟨bb, 0, none⟩ = w.cell? ⟨bb, 0, none⟩ := by
  have hc := hA.actCell.1
  have hf := hA.actCell.2
  go_enter Tryz.func64, Tryz.ntmps64
  go_wp2
  go_loopw [2] (fun i wr => ∃ k : Nat, k ≤ 8 ∧ i = .int .i64 k ∧ wr = w.setCell ⟨bb, 10, none⟩ (.int .i64 0) ∧ ({ B with active := 0 } : Bn).nextFrom k = B.next) (fun i _ => (intOf i).toNat)
  case atStart => exact ⟨8, by omega, rfl, rfl, rfl⟩
  case round =>
    obtain ⟨k, hk, rfl, hwr, hnext⟩ := hrel
    have HN := Lib.hid hnext
    have hA' : BenAt wr bb F { B with active := 0 } := by rw [hwr]; exact hA.setAct 0
    have hG' : Goes F F w wr := by rw [hwr]; exact hA.goes_set 10 _
    have HG := Lib.hid hG'
    have HWR := Lib.hid hwr
    clear hc hf hnext hwr hG'
    by_cases hk0 : k = 0
    · subst hk0
      go_wp2
      go_end0
      exact ⟨rfl, ⟨F, by rw [← HN.out]; exact hA', HG.out⟩, by rw [HWR.out]; exact World.cell?_setCell_other _ _ _ _ (by simp)⟩
    · have hk1 : (0 : Int) < k := by omega
      obtain ⟨tag, qs, c, h, hF⟩ := id hA'
      obtain ⟨v, h1, h2, h3, h4⟩ := h.ready (k := k) (by omega)
      obtain ⟨a, cap, rfl⟩ := h2.shape
      rw [length_ints] at h1 h2 h3 h4
      have e0 : ({ B with active := 0 } : Bn).ready k = B.ready k := rfl
      rw [e0] at h1 h2 h3 h4
      cases er : B.ready k with
      | nil =>
        rw [er] at h4
        rw [List.length_nil] at h4
        have HER := Lib.hid er
        clear h1 h2 h3 er e0
        go_wp2
        go_roundw
        case rel =>
          obtain ⟨j, rfl⟩ : ∃ j, k = j + 1 := ⟨k - 1, by omega⟩
          refine ⟨j, by omega, by go_num, HWR.out, ?_⟩
          rw [← HN.out]
          show _ = (match B.ready (j + 1) with | [] => Bn.nextFrom j { B with active := 0 } | k :: t => _ : Bn)
          rw [HER.out]
        case measure => simp [intOf]; omega
      | cons x t =>
        rw [er] at h1 h2 h3 h4
        rw [List.length_cons] at h1 h2 h3 h4
        have hcA := hA'.actCell.1
        have hfA := hA'.actCell.2
        obtain ⟨g, ea, hx⟩ := Sl.int_at (l := x :: t) h2 (i := 0) (by simp)
        subst ea
        have hx0 : wr.cell? ⟨g, 0, none⟩ = some (.int .i64 x) := hx
        have hgb : g ≠ bb := fun e => h3 (by rw [e]; rfl)
        have h1A := h.setAct x
        have hgA := hA'.goes_set 10 (.int .i64 x)
        have hcA2 := hA'.setAct x
        have HE := Lib.hid er
        clear hx h1 h2 h3 er
        go_wp2_with fail
        have hk0 : (wr.setCell ⟨bb, 10, none⟩ (.int .i64 x)).cell? ⟨bb, 0, none⟩ = w.cell? ⟨bb, 0, none⟩ := by rw [World.cell?_setCell_other _ _ _ _ (by simp), HWR.out]; exact World.cell?_setCell_other _ _ _ _ (by simp)
        have HK0 := Lib.hid hk0
        clear hcA hfA h4 hx0 hgb hk0
        generalize wr.setCell ⟨bb, 10, none⟩ (.int .i64 x) = w1 at h1A hgA hcA2 HK0 ⊢
        obtain ⟨v, h1, h2, h3, h4⟩ := h1A.ready (k := k) (by omega)
        obtain ⟨a, cap, rfl⟩ := h2.shape
        rw [length_ints] at h1 h2 h3 h4
        have e0 : ({ B with active := x } : Bn).ready k = x :: t := HE.out
        dsimp only at h1 h2 h3 h4
        rw [HE.out] at h1 h2 h3 h4
        rw [List.length_cons] at h1 h2 h3 h4
        obtain ⟨g1, cap1, ea, hcl, hcm, hcs, hfs⟩ := h2.at (by simp)
        simp only [Value.slice.injEq] at ea
        obtain ⟨rfl, -, rfl⟩ := ea
        have hgb : g1 ≠ bb := fun e => h3 (by rw [e]; rfl)
        have hf := free_of_block h1A.hdr (1 + k)
        have hbl := lt_of_block h1A.hdr
        have H1A := Lib.hid h1A
        have H1 := Lib.hid h1
        have H2 := Lib.hid h2
        have HC := Lib.hid hcs
        clear h1A h1 h2 h3 hcs hfs e0 hA' h
        have hl1 : t.length + 1 ≤ cap := by simpa using hcl
        clear hcl
        have hk9 : (k : Int) < 9 := by omega
        have hb1 : (1 : Int) ≤ (t.length : Int) + 1 := by omega
        obtain ⟨xa, hxa, hxb, hxc⟩ : ∃ xa : Addr, (if cap = 1 then some ⟨g1, 0, none⟩ else some ⟨g1, 1, none⟩ : Option Addr) = some xa ∧ xa.block = g1 ∧ ∀ j u, (ints t)[j]? = some u → w1.cell? (xa.add j) = some u := by
          by_cases hc1 : cap = 1
          · have ht : t = [] := List.eq_nil_of_length_eq_zero (by omega)
            exact ⟨⟨g1, 0, none⟩, by rw [if_pos hc1], rfl, fun j u hj => by rw [ht] at hj; simp [ints] at hj⟩
          · refine ⟨⟨g1, 1, none⟩, by rw [if_neg hc1], rfl, fun j u hj => ?_⟩
            have := HC.out (j + 1) u (by simpa [ints] using hj)
            have e : (⟨g1, 1, none⟩ : Addr).add j = ⟨g1, j + 1, none⟩ := by unfold Addr.add; simp [Nat.add_comm]
            rw [e]; exact this
        have HXB := Lib.hid hxb
        have HXC := Lib.hid hxc
        clear hxb hxc
        have htl : t.length ≤ M := by have := hW.rl k; have := congrArg List.length HE.out; simp at this; omega
        have HTL := Lib.hid htl
        clear htl
        go_cut [] (fun w' => BMakes w1 bb F (({ B with active := x } : Bn).rdy k t) w' ∧ w'.cell? ⟨bb, 0, none⟩ = w1.cell? ⟨bb, 0, none⟩)
        case first =>
          go_region_law ((refine step_cat (n := 0) (v := .slice (some ⟨w1.heap.size, 0, none⟩) 0 0) rfl (.tmp 31) (.tmp 38) 28 3 rfl (.int .i64 0) 8 Tryz.underlying28 info3 rfl [] rfl rfl (Sl.mk (g := w1.heap.size) (cap := 0) (cur := #[]) ?_ (Nat.le_refl _) (Nat.zero_le _) rfl rfl) xa t.length (cap - 1) (ints t) (length_ints _) rfl ?_ ?_ ?_ ?_); (exact heap_alloc_self); (intro j u hj; have hcj := HXC.out j u hj; exact (World.cell?_alloc_lt _ _ _ (World.block_lt_of_cell? _ _ hcj)).trans hcj); (intro u hu; simp [ints] at hu; obtain ⟨y, _, rfl⟩ := hu; rfl); (have := HTL.out; omega); intro a2 cap2 w2 hS2 hC2 hl2; have hh2 : w2.heap[bb]? = some (.cells (c.setIfInBounds 10 (.int .i64 x)) 32 (0, 0)) := hC2.get (heap_alloc_get H1A.out.hdr) (fun e => by simp [Value.ownBlock] at e; omega); have hc2 := cell_of_block hh2 H1.out; have hf2 := free_of_block hh2 (1 + k); have HB2 := Lib.hid hh2; have HS2 := Lib.hid hS2; have HL2 := Lib.hid hl2; clear hh2 hS2 hl2)
          all_goals go_wp2_with fail
          all_goals go_meet
          all_goals refine ⟨?_, (World.cell?_setCell_other _ _ _ _ (by simp)).trans (by simp [World.cell?, HB2.out, H1A.out.hdr])⟩
          all_goals first
            | exact H1A.out.readyFin hF (by omega) H1.out (u := .slice (some ⟨w1.heap.size, 0, none⟩) 0 0) (((Chg.refl _ w1).alloc _).drew) (fun g hg => .inr (by simp [Value.ownBlock] at hg; omega)) (by simp [Value.ownBlock]; omega) hC2 HB2.out (by have := HS2.out; simpa using this) (by have := HL2.out; simpa using this)
            | exact H1A.out.readyFin hF (by omega) H1.out (u := .slice (some ⟨w1.heap.size, 0, none⟩) 0 0) (((Chg.refl _ w1).drew).alloc _) (fun g hg => .inr (by simp [Value.ownBlock] at hg; omega)) (by simp [Value.ownBlock]; omega) hC2 HB2.out (by have := HS2.out; simpa using this) (by have := HL2.out; simpa using this)
        case rest =>
          obtain ⟨⟨F2, hA2, g2⟩, hke⟩ := hcut
          have HKE := Lib.hid hke
          clear hke
          obtain ⟨tag2, qs2, c2, hm2, hF2⟩ := id hA2
          have hr := hW.rd k x (by rw [HE.out]; simp)
          obtain ⟨z, hz⟩ : ∃ z, B.l[x.toNat - 1]? = some z := ⟨_, at_some (B := B) hr.1 hr.2⟩
          obtain ⟨gp, capp, p0, p1, p2, p3, p4, p5, p6, p7⟩ := hm2.procs (k := x.toNat - 1) (x := z) hz
          have hl0 : (({ B with active := x } : Bn).rdy k t).l.length = B.l.length := rfl
          rw [hl0] at p1 p0
          have hact := hA2.actCell.1
          have ha0 : (({ B with active := x } : Bn).rdy k t).active = x := rfl
          rw [ha0] at hact
          have hfz := p4 ((x.toNat - 1) * 3 + 1)
          have hll := hW.ll
          have hw1 : IntKind.i64.wrap (x - 1) = x - 1 := IntWalk.i64_in _ (by omega)
          have hx1 : (0 : Int) ≤ x - 1 := by omega
          have hx2 : x - 1 < (B.l.length : Nat) := by omega
          have HM2 := Lib.hid hm2
          have HP0 := Lib.hid p0
          have HZ := Lib.hid hz
          have hgA' := hgA
          clear hm2 p0 p4 hz hl0 ha0 hA2 hcA2 hgA hf
          go_wp2_with fail
          go_region
          go_wp2
          refine bodyPost_ret (results_none rfl _ _ _) rfl ?_
          have hgb2 : gp ≠ bb := p3
          refine ⟨rfl, ⟨F2, ?_, (HG.out.trans (hgA'.trans g2)).trans ⟨((Chg.refl _ _).setCell (fun _ => (hF2 gp).2 (by rw [p2]; simp)) _).drew, fun _ h => .inl h⟩⟩, ((World.cell?_setCell_other _ _ _ _ (by simp [Ne.symm hgb2])).trans HKE.out).trans HK0.out⟩
          have hk2 : ∃ j, k = j + 1 := ⟨k - 1, by omega⟩
          obtain ⟨j, rfl⟩ := hk2
          have eB : B.next = { (({ B with active := x } : Bn).rdy (j + 1) t) with l := B.l.set (x.toNat - 1) ⟨z.prior, 2, z.sem⟩ } := by
            rw [← HN.out]
            show (match B.ready (j + 1) with | [] => Bn.nextFrom j { B with active := 0 } | k :: t => _ : Bn) = _
            rw [HE.out]
            have ez : B.at_ x = z := Option.some.inj ((at_some (B := B) hr.1 hr.2).symm.trans HZ.out)
            show Bn.put _ x ⟨(B.at_ x).prior, 2, (B.at_ x).sem⟩ = _
            rw [ez]; rfl
          rw [eB]
          exact ⟨tag2, qs2, c2, (HM2.out.setState HP0.out HZ.out 2).kept (fun _ _ => rfl), hF2⟩
end Ben
end Go.Proofs.YtlfbommppenlcaaGreatDoor
