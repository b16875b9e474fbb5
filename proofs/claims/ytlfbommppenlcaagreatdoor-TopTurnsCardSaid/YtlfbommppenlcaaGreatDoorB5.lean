/- The scheduler on paper: a semaphore more. Conditions: it lies in memory; lengths are bounded. -/
import Derived.Test.YtlfbommppenlcaaGreatDoorB3
namespace Go.Proofs.YtlfbommppenlcaaGreatDoor
open Go.RowKit Go.Mem
namespace Ben

theorem info28 : (Tryz.prog.info? 28).map (fun i => (i.zero, i.size, i.bytes)) = some (some (.slice none 0 0), 1, 24) := by kernel_rfl

set_option maxRecDepth 100000 in
set_option maxHeartbeats 4000000 in
theorem bdoes_7_good {w : World} {bb : Nat} {F : Nat → Prop} {B : Bn} {M : Nat} (hA : BenAt w bb F B) (hW : BW M B) (k a b : Int) (hk : 7 ≤ k) (hl : B.signs.length ≠ 100) :
    Calls Tryz.prog 19 #[.pointer (some ⟨bb, 0, none⟩), .agg #[.int .i64 k, .int .i64 a, .int .i64 b]] w fun e w' => e = .returned (.tuple #[.int .i64 (B.signs.length + 1 : Nat), .int .i64 0]) ∧ BMakes w bb F { B with signs := B.signs ++ [0], waits := B.waits ++ [[]] } w' := by
  have hlt := hA.lt
  obtain ⟨tag, qs, c, h, hF⟩ := id hA
  obtain ⟨v, hv, hS, ht⟩ := h.fld 12 (by omega) (by omega)
  have e0 : B.fld qs 12 = ints B.signs := rfl
  have hS' := hS.sl (by omega)
  rw [e0] at hS'
  obtain ⟨x, cap, rfl⟩ := hS'.shape
  rw [length_ints] at hv ht hS'
  have hS2 : Sl w 3 (.slice x B.signs.length cap) (ints B.signs) := hS'
  have hc := cell_of_block h.hdr hv
  have hc2 := cell_two (o := .cells #[.pointer (some ⟨bb, 0, none⟩)] 26) (o' := .cells #[.int .i64 k, .int .i64 a, .int .i64 b] 36) hc
  have hsl := hW.sl
  have hd : ((B.signs.length : Int) == 100) = false := by simp; omega
  have hne : (Value.slice x B.signs.length cap).ownBlock ≠ some bb := fun e => by have := ht bb e; rw [h.htag] at this; cases this
  have b0 : (k == 0) = false := by simp; omega
  have b1 : (k == 1) = false := by simp; omega
  have b2 : (k == 2) = false := by simp; omega
  have b3 : (k == 3) = false := by simp; omega
  have b4 : (k == 4) = false := by simp; omega
  have b5 : (k == 5) = false := by simp; omega
  have b6 : (k == 6) = false := by simp; omega
  have H := Lib.hid h
  have HS := Lib.hid hS2
  have HV := Lib.hid hv
  have HNE := Lib.hid hne
  have HLT := Lib.hid hlt
  clear h hS hS' hS2 hv hne e0 ht hl hk hlt
  go_enter Tryz.func19, Tryz.ntmps19
  go_wp2_with fail
  have s1 := isBegun w bb k a b
  generalize (w.alloc (.cells #[.pointer (some ⟨bb, 0, none⟩)] 26)).alloc (.cells #[.int .i64 k, .int .i64 a, .int .i64 b] 36) = w1 at s1 ⊢
  clear hc hc2
  have hbm : Bm w1 bb tag B qs c := H.out.kept fun b hb => s1.chg.block b (H.out.tlt b hb) (fun h => h)
  have hc := cell_of_block hbm.hdr HV.out
  have hfz := free_of_block hbm.hdr 12
  have hbl1 := lt_of_block hbm.hdr
  have hp := s1.hp
  have HBM := Lib.hid hbm
  have S1 := Lib.hid s1
  clear hbm s1
  have hne1 := World.new_ne w1 _ hp
  have hne3 := World.new_ne w1 _ hc
  go_cut [] (fun w' => BMakes w1 bb F { B with signs := B.signs ++ [0] } w')
  case first =>
    as_aux_lemma =>
      go_region_held3 (fun w' => w'.cell? ⟨w.heap.size, 0, none⟩ = some (.pointer (some ⟨bb, 0, none⟩))) (first | go_keep | exact (World.cell?_setCell_other _ _ _ _ (by simp)).trans hc0)
        (((refine step_cat (n := B.signs.length) (v := .slice x B.signs.length cap) rfl (.tmp 31) (.tmp 32) 28 3 rfl (.int .i64 0) 8 Tryz.underlying28 info3 rfl (ints B.signs) (length_ints _) rfl ?_ ⟨w1.heap.size, 0, none⟩ 1 1 [.int .i64 0] rfl rfl ?_ ?_ ?_ ?_); (exact HS.out.chg (((S1.out.chg).alloc _).drew) (fun _ _ h => h)); (intro j u hj; rcases j with _ | j; (simp at hj; subst hj; exact cell_of_block heap_alloc_self rfl); (simp at hj)); (intro u hu; simp at hu; subst hu; rfl); (omega); intro a2 cap2 w2 hS2 hC2 hl2; have hh2 : w2.heap[bb]? = some (.cells c 32 (0, 0)) := hC2.get (heap_alloc_get HBM.out.hdr) (fun e => HNE.out e.symm); have hf2 := free_of_block hh2 12; have hcz := cell_of_block hh2 HV.out; have hc0 : w2.cell? ⟨w.heap.size, 0, none⟩ = some (.pointer (some ⟨bb, 0, none⟩)) := (hC2.cell (p := ⟨w.heap.size, 0, none⟩) (Nat.lt_of_lt_of_le (World.block_lt_of_cell? _ _ hp) (by simp)) (fun e => by have := HS.out.lt e.symm; simp at this)).trans ((World.cell?_alloc_lt _ _ _ (World.block_lt_of_cell? _ _ hp)).trans hp); have HB2 := Lib.hid hh2; have HS2 := Lib.hid hS2; have HL2 := Lib.hid hl2; clear hh2 hS2 hl2))
      all_goals go_wp2_with fail
      all_goals go_meet
      all_goals
        have hown : Own w2 12 (.slice a2 (B.signs.length + 1) cap2) (({ B with signs := B.signs ++ [0] } : Bn).fld qs 12) := by
          have e2 : (({ B with signs := B.signs ++ [0] } : Bn).fld qs 12) = ints B.signs ++ [.int .i64 0] := ints_append _ _
          rw [e2]
          exact Own.of_sl (by omega) HS2.out
        exact HBM.out.fin hF (j := 12) (by omega) (by omega) HV.out (u := .slice x B.signs.length cap) (((Chg.refl _ w1).alloc _).drew) (fun g hg => .inl hg) HNE.out hC2 HB2.out hown HL2.out (fun i _ _ hne => by unfold Bn.fld; rw [if_neg hne, if_neg hne]) rfl HBM.out.len (fun k q hq => .inl ⟨hq, rfl⟩)
  case rest =>
    obtain ⟨F2, hA2, g2⟩ := hcut
    clear hc hfz hp hne1 hne3 hbl1
    obtain ⟨hp, -⟩ := S1.out.kept HLT.out g2.chg
    have hg2 := (S1.out.goes F).trans g2
    have hF2 : ∀ b, F2 b → b ≠ w.heap.size := fun b hb e => by
      rcases g2.new b hb with h | h
      · have := HLT.out b h; omega
      · have := S1.out.size; omega
    have hn2 : wc.heap.size ≠ w.heap.size := by have := World.block_lt_of_cell? _ _ hp; simp at this; omega
    obtain ⟨tag2, qs2, c2, h, hF2'⟩ := id hA2
    obtain ⟨v, hv, hS, ht⟩ := h.fld 11 (by omega) (by omega)
    have e0 : ({ B with signs := B.signs ++ [0] } : Bn).fld qs2 11 = qs2 := rfl
    have hS' := hS.sl (by omega)
    rw [e0] at hS'
    obtain ⟨x2, cap2, rfl⟩ := hS'.shape
    have hS2 : Sl wc 28 (.slice x2 qs2.length cap2) qs2 := hS'
    have hc := cell_of_block h.hdr hv
    have hfz := free_of_block h.hdr 11
    have hbl1 := lt_of_block h.hdr
    have hwl := hW.wl
    have hql : qs2.length = B.signs.length := h.len.trans hwl
    have hne : (Value.slice x2 qs2.length cap2).ownBlock ≠ some bb := fun e => by have := ht bb e; rw [h.htag] at this; cases this
    have hnp : (Value.slice x2 qs2.length cap2).ownBlock ≠ some w.heap.size := fun e => hF2 _ ((hF2' _).2 (by rw [ht _ e]; simp)) rfl
    have HBM2 := Lib.hid h
    have HS := Lib.hid hS2
    have HV2 := Lib.hid hv
    have HNE2 := Lib.hid hne
    have HNP := Lib.hid hnp
    have HQL := Lib.hid hql
    have HWL := Lib.hid hwl
    have HG2 := Lib.hid hg2
    have HF2 := Lib.hid hF2
    clear h hS hS' hS2 hv hne hnp e0 ht hA2 hql hwl hg2 hF2
    have hne1 := World.new_ne wc _ hp
    have hne3 := World.new_ne wc _ hc
    have hq100 : qs2.length ≤ 100 := by have := HQL.out; omega
    go_wp2_with fail
    go_cut [] (fun w' => BMakes wc bb F2 { B with signs := B.signs ++ [0], waits := B.waits ++ [[]] } w')
    case first =>
      as_aux_lemma =>
        go_region_held3 (fun w' => w'.cell? ⟨w.heap.size, 0, none⟩ = some (.pointer (some ⟨bb, 0, none⟩))) (first | go_keep | exact (World.cell?_setCell_other _ _ _ _ (by simp)).trans hc0)
          (((refine step_cat (n := qs2.length) (v := .slice x2 qs2.length cap2) rfl (.tmp 40) (.tmp 41) 30 28 rfl (.slice none 0 0) 24 Tryz.underlying30 info28 rfl qs2 rfl rfl ?_ ⟨wc.heap.size, 0, none⟩ 1 1 [.slice none 0 0] rfl rfl ?_ ?_ ?_ ?_); (exact HS.out.chg (((Chg.refl (fun _ => False) _).alloc _).drew) (fun _ _ h => h)); (intro j u hj; rcases j with _ | j; (simp at hj; subst hj; exact cell_of_block heap_alloc_self rfl); (simp at hj)); (intro u hu; simp at hu; subst hu; rfl); (omega); intro a2 cap3 w2 hS2 hC2 hl2; have hh2 : w2.heap[bb]? = some (.cells c2 32 (0, 0)) := hC2.get (heap_alloc_get HBM2.out.hdr) (fun e => HNE2.out e.symm); have hf2 := free_of_block hh2 11; have hcz := cell_of_block hh2 HV2.out; have hc0 : w2.cell? ⟨w.heap.size, 0, none⟩ = some (.pointer (some ⟨bb, 0, none⟩)) := (hC2.cell (p := ⟨w.heap.size, 0, none⟩) (Nat.lt_of_lt_of_le (World.block_lt_of_cell? _ _ hp) (by simp)) (fun e => HNP.out e.symm)).trans ((World.cell?_alloc_lt _ _ _ (World.block_lt_of_cell? _ _ hp)).trans hp); have HB2 := Lib.hid hh2; have HS2 := Lib.hid hS2; have HL2 := Lib.hid hl2; clear hh2 hS2 hl2))
        all_goals go_wp2_with fail
        all_goals go_meet
        all_goals
          have hown : Own w2 11 (.slice a2 (qs2.length + 1) cap3) (({ B with signs := B.signs ++ [0], waits := B.waits ++ [[]] } : Bn).fld (qs2 ++ [.slice none 0 0]) 11) := Own.of_sl (by omega) HS2.out
          exact HBM2.out.fin hF2' (j := 11) (by omega) (by omega) HV2.out (u := .slice x2 qs2.length cap2) (((Chg.refl _ wc).alloc _).drew) (fun g hg => .inl hg) HNE2.out hC2 HB2.out hown HL2.out (fun i _ _ hne => by unfold Bn.fld; rw [if_neg hne, if_neg hne]) rfl (by simp [HQL.out, HWL.out])
            (fun k q hq => by
              have e : ∀ j, (B.waits ++ [([] : List Int)]).getD j [] = B.waits.getD j [] := fun j => by
                simp only [List.getD_eq_getElem?_getD]
                rcases Nat.lt_trichotomy j B.waits.length with e | e | e
                · rw [List.getElem?_append_left e]
                · subst e; rw [List.getElem?_append_right (Nat.le_refl _), List.getElem?_eq_none (Nat.le_refl _)]; simp
                · rw [List.getElem?_eq_none (by simp; omega), List.getElem?_eq_none (by omega)]
              by_cases hk : k < qs2.length
              · rw [List.getElem?_append_left hk] at hq
                exact .inl ⟨hq, e k⟩
              · rw [List.getElem?_append_right (by omega)] at hq
                have hz : k - qs2.length = 0 := by
                  by_cases hz : k - qs2.length = 0
                  · exact hz
                  · rw [List.getElem?_eq_none (by simp; omega)] at hq; cases hq
                rw [hz] at hq
                simp at hq
                refine .inr ⟨hq.symm, (e k).trans ?_⟩
                rw [List.getD_eq_getElem?_getD, List.getElem?_eq_none (by rw [HWL.out, ← HQL.out]; omega)]; rfl)
    case rest =>
      obtain ⟨F3, hA3, g3⟩ := hcut
      clear hc hfz hne1 hne3 hbl1
      have hp3 : wc.cell? ⟨w.heap.size, 0, none⟩ = some (.pointer (some ⟨bb, 0, none⟩)) := (g3.chg.cell (p := ⟨w.heap.size, 0, none⟩) (World.block_lt_of_cell? _ _ hp) (fun h => HF2.out _ h rfl)).trans hp
      obtain ⟨tag3, qs3, c3, h3, hF3⟩ := id hA3
      obtain ⟨v3, hv3, hS3, _⟩ := h3.fld 12 (by omega) (by omega)
      have e3 : ({ B with signs := B.signs ++ [0], waits := B.waits ++ [[]] } : Bn).fld qs3 12 = ints (B.signs ++ [0]) := rfl
      have hS3' := hS3.sl (by omega)
      rw [e3] at hS3'
      obtain ⟨x3, cap3, rfl⟩ := hS3'.shape
      have e4 : (ints (B.signs ++ [0])).length = B.signs.length + 1 := by simp
      rw [e4] at hv3
      have hc3 := cell_of_block h3.hdr hv3
      clear h3 hS3 hS3' hv3 e3 e4 hp
      go_wp2_with fail
      go_ret2
      exact ⟨rfl, F3, hA3, HG2.out.trans g3⟩
end Ben
end Go.Proofs.YtlfbommppenlcaaGreatDoor
