/- The scheduler on paper: a process more. Conditions: it lies in memory; lengths are bounded. -/
import Derived.Test.YtlfbommppenlcaaGreatDoorB3
namespace Go.Proofs.YtlfbommppenlcaaGreatDoor
open Go.RowKit Go.Mem
namespace Ben

theorem info122 : (Tryz.prog.info? 122).map (fun i => (i.zero, i.size, i.bytes)) = some (some (.agg #[.int .i64 0, .int .i64 0, .int .i64 0]), 3, 24) := by kernel_rfl

set_option maxRecDepth 100000 in
set_option maxHeartbeats 4000000 in
theorem bdoes_0_good {w : World} {bb : Nat} {F : Nat → Prop} {B : Bn} {M : Nat} (hA : BenAt w bb F B) (hW : BW M B) (a b : Int) (h1 : 1 ≤ a) (h8 : a ≤ 8) (hl : B.l.length ≠ 100) :
    Calls Tryz.prog 19 #[.pointer (some ⟨bb, 0, none⟩), .agg #[.int .i64 0, .int .i64 a, .int .i64 b]] w fun e w' => e = .returned (.tuple #[.int .i64 (B.l.length + 1 : Nat), .int .i64 0]) ∧ BMakes w bb F { B with l := B.l ++ [⟨a, 0, 0⟩] } w' := by
  obtain ⟨tag, qs, c, h, hF⟩ := id hA
  obtain ⟨v, hv, hS, ht⟩ := h.fld 0 (by omega) (by omega)
  have e0 : B.fld qs 0 = pcells B.l := rfl
  have e1 : (pcells B.l).length / bsz 0 = B.l.length := by rw [length_pcells]; unfold bsz; rw [if_pos rfl]; omega
  unfold Own at hS
  rw [e0, e1] at hS
  have hS' : w.ownsRow 0 122 3 v B.l.length (pcells B.l) := hS
  obtain ⟨x, cap, rfl⟩ : ∃ x cap, v = .slice x B.l.length cap := by
    rcases hS.2 with ⟨e1, e2⟩ | ⟨g, cap, cur, e1, _⟩
    · exact ⟨none, 0, by rw [e1, e2]⟩
    · exact ⟨_, _, e1⟩
  have hc := cell_of_block h.hdr hv
  have hfz := free_of_block h.hdr 0
  have hbl := lt_of_block h.hdr
  have hll := hW.ll
  have hd : ((B.l.length : Int) == 100) = false := by simp; omega
  have hne : (Value.slice x B.l.length cap).ownBlock ≠ some bb := fun e => by have := ht bb e; rw [h.htag] at this; cases this
  have hlen : (pcells B.l).length = B.l.length * 3 := length_pcells _
  have hc2 := cell_two (o := .cells #[.pointer (some ⟨bb, 0, none⟩)] 26) (o' := .cells #[.int .i64 0, .int .i64 a, .int .i64 b] 36) hc
  have H := Lib.hid h
  have HS := Lib.hid hS'
  have HV := Lib.hid hv
  have HNE := Lib.hid hne
  have HLE := Lib.hid hlen
  clear h hS hS' hv hne hlen e0 e1 ht hl
  go_enter Tryz.func19, Tryz.ntmps19
  go_wp2_with fail
  have hp : ((w.alloc (.cells #[.pointer (some ⟨bb, 0, none⟩)] 26)).alloc (.cells #[.int .i64 0, .int .i64 a, .int .i64 b] 36)).cell? ⟨w.heap.size, 0, none⟩ = some (.pointer (some ⟨bb, 0, none⟩)) := cell_of_block (heap_alloc_get heap_alloc_self) rfl
  have hdA : ((w.alloc (.cells #[.pointer (some ⟨bb, 0, none⟩)] 26)).alloc (.cells #[.int .i64 0, .int .i64 a, .int .i64 b] 36)).cell? ⟨w.heap.size + 1, 1, none⟩ = some (.int .i64 a) := by
    have := @heap_alloc_self (w.alloc (.cells #[.pointer (some ⟨bb, 0, none⟩)] 26)) (.cells #[.int .i64 0, .int .i64 a, .int .i64 b] 36)
    exact cell_of_block (by simpa using this) rfl
  have hcA : ((w.alloc (.cells #[.pointer (some ⟨bb, 0, none⟩)] 26)).alloc (.cells #[.int .i64 0, .int .i64 a, .int .i64 b] 36)).heap[bb]? = some (.cells c 32 (0, 0)) := heap_alloc_get (heap_alloc_get H.out.hdr)
  have hCA : Chg (fun _ => False) w ((w.alloc (.cells #[.pointer (some ⟨bb, 0, none⟩)] 26)).alloc (.cells #[.int .i64 0, .int .i64 a, .int .i64 b] 36)) := ((Chg.refl _ _).alloc _).alloc _
  have hsz : ((w.alloc (.cells #[.pointer (some ⟨bb, 0, none⟩)] 26)).alloc (.cells #[.int .i64 0, .int .i64 a, .int .i64 b] 36)).heap.size = w.heap.size + 2 := by simp
  generalize (w.alloc (.cells #[.pointer (some ⟨bb, 0, none⟩)] 26)).alloc (.cells #[.int .i64 0, .int .i64 a, .int .i64 b] 36) = w1 at hp hdA hcA hCA hsz ⊢
  clear hc hfz
  have hc := cell_of_block hcA HV.out
  have hfz := free_of_block hcA 0
  have hbm : Bm w1 bb tag B qs c := H.out.kept fun b hb => hCA.block b (H.out.tlt b hb) (fun h => h)
  have HBM := Lib.hid hbm
  have HCA := Lib.hid hcA
  have HCH := Lib.hid hCA
  have HSZ := Lib.hid hsz
  clear hcA hCA hbm hsz
  have hbl1 := lt_of_block HCA.out
  have hne1 := World.new_ne w1 _ hp
  have hne2 := World.new_ne w1 _ hdA
  have hne3 := World.new_ne w1 _ hc
  go_cut [] (fun w' => BMakes w1 bb F { B with l := B.l ++ [⟨a, 0, 0⟩] } w' ∧ w'.cell? ⟨w.heap.size, 0, none⟩ = some (.pointer (some ⟨bb, 0, none⟩)))
  case first =>
    go_region_held3 (fun w' => w'.cell? ⟨w.heap.size, 0, none⟩ = some (.pointer (some ⟨bb, 0, none⟩)) ∧ w'.cell? ⟨w.heap.size + 1, 1, none⟩ = some (.int .i64 a)) (first | go_keep | exact ⟨(World.cell?_setCell_other _ _ _ _ (by simp)).trans hc0, (World.cell?_setCell_other _ _ _ _ (by simp)).trans hp2⟩)
      (((refine step_catS (n := B.l.length) (v := .slice x B.l.length cap) rfl (.tmp 70) (.tmp 74) 27 122 rfl (.agg #[.int .i64 0, .int .i64 0, .int .i64 0]) 3 24 Tryz.underlying27 info122 rfl (by decide) (pcells B.l) rfl ?_ ⟨w1.heap.size, 0, none⟩ 1 1 [.int .i64 a, .int .i64 0, .int .i64 0] rfl rfl ?_ ?_ ?_ ?_); (exact own_chg HS.out (((HCH.out).alloc _).drew) (fun _ _ h => h)); (intro j u hj; rcases j with _ | _ | _ | j; (simp at hj; subst hj; exact cell_of_block heap_alloc_self rfl); (simp at hj; subst hj; exact cell_of_block heap_alloc_self rfl); (simp at hj; subst hj; exact cell_of_block heap_alloc_self rfl); (simp at hj)); (intro u hu; simp at hu; rcases hu with rfl | rfl <;> rfl); (omega); intro a2 cap2 w2 hS2 hC2 hl2; have hh2 : w2.heap[bb]? = some (.cells c 32 (0, 0)) := hC2.get (heap_alloc_get HCA.out) (fun e => HNE.out e.symm); have hf2 := free_of_block hh2 0; have hcz := cell_of_block hh2 HV.out; have hc0 : w2.cell? ⟨w.heap.size, 0, none⟩ = some (.pointer (some ⟨bb, 0, none⟩)) := (hC2.cell (p := ⟨w.heap.size, 0, none⟩) (Nat.lt_of_lt_of_le (World.block_lt_of_cell? _ _ hp) (by simp)) (fun e => by have := (World.ownsRow.lt HS.out _ e.symm).2; simp at this)).trans ((World.cell?_alloc_lt _ _ _ (World.block_lt_of_cell? _ _ hp)).trans hp); have hp2 : w2.cell? ⟨w.heap.size + 1, 1, none⟩ = some (.int .i64 a) := (hC2.cell (p := ⟨w.heap.size + 1, 1, none⟩) (Nat.lt_of_lt_of_le (World.block_lt_of_cell? _ _ hdA) (by simp)) (fun e => by have := (World.ownsRow.lt HS.out _ e.symm).2; simp at this; omega)).trans ((World.cell?_alloc_lt _ _ _ (World.block_lt_of_cell? _ _ hdA)).trans hdA); have HB2 := Lib.hid hh2; have HS2 := Lib.hid hS2; have HL2 := Lib.hid hl2; clear hh2 hS2 hl2))
    all_goals go_wp2_with fail
    all_goals go_meet
    all_goals
      refine ⟨?_, (World.cell?_setCell_other _ _ _ _ (by simp)).trans hc0⟩
      have hown : Own w2 0 (.slice a2 (B.l.length + 1) cap2) (({ B with l := B.l ++ [⟨a, 0, 0⟩] } : Bn).fld qs 0) := by
        have e2 : (({ B with l := B.l ++ [⟨a, 0, 0⟩] } : Bn).fld qs 0) = pcells B.l ++ [.int .i64 a, .int .i64 0, .int .i64 0] := pcells_app B.l ⟨a, 0, 0⟩
        have e3 : (pcells B.l ++ [Value.int .i64 a, .int .i64 0, .int .i64 0]).length / bsz 0 = B.l.length + 1 := by rw [List.length_append, HLE.out]; unfold bsz; rw [if_pos rfl]; simp
        unfold Own
        rw [e2, e3]
        exact HS2.out
      exact HBM.out.fin hF (j := 0) (by omega) (by omega) HV.out (u := .slice x B.l.length cap) (((Chg.refl _ w1).alloc _).drew) (fun g hg => .inl hg) HNE.out hC2 HB2.out hown HL2.out (fun i _ _ hne => by unfold Bn.fld; rw [if_neg hne, if_neg hne]) rfl HBM.out.len (fun k q hq => .inl ⟨hq, rfl⟩)
  case rest =>
    obtain ⟨⟨F2, hA2, g2⟩, hcl⟩ := hcut
    obtain ⟨tag2, qs2, c2, hm2, hF2⟩ := id hA2
    obtain ⟨x2, cap2, hc2⟩ := hm2.lenCell
    have el : ({ B with l := B.l ++ [⟨a, 0, 0⟩] } : Bn).l.length = B.l.length + 1 := by simp
    rw [el] at hc2
    clear hm2 el
    go_wp2_with fail
    go_ret2
    exact ⟨rfl, F2, hA2, (show Goes F F w w1 from ⟨HCH.out.mono (fun _ _ h => h.elim), fun _ h => .inl h⟩).trans g2⟩
end Ben
end Go.Proofs.YtlfbommppenlcaaGreatDoor
