/- Does a scheduler agree with one on paper? Conditions: both lie in memory, and stand for the same. -/
import Derived.Test.YtlfbommppenlcaaGreatDoorT4
import Derived.Test.YtlfbommppenlcaaGreatDoorB3
import Derived.Test.YtlfbommppenlcaaGreatDoorBa
namespace Go.Proofs.YtlfbommppenlcaaGreatDoor
open Go.RowKit Go.Mem
namespace Ben

theorem BenAt.below {w w' : World} {bb : Nat} {F : Nat → Prop} {B : Bn} (h : BenAt w bb F B) (hB : Below w.heap.size w w') : BenAt w' bb F B := h.kept fun b hb => hB.block b (h.lt b hb)
theorem Rel.readyOf {N : Nat} {S : St} {B : Bn} (h : Rel N S B) {p : Int} (h1 : 1 ≤ p) (h8 : p ≤ 8) : S.readyOf p = B.ready p.toNat := by
  unfold St.readyOf
  rw [if_neg (by omega), h.rd]
theorem readyOf_out {S : St} {p : Int} (h : p < 1 ∨ 8 < p) : S.readyOf p = [] := by
  unfold St.readyOf
  rw [if_pos (by omega)]
theorem Rel.waiting {N : Nat} {S : St} {B : Bn} (h : Rel N S B) {k : Nat} (hk : k < B.signs.length) : S.waiting ((k : Int) + 1) = (B.waits.getD k [], B.signs.getD k 0) := by
  unfold St.waiting
  have e : ((k : Int) + 1).toNat - 1 = k := by omega
  rw [h.toCore.hasSem, if_pos (by simp [Bn.hasSem]; omega), h.toCore.semAt, e]

set_option maxRecDepth 100000 in
set_option maxHeartbeats 8000000 in
theorem agrees_calls {w : World} {sb bb : Nat} {F G : Nat → Prop} {S : St} {B : Bn} {N : Nat} (hs : SchAt w sb F S) (hb : BenAt w bb G B) (hR : Rel N S B) (hW : S.WF N) (hBW : BW N B) (hN : N < 90000) :
    Calls Tryz.prog 20 #[.pointer (some ⟨bb, 0, none⟩), .pointer (some ⟨sb, 0, none⟩)] w fun e w' => e = .returned (.bool true) ∧ Below w.heap.size w w' := by
  have hac := hR.ac
  have hact := hb.actCell.1
  have hd : (S.active != S.active) = false := by simp
  rw [hac] at hact
  have HR := Lib.hid hR
  have HAC := Lib.hid hac
  clear hac hR
  go_enter Tryz.func20, Tryz.ntmps20
  go_wp2_with fail
  have hs' : SchAt w.drew sb F S := hs.kept (fun _ _ => rfl)
  go_region_held3 (fun w' => w'.cell? ⟨bb, 10, none⟩ = some (.int .i64 S.active)) (go_keep) ((go_at_call 22; refine (active_calls hs').mono ?_; rintro e w' ⟨rfl, rfl⟩))
  go_wp2_with fail
  go_loopw [5] (fun i wx => ∃ j : Nat, j ≤ 10 ∧ i = .int .i64 j ∧ Below w.heap.size w wx) (fun i _ => 10 - (intOf i).toNat)
  case atStart => exact ⟨0, by omega, rfl, Below.drew (Below.refl _ _)⟩
  case round =>
    obtain ⟨j, hj, rfl, hBx⟩ := hrel
    have hsx := hs.below hBx
    have hbx := BenAt.below hb hBx
    clear hact hd
    by_cases hj9 : j ≤ 9
    · have hj9' : (j : Int) ≤ 9 := by omega
      by_cases hin : 1 ≤ j ∧ j ≤ 8
      · obtain ⟨hj1, hj8⟩ := hin
        have hj1' : (1 : Int) ≤ j := by omega
        have hj8' : (j : Int) ≤ 8 := by omega
        have hj92 : (j : Int) < 9 := by omega
        obtain ⟨tag, qs, c, h, hF⟩ := id hbx
        obtain ⟨v, k1, k2, k3, k4⟩ := h.ready (k := j) (by omega)
        have hjt : (j : Int).toNat = j := by omega
        have K2 := Lib.hid k2
        clear h k1 k2 k3 hj9
        go_wp2_with fail
        refine (ready_calls hsx hW (by omega) j).mono ?_
        rintro e w8 ⟨v1, rfl, f1, fb1, fo1⟩
        have er := HR.out.readyOf hj1' hj8'
        rw [er, hjt] at f1
        have f2 : Sl w8 3 v (ints (B.ready j)) := K2.out.kept fun gx hgx => fb1.block gx (K2.out.lt hgx)
        have hlr : (B.ready j).length < 100000 := by have := hBW.rl j; omega
        have F1p := Lib.hid f1
        have F2p := Lib.hid f2
        clear f1 f2 fo1 er k4
        go_wp2_with fail
        refine (ints_calls F1p.out F2p.out hlr).mono ?_
        rintro e w' ⟨rfl, nq, rfl⟩
        have d4 : (B.ready j == B.ready j) = true := by simp
        rw [d4]
        clear d4
        go_wp2_with fail
        go_roundw
        case rel =>
          refine ⟨j + 1, by omega, by go_num, ?_⟩
          have b1 := hBx.trans (fb1.mono hBx.size)
          exact ⟨b1.os, b1.tape, b1.output, b1.size, b1.block⟩
        case measure => simp [intOf]; omega
      · have e0 : S.readyOf (j : Int) = [] := readyOf_out (by omega)
        have hg : (1 : Int) ≤ j → ¬ (j : Int) ≤ 8 := by omega
        have E0 := Lib.hid e0
        clear e0
        rcases (show j = 0 ∨ j = 9 by omega) with rfl | rfl
        · go_wp2_with fail
          refine (ready_calls hsx hW (by omega) 0).mono ?_
          rintro e w8 ⟨v1, rfl, f1, fb1, fo1⟩
          rw [show S.readyOf 0 = [] from E0.out] at f1
          have F1p := Lib.hid f1
          clear f1 fo1 hg
          go_wp2_with fail
          refine (ints_calls (b := []) F1p.out (Sl.nil _ _) (by simp)).mono ?_
          rintro e w' ⟨rfl, nq, rfl⟩
          have d4 : (([] : List Int) == []) = true := by simp
          rw [d4]
          clear d4
          go_wp2_with fail
          go_roundw
          case rel =>
            refine ⟨1, by omega, rfl, ?_⟩
            have b1 := hBx.trans (fb1.mono hBx.size)
            exact ⟨b1.os, b1.tape, b1.output, b1.size, b1.block⟩
          case measure => simp [intOf]
        · go_wp2_with fail
          refine (ready_calls hsx hW (by omega) 9).mono ?_
          rintro e w8 ⟨v1, rfl, f1, fb1, fo1⟩
          rw [show S.readyOf 9 = [] from E0.out] at f1
          have F1p := Lib.hid f1
          clear f1 fo1 hg
          go_wp2_with fail
          refine (ints_calls (b := []) F1p.out (Sl.nil _ _) (by simp)).mono ?_
          rintro e w' ⟨rfl, nq, rfl⟩
          have d4 : (([] : List Int) == []) = true := by simp
          rw [d4]
          clear d4
          go_wp2_with fail
          go_roundw
          case rel =>
            refine ⟨10, by omega, rfl, ?_⟩
            have b1 := hBx.trans (fb1.mono hBx.size)
            exact ⟨b1.os, b1.tape, b1.output, b1.size, b1.block⟩
          case measure => simp [intOf]
    · have hj9' : ¬ (j : Int) ≤ 9 := by omega
      obtain ⟨tag, qs, c, h, hF⟩ := id hbx
      obtain ⟨sa, scap, k1, k2, k3, k4⟩ := h.signsCell
      have hsl := hBW.sl
      clear h k1 k3 k4 hj9
      go_wp2_with fail
      go_loopw [44] (fun i wy => ∃ j : Nat, j ≤ B.signs.length ∧ i = .int .i64 j ∧ Below w.heap.size w wy) (fun i _ => B.signs.length - (intOf i).toNat)
      case atStart => exact ⟨0, by omega, rfl, hBx⟩
      case round =>
        clear hBx hsx hbx k2 hF
        obtain ⟨k, hk, rfl, hBy⟩ := hrel
        have hsx := hs.below hBy
        have hbx := BenAt.below hb hBy
        by_cases hks : k < B.signs.length
        · have hks' : (k : Int) < (B.signs.length : Nat) := by omega
          obtain ⟨tag, qs, c, h, hF⟩ := id hbx
          obtain ⟨sa, scap, k1, k2, k3, k4⟩ := h.signsCell
          obtain ⟨gs, es, kc⟩ := Sl.int_at (l := B.signs) (i := k) k3 hks
          subst es
          have hwl := hBW.wl
          obtain ⟨gw, capw, cur, q, c1, c2, c3, c4, c5, c6, c7, c8, c9, c10, c11, c12⟩ := h.waitsAt (k := k) (by omega)
          rw [hwl] at c2
          have hq := hBW.wq k
          have hgsl := World.block_lt_of_cell? _ _ kc
          have hgwl := World.block_lt_of_cell? _ _ c8
          have hbl := World.block_lt_of_cell? _ _ c2
          have hww := HR.out.waiting hks
          obtain ⟨L, hL⟩ : ∃ L, B.waits.getD k [] = L := ⟨_, rfl⟩
          obtain ⟨n, hn⟩ : ∃ n, B.signs.getD k 0 = n := ⟨_, rfl⟩
          rw [hL, hn] at hww
          rw [hn] at kc
          rw [hL] at c10 hq
          have C10 := Lib.hid c10
          have HWW := Lib.hid hww
          have KC := Lib.hid kc
          have C2 := Lib.hid c2
          have C8 := Lib.hid c8
          have K2 := Lib.hid k2
          clear h k1 k3 k4 c1 c2 c3 c4 c5 c6 c7 c8 c9 c10 c11 c12 hww hL hn kc k2 hks
          have hw1 : IntKind.i64.wrap ((k : Int) + 1) = k + 1 := IntWalk.i64_in _ (by omega)
          go_wp2_with fail
          refine (waiting_calls hsx hW (by omega) (k + 1)).mono ?_
          rw [HWW.out]
          rintro e w8 ⟨v1, rfl, f1, fb1, fo1⟩
          have hkc : w8.cell? ⟨gs, k, none⟩ = some (.int .i64 n) := (fb1.cell (p := ⟨gs, k, none⟩) hgsl).trans KC.out
          have hc2 : w8.cell? ⟨bb, 11, none⟩ = some (.slice (some ⟨gw, 0, none⟩) B.signs.length capw) := (fb1.cell (p := ⟨bb, 11, none⟩) hbl).trans C2.out
          have hc8 : w8.cell? ⟨gw, k, none⟩ = some q := (fb1.cell (p := ⟨gw, k, none⟩) hgwl).trans C8.out
          have hk2 : w8.cell? ⟨bb, 12, none⟩ = some (.slice (some ⟨gs, 0, none⟩) B.signs.length scap) := (fb1.cell (p := ⟨bb, 12, none⟩) hbl).trans K2.out
          have f2 : Sl w8 3 q (ints L) := C10.out.kept fun gx hgx => fb1.block gx (C10.out.lt hgx)
          have d5 : (n != n) = false := by simp
          have F1p := Lib.hid f1
          have F2p := Lib.hid f2
          clear f1 f2 fo1
          go_wp2_with fail
          refine (ints_calls F1p.out F2p.out (by omega)).mono ?_
          rintro e w' ⟨rfl, nq, rfl⟩
          have d4 : (L == L) = true := by simp
          rw [d4]
          clear d4 hkc hc2 hc8 hk2
          go_wp2_with fail
          go_roundw
          case rel =>
            refine ⟨k + 1, by omega, by go_num, ?_⟩
            have b1 := hBy.trans (fb1.mono hBy.size)
            exact ⟨b1.os, b1.tape, b1.output, b1.size, b1.block⟩
          case measure => simp [intOf]; omega
        · have hks' : ¬ (k : Int) < (B.signs.length : Nat) := by omega
          clear hks
          go_wp2_with fail
          go_ret
          exact ⟨rfl, hBy⟩
end Ben
end Go.Proofs.YtlfbommppenlcaaGreatDoor
