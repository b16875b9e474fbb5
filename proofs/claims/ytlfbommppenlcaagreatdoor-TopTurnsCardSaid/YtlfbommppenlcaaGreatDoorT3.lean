/- What raw numbers say is done: some deeds, at most 150, within bounds; nothing that was there is changed. Conditions: the raw numbers lie in memory. -/
import Derived.Test.YtlfbommppenlcaaGreatDoorT2
namespace Go.Proofs.YtlfbommppenlcaaGreatDoor
open Go.RowKit Go.Mem

def dcells (D : List Deed) : List Value := D.flatMap fun d => [.int .i64 d.kind, .int .i64 d.a, .int .i64 d.b]
theorem length_dcells (D : List Deed) : (dcells D).length = D.length * 3 := by
  induction D with
  | nil => rfl
  | cons d D ih => simp [dcells] at ih ⊢; omega
theorem dcells_append (D E : List Deed) : dcells (D ++ E) = dcells D ++ dcells E := by simp [dcells]
def Deed.ok (d : Deed) : Prop := 0 ≤ d.kind ∧ d.kind ≤ 8 ∧ 0 ≤ d.a ∧ d.a ≤ 9 ∧ 0 ≤ d.b ∧ d.b ≤ 6

theorem Deed.ok_mk {k a b : Int} (h1 : 0 ≤ k) (h2 : k ≤ 8) (h3 : 0 ≤ a) (h4 : a ≤ 9) (h5 : 0 ≤ b) (h6 : b ≤ 6) : Deed.ok ⟨k, a, b⟩ := ⟨h1, h2, h3, h4, h5, h6⟩

theorem info36 : (Tryz.prog.info? 36).map (fun i => (i.zero, i.size, i.bytes)) = some (some (.agg #[.int .i64 0, .int .i64 0, .int .i64 0]), 3, 24) := by kernel_rfl

def lit13 : Array Value := #[.int .i64 0, .int .i64 0, .int .i64 1, .int .i64 1, .int .i64 1, .int .i64 2, .int .i64 3, .int .i64 4, .int .i64 5, .int .i64 5, .int .i64 6, .int .i64 6, .int .i64 7]
def lit8 : Array Value := #[.int .i64 0, .int .i64 0, .int .i64 5, .int .i64 0, .int .i64 1, .int .i64 0, .int .i64 5, .int .i64 0]
theorem lit13_at (r : Nat) (h : r < 13) : ∃ x : Int, lit13[r]? = some (.int .i64 x) ∧ 0 ≤ x ∧ x ≤ 7 := by
  match r, h with
  | 0, _ | 1, _ => exact ⟨0, rfl, by omega, by omega⟩
  | 2, _ | 3, _ | 4, _ => exact ⟨1, rfl, by omega, by omega⟩
  | 5, _ => exact ⟨2, rfl, by omega, by omega⟩
  | 6, _ => exact ⟨3, rfl, by omega, by omega⟩
  | 7, _ => exact ⟨4, rfl, by omega, by omega⟩
  | 8, _ | 9, _ => exact ⟨5, rfl, by omega, by omega⟩
  | 10, _ | 11, _ => exact ⟨6, rfl, by omega, by omega⟩
  | 12, _ => exact ⟨7, rfl, by omega, by omega⟩
theorem lit8_at (r : Nat) (h : r < 8) : ∃ x : Int, lit8[r]? = some (.int .i64 x) ∧ 0 ≤ x ∧ x ≤ 5 := by
  match r, h with
  | 0, _ | 1, _ | 3, _ | 5, _ | 7, _ => exact ⟨0, rfl, by omega, by omega⟩
  | 4, _ => exact ⟨1, rfl, by omega, by omega⟩
  | 2, _ | 6, _ => exact ⟨5, rfl, by omega, by omega⟩

theorem own_chg {w w' : World} {F : Nat → Prop} {b : Nat} {e : TypeId} {size : Nat} {v : Value} {n : Nat} {xs : List Value} (h : w.ownsRow b e size v n xs) (hc : Chg F w w') (hF : ∀ g, v.ownBlock = some g → ¬ F g) : w'.ownsRow b e size v n xs := by
  refine ⟨h.1, ?_⟩
  rcases h.2 with h2 | ⟨g, cap, cur, e1, e2, e3, r⟩
  · exact .inl h2
  · subst e1
    exact .inr ⟨g, cap, cur, rfl, e2, hc.get e3 (hF g rfl), r⟩
theorem deed_cell (w : World) (k a b : Int) (j : Nat) (u : Value) (h : (dcells [⟨k, a, b⟩])[j]? = some u) : (w.alloc (.cells #[.int .i64 k, .int .i64 a, .int .i64 b] 36)).cell? ((⟨w.heap.size, 0, none⟩ : Addr).add j) = some u := by
  have hadd : (⟨w.heap.size, 0, none⟩ : Addr).add j = ⟨w.heap.size, j, none⟩ := by unfold Addr.add; split <;> simp_all
  rw [hadd]
  refine cell_of_block heap_alloc_self ?_
  simpa [dcells] using h

def DeedsPost (w : World) (e : Ending) (w' : World) : Prop := ∃ v D, e = .returned v ∧ D.length ≤ 150 ∧ (∀ d ∈ D, d.ok) ∧ w'.ownsRow w.heap.size 36 3 v D.length (dcells D) ∧ Below w.heap.size w w'
theorem ownsRow_base {w : World} {b b' : Nat} {e : TypeId} {size : Nat} {v : Value} {n : Nat} {xs : List Value} (h : w.ownsRow b e size v n xs) (hb : b' ≤ b) : w.ownsRow b' e size v n xs := by
  refine ⟨h.1, ?_⟩
  rcases h.2 with h2 | ⟨g, cap, cur, e1, e2, r⟩
  · exact .inl h2
  · exact .inr ⟨g, cap, cur, e1, Nat.le_trans hb e2, r⟩

set_option maxRecDepth 100000 in
set_option maxHeartbeats 4000000 in
theorem deeds_calls {w : World} {a : Option Addr} {cap : Nat} {l : List Int} (hR : Raw w a l) (hab : 0 < l.length → ∀ x, a = some x → x.block < w.heap.size) :
    Calls Tryz.prog 17 #[.slice a l.length cap] w (DeedsPost w) := by
  have hll := hR.len
  have HR := Lib.hid hR
  have HAB := Lib.hid hab
  clear hR hab
  obtain ⟨i0, hi, hz0, hz1, hz2⟩ := info_parts info36
  go_enter Tryz.func17, Tryz.ntmps17
  go_wp2
  go_loopw [4, 5, 6] (fun v i _ wr => ∃ (m k : Nat) (D : List Deed), m ≤ 150 ∧ i = .int .i64 m ∧ k ≤ 3 * m ∧ D.length = m ∧ (∀ d ∈ D, d.ok) ∧
      wr.heap[w.heap.size]? = some (.cells #[.slice a l.length cap, .int .i64 k] 55 (0, 0)) ∧ wr.ownsRow (w.heap.size + 1) 36 3 v m (dcells D) ∧ Below w.heap.size w wr ∧ w.heap.size + 1 ≤ wr.heap.size) (fun _ i _ _ => 150 - (intOf i).toNat)
  case atStart =>
    exact ⟨0, 0, [], by omega, rfl, by omega, rfl, by simp, heap_alloc_self, World.ownsRow_nil _ _ _ _, (Below.refl _ _).alloc (Nat.le_refl _) _, by simp⟩
  case round =>
    obtain ⟨m, k, D, hm, rfl, hk, hD, hok, hg, hown, hB, hsz⟩ := hrel
    have h1 : wr.cell? ⟨w.heap.size, 1, none⟩ = some (.int .i64 k) := cell_of_block hg rfl
    have HD := Lib.hid hD
    have HO := Lib.hid hown
    have HG := Lib.hid hg
    have HOK := Lib.hid hok
    clear hD hown hg hok
    have hRr : Raw wr a l := ⟨fun i hi => by
      obtain ⟨b, off, e, hc⟩ := HR.out.at_ i hi
      exact ⟨b, off, e, (hB.cell (p := ⟨b, off + i, none⟩) (by have := HAB.out (by omega) _ e; exact this)).trans hc⟩, HR.out.lo, HR.out.len⟩
    by_cases hc : m < 150 ∧ k < l.length
    · obtain ⟨hc1, hc2⟩ := hc
      have hc1' : (m : Int) < 150 := by omega
      have hc2' : (k : Int) < (l.length : Nat) := by omega
      have HRr := Lib.hid hRr
      clear hRr
      have hx0 : 0 < l.length → ∀ x, a = some x → x.block ≠ w.heap.size := fun hl x hx => by have := HAB.out hl x hx; omega
      have HX0 := Lib.hid hx0
      clear hx0 hc1 hc2
      go_wp2_with fail
      have hRa : Raw (wr.alloc (.cells lit13 3)) a l := ⟨fun i hi => by
        obtain ⟨b, off, e, hc⟩ := HRr.out.at_ i hi
        exact ⟨b, off, e, (World.cell?_alloc_lt _ _ _ (World.block_lt_of_cell? _ _ hc)).trans hc⟩, HR.out.lo, HR.out.len⟩
      refine (below_calls (k := k) (heap_alloc_get HG.out) hRa HX0.out 13 (by omega) (by omega) (by omega)).mono ?_
      obtain ⟨r1, r2⟩ := taken_bd l k (n := 13) (by omega)
      obtain ⟨r, hr⟩ : ∃ r, taken l k 13 = r := ⟨_, rfl⟩
      rw [hr] at r1 r2 ⊢
      rintro e w1 ⟨rfl, hg1, hC1⟩
      obtain ⟨x, hx, x1, x2⟩ := lit13_at r.toNat (by omega)
      have hl1 : w1.heap[wr.heap.size]? = some (.cells lit13 3 (0, 0)) := hC1.get heap_alloc_self (by have := lt_of_block HG.out; omega)
      have hcx : w1.cell? ⟨wr.heap.size, r.toNat, none⟩ = some (.int .i64 x) := cell_of_block hl1 hx
      have HG1 := Lib.hid hg1
      have HL1 := Lib.hid hl1
      clear hr hx hg1 hl1 hRa
      by_cases hm8 : m < 8
      · have hm8' : (m : Int) < 8 := by omega
        obtain ⟨y, hy, y1, y2⟩ := lit8_at m hm8
        have hy' : #[Value.int IntKind.i64 0, .int .i64 0, .int .i64 5, .int .i64 0, .int .i64 1, .int .i64 0, .int .i64 5, .int .i64 0][m]? = some (Value.int IntKind.i64 y) := hy
        have hcy : (w1.alloc (.cells lit8 3)).cell? ⟨w1.heap.size, m, none⟩ = some (.int .i64 y) := cell_of_block heap_alloc_self hy
        unfold lit8 at hcy
        clear hy hy'
        by_cases hy5 : y = 5
        · subst hy5
          go_wp2_with fail
          have hC1' : Chg (fun b => b = w.heap.size) wr (w1.alloc (.cells #[.int .i64 0, .int .i64 0, .int .i64 5, .int .i64 0, .int .i64 1, .int .i64 0, .int .i64 5, .int .i64 0] 3)) := (((Chg.refl _ wr).alloc _).trans hC1 (fun _ _ h => h)).alloc _
          have hgx : (w1.alloc (.cells #[.int .i64 0, .int .i64 0, .int .i64 5, .int .i64 0, .int .i64 1, .int .i64 0, .int .i64 5, .int .i64 0] 3)).heap[w.heap.size]? = some (.cells #[.slice a l.length cap, .int .i64 ((k + 1 : Nat) : Int)] 55 (0, 0)) := by rw [show ((k + 1 : Nat) : Int) = (k : Int) + 1 by omega]; exact (heap_alloc_get HG1.out)
          have hR1 : Raw ((w1.alloc (.cells #[.int .i64 0, .int .i64 0, .int .i64 5, .int .i64 0, .int .i64 1, .int .i64 0, .int .i64 5, .int .i64 0] 3))) a l := ⟨fun i hi => by
            obtain ⟨b, off, e, hc⟩ := HRr.out.at_ i hi
            have hne := HX0.out (by omega) _ e
            exact ⟨b, off, e, (hC1'.cell (p := ⟨b, off + i, none⟩) (World.block_lt_of_cell? _ _ hc) hne).trans hc⟩, HR.out.lo, HR.out.len⟩
          refine (below_calls (k := k + 1) hgx hR1 HX0.out 10 (by omega) (by omega) (by omega)).mono ?_
          obtain ⟨s1, s2⟩ := taken_bd l (k + 1) (n := 10) (by omega)
          obtain ⟨s, hs⟩ : ∃ s, taken l (k + 1) 10 = s := ⟨_, rfl⟩
          rw [hs] at s1 s2 ⊢
          rintro e w2 ⟨rfl, hg2, hC2⟩
          have hC2' : Chg (fun b => b = w.heap.size) wr w2 := hC1'.trans hC2 (fun _ _ h => h)
          have hR2 : Raw w2 a l := ⟨fun i hi => by
            obtain ⟨b, off, e, hc⟩ := HRr.out.at_ i hi
            have hne := HX0.out (by omega) _ e
            exact ⟨b, off, e, (hC2'.cell (p := ⟨b, off + i, none⟩) (World.block_lt_of_cell? _ _ hc) hne).trans hc⟩, HR.out.lo, HR.out.len⟩
          have hg2' : w2.heap[w.heap.size]? = some (.cells #[.slice a l.length cap, .int .i64 ((k + 2 : Nat) : Int)] 55 (0, 0)) := by rw [hg2, show ((k + 1 : Nat) : Int) + 1 = ((k + 2 : Nat) : Int) by omega]
          have HC2 := Lib.hid hC2'
          have HR2 := Lib.hid hR2
          have HG2 := Lib.hid hg2'
          clear hs hg2 hg2' hC2 hC2' hR2 hR1 hgx hC1' hC1
          go_wp2_with fail
          refine (below_calls (k := k + 2) HG2.out HR2.out HX0.out 7 (by omega) (by omega) (by omega)).mono ?_
          obtain ⟨t1, t2⟩ := taken_bd l (k + 2) (n := 7) (by omega)
          obtain ⟨t, ht⟩ : ∃ t, taken l (k + 2) 7 = t := ⟨_, rfl⟩
          rw [ht] at t1 t2 ⊢
          rintro e w3 ⟨rfl, hg3, hC3⟩
          have hC3' : Chg (fun b => b = w.heap.size) wr w3 := HC2.out.trans hC3 (fun _ _ h => h)
          have hg3' : w3.heap[w.heap.size]? = some (.cells #[.slice a l.length cap, .int .i64 ((k + 3 : Nat) : Int)] 55 (0, 0)) := by rw [hg3, show ((k + 2 : Nat) : Int) + 1 = ((k + 3 : Nat) : Int) by omega]
          have hown3 : w3.ownsRow (w.heap.size + 1) 36 3 u4 m (dcells D) := own_chg HO.out hC3' (fun g hg => by have := (World.ownsRow.lt HO.out g hg).1; omega)
          have hsz3 : w.heap.size + 1 ≤ w3.heap.size := Nat.le_trans hsz hC3'.size
          have HC3 := Lib.hid hC3'
          have HG3 := Lib.hid hg3'
          have HO3 := Lib.hid hown3
          clear ht hg3 hg3' hC3 hC3' hown3
          go_wp2_with (at_builtin; go_must (refine wpList_append_own_at _ rfl _ _ 33 rfl (w.heap.size + 1) 36 i0 (.agg #[.int .i64 0, .int .i64 0, .int .i64 0]) 3 24 Tryz.underlying33 hi hz0 hz1 hz2 rfl (by decide) _ _ _ rfl (HO3.out.alloc _) ⟨w3.heap.size, 0, none⟩ 1 1 (dcells [⟨8, s, t⟩]) rfl (by simp [dcells]) ?_ ?_ (by unfold maxLen; omega) (by omega) (by simp; omega) ?_))
          · intro j u hj
            exact deed_cell w3 8 s t j u hj
          · intro u hu
            simp [dcells] at hu
            rcases hu with rfl | rfl | rfl <;> rfl
          intro v' w4 hown4 hg4 _ hloc
          have HX4 := Lib.hid hown4
          have HY4 := Lib.hid hg4
          clear hown4 hg4 hloc
          go_wp2
          go_roundw
          case rel =>
            have hg4 := HY4.out
            have hneB : (w.heap.size : Nat) < (w3.alloc (.cells #[.int .i64 8, .int .i64 s, .int .i64 t] 36)).heap.size := by simp; omega
            have hnr : some w.heap.size ≠ u4.ownBlock := fun e => by have := (World.ownsRow.lt HO.out _ e.symm).1; omega
            refine ⟨m + 1, k + 3, D ++ [⟨8, s, t⟩], by omega, by go_num, by omega, by rw [List.length_append, HD.out]; rfl, ?_, (hg4.block _ hneB hnr).trans (heap_alloc_get HG3.out), by rw [dcells_append]; exact HX4.out, ?_, Nat.le_trans (by simp; omega) hg4.size⟩
            · intro d hd
              rcases List.mem_append.1 hd with hd | hd
              · exact HOK.out d hd
              · simp at hd; subst hd; exact Deed.ok_mk (by omega) (by omega) (by omega) (by omega) (by omega) (by omega)
            · refine Below.grown (Below.alloc (hB.trans (HC3.out.below (by omega) (fun i hi e => by omega))) (by omega) _) hg4 (by simp; omega) (fun i hi => ?_)
              have := (World.ownsRow.lt HO.out _ hi).1; omega
          case measure => simp [intOf]; omega
        · have hy5' : (y == 5) = false := by simpa using hy5
          clear hy5
          go_wp2_with fail
          have hC1' : Chg (fun b => b = w.heap.size) wr (w1.alloc (.cells #[.int .i64 0, .int .i64 0, .int .i64 5, .int .i64 0, .int .i64 1, .int .i64 0, .int .i64 5, .int .i64 0] 3)) := (((Chg.refl _ wr).alloc _).trans hC1 (fun _ _ h => h)).alloc _
          have hgx : (w1.alloc (.cells #[.int .i64 0, .int .i64 0, .int .i64 5, .int .i64 0, .int .i64 1, .int .i64 0, .int .i64 5, .int .i64 0] 3)).heap[w.heap.size]? = some (.cells #[.slice a l.length cap, .int .i64 ((k + 1 : Nat) : Int)] 55 (0, 0)) := by rw [show ((k + 1 : Nat) : Int) = (k : Int) + 1 by omega]; exact (heap_alloc_get HG1.out)
          have hR1 : Raw ((w1.alloc (.cells #[.int .i64 0, .int .i64 0, .int .i64 5, .int .i64 0, .int .i64 1, .int .i64 0, .int .i64 5, .int .i64 0] 3))) a l := ⟨fun i hi => by
            obtain ⟨b, off, e, hc⟩ := HRr.out.at_ i hi
            have hne := HX0.out (by omega) _ e
            exact ⟨b, off, e, (hC1'.cell (p := ⟨b, off + i, none⟩) (World.block_lt_of_cell? _ _ hc) hne).trans hc⟩, HR.out.lo, HR.out.len⟩
          refine (below_calls (k := k + 1) hgx hR1 HX0.out 10 (by omega) (by omega) (by omega)).mono ?_
          obtain ⟨s1, s2⟩ := taken_bd l (k + 1) (n := 10) (by omega)
          obtain ⟨s, hs⟩ : ∃ s, taken l (k + 1) 10 = s := ⟨_, rfl⟩
          rw [hs] at s1 s2 ⊢
          rintro e w2 ⟨rfl, hg2, hC2⟩
          have hC2' : Chg (fun b => b = w.heap.size) wr w2 := hC1'.trans hC2 (fun _ _ h => h)
          have hR2 : Raw w2 a l := ⟨fun i hi => by
            obtain ⟨b, off, e, hc⟩ := HRr.out.at_ i hi
            have hne := HX0.out (by omega) _ e
            exact ⟨b, off, e, (hC2'.cell (p := ⟨b, off + i, none⟩) (World.block_lt_of_cell? _ _ hc) hne).trans hc⟩, HR.out.lo, HR.out.len⟩
          have hg2' : w2.heap[w.heap.size]? = some (.cells #[.slice a l.length cap, .int .i64 ((k + 2 : Nat) : Int)] 55 (0, 0)) := by rw [hg2, show ((k + 1 : Nat) : Int) + 1 = ((k + 2 : Nat) : Int) by omega]
          have HC2 := Lib.hid hC2'
          have HR2 := Lib.hid hR2
          have HG2 := Lib.hid hg2'
          clear hs hg2 hg2' hC2 hC2' hR2 hR1 hgx hC1' hC1
          go_wp2_with fail
          refine (below_calls (k := k + 2) HG2.out HR2.out HX0.out 7 (by omega) (by omega) (by omega)).mono ?_
          obtain ⟨t1, t2⟩ := taken_bd l (k + 2) (n := 7) (by omega)
          obtain ⟨t, ht⟩ : ∃ t, taken l (k + 2) 7 = t := ⟨_, rfl⟩
          rw [ht] at t1 t2 ⊢
          rintro e w3 ⟨rfl, hg3, hC3⟩
          have hC3' : Chg (fun b => b = w.heap.size) wr w3 := HC2.out.trans hC3 (fun _ _ h => h)
          have hg3' : w3.heap[w.heap.size]? = some (.cells #[.slice a l.length cap, .int .i64 ((k + 3 : Nat) : Int)] 55 (0, 0)) := by rw [hg3, show ((k + 2 : Nat) : Int) + 1 = ((k + 3 : Nat) : Int) by omega]
          have hown3 : w3.ownsRow (w.heap.size + 1) 36 3 u4 m (dcells D) := own_chg HO.out hC3' (fun g hg => by have := (World.ownsRow.lt HO.out g hg).1; omega)
          have hsz3 : w.heap.size + 1 ≤ w3.heap.size := Nat.le_trans hsz hC3'.size
          have HC3 := Lib.hid hC3'
          have HG3 := Lib.hid hg3'
          have HO3 := Lib.hid hown3
          clear ht hg3 hg3' hC3 hC3' hown3
          go_wp2_with (at_builtin; go_must (refine wpList_append_own_at _ rfl _ _ 33 rfl (w.heap.size + 1) 36 i0 (.agg #[.int .i64 0, .int .i64 0, .int .i64 0]) 3 24 Tryz.underlying33 hi hz0 hz1 hz2 rfl (by decide) _ _ _ rfl (HO3.out.alloc _) ⟨w3.heap.size, 0, none⟩ 1 1 (dcells [⟨y, s, t⟩]) rfl (by simp [dcells]) ?_ ?_ (by unfold maxLen; omega) (by omega) (by simp; omega) ?_))
          · intro j u hj
            exact deed_cell w3 y s t j u hj
          · intro u hu
            simp [dcells] at hu
            rcases hu with rfl | rfl | rfl <;> rfl
          intro v' w4 hown4 hg4 _ hloc
          have HX4 := Lib.hid hown4
          have HY4 := Lib.hid hg4
          clear hown4 hg4 hloc
          go_wp2
          go_roundw
          case rel =>
            have hg4 := HY4.out
            have hneB : (w.heap.size : Nat) < (w3.alloc (.cells #[.int .i64 y, .int .i64 s, .int .i64 t] 36)).heap.size := by simp; omega
            have hnr : some w.heap.size ≠ u4.ownBlock := fun e => by have := (World.ownsRow.lt HO.out _ e.symm).1; omega
            refine ⟨m + 1, k + 3, D ++ [⟨y, s, t⟩], by omega, by go_num, by omega, by rw [List.length_append, HD.out]; rfl, ?_, (hg4.block _ hneB hnr).trans (heap_alloc_get HG3.out), by rw [dcells_append]; exact HX4.out, ?_, Nat.le_trans (by simp; omega) hg4.size⟩
            · intro d hd
              rcases List.mem_append.1 hd with hd | hd
              · exact HOK.out d hd
              · simp at hd; subst hd; exact Deed.ok_mk (by omega) (by omega) (by omega) (by omega) (by omega) (by omega)
            · refine Below.grown (Below.alloc (hB.trans (HC3.out.below (by omega) (fun i hi e => by omega))) (by omega) _) hg4 (by simp; omega) (fun i hi => ?_)
              have := (World.ownsRow.lt HO.out _ hi).1; omega
          case measure => simp [intOf]; omega
      · have hm8' : ¬ (m : Int) < 8 := by omega
        clear hm8
        go_wp2_with fail
        have hC1' : Chg (fun b => b = w.heap.size) wr w1 := (((Chg.refl _ wr).alloc _).trans hC1 (fun _ _ h => h))
        have hgx : w1.heap[w.heap.size]? = some (.cells #[.slice a l.length cap, .int .i64 ((k + 1 : Nat) : Int)] 55 (0, 0)) := by rw [show ((k + 1 : Nat) : Int) = (k : Int) + 1 by omega]; exact HG1.out
        have hR1 : Raw (w1) a l := ⟨fun i hi => by
          obtain ⟨b, off, e, hc⟩ := HRr.out.at_ i hi
          have hne := HX0.out (by omega) _ e
          exact ⟨b, off, e, (hC1'.cell (p := ⟨b, off + i, none⟩) (World.block_lt_of_cell? _ _ hc) hne).trans hc⟩, HR.out.lo, HR.out.len⟩
        refine (below_calls (k := k + 1) hgx hR1 HX0.out 10 (by omega) (by omega) (by omega)).mono ?_
        obtain ⟨s1, s2⟩ := taken_bd l (k + 1) (n := 10) (by omega)
        obtain ⟨s, hs⟩ : ∃ s, taken l (k + 1) 10 = s := ⟨_, rfl⟩
        rw [hs] at s1 s2 ⊢
        rintro e w2 ⟨rfl, hg2, hC2⟩
        have hC2' : Chg (fun b => b = w.heap.size) wr w2 := hC1'.trans hC2 (fun _ _ h => h)
        have hR2 : Raw w2 a l := ⟨fun i hi => by
          obtain ⟨b, off, e, hc⟩ := HRr.out.at_ i hi
          have hne := HX0.out (by omega) _ e
          exact ⟨b, off, e, (hC2'.cell (p := ⟨b, off + i, none⟩) (World.block_lt_of_cell? _ _ hc) hne).trans hc⟩, HR.out.lo, HR.out.len⟩
        have hg2' : w2.heap[w.heap.size]? = some (.cells #[.slice a l.length cap, .int .i64 ((k + 2 : Nat) : Int)] 55 (0, 0)) := by rw [hg2, show ((k + 1 : Nat) : Int) + 1 = ((k + 2 : Nat) : Int) by omega]
        have HC2 := Lib.hid hC2'
        have HR2 := Lib.hid hR2
        have HG2 := Lib.hid hg2'
        clear hs hg2 hg2' hC2 hC2' hR2 hR1 hgx hC1' hC1
        go_wp2_with fail
        refine (below_calls (k := k + 2) HG2.out HR2.out HX0.out 7 (by omega) (by omega) (by omega)).mono ?_
        obtain ⟨t1, t2⟩ := taken_bd l (k + 2) (n := 7) (by omega)
        obtain ⟨t, ht⟩ : ∃ t, taken l (k + 2) 7 = t := ⟨_, rfl⟩
        rw [ht] at t1 t2 ⊢
        rintro e w3 ⟨rfl, hg3, hC3⟩
        have hC3' : Chg (fun b => b = w.heap.size) wr w3 := HC2.out.trans hC3 (fun _ _ h => h)
        have hg3' : w3.heap[w.heap.size]? = some (.cells #[.slice a l.length cap, .int .i64 ((k + 3 : Nat) : Int)] 55 (0, 0)) := by rw [hg3, show ((k + 2 : Nat) : Int) + 1 = ((k + 3 : Nat) : Int) by omega]
        have hown3 : w3.ownsRow (w.heap.size + 1) 36 3 u4 m (dcells D) := own_chg HO.out hC3' (fun g hg => by have := (World.ownsRow.lt HO.out g hg).1; omega)
        have hsz3 : w.heap.size + 1 ≤ w3.heap.size := Nat.le_trans hsz hC3'.size
        have HC3 := Lib.hid hC3'
        have HG3 := Lib.hid hg3'
        have HO3 := Lib.hid hown3
        clear ht hg3 hg3' hC3 hC3' hown3
        go_wp2_with (at_builtin; go_must (refine wpList_append_own_at _ rfl _ _ 33 rfl (w.heap.size + 1) 36 i0 (.agg #[.int .i64 0, .int .i64 0, .int .i64 0]) 3 24 Tryz.underlying33 hi hz0 hz1 hz2 rfl (by decide) _ _ _ rfl (HO3.out.alloc _) ⟨w3.heap.size, 0, none⟩ 1 1 (dcells [⟨x, s, t⟩]) rfl (by simp [dcells]) ?_ ?_ (by unfold maxLen; omega) (by omega) (by simp; omega) ?_))
        · intro j u hj
          exact deed_cell w3 x s t j u hj
        · intro u hu
          simp [dcells] at hu
          rcases hu with rfl | rfl | rfl <;> rfl
        intro v' w4 hown4 hg4 _ hloc
        have HX4 := Lib.hid hown4
        have HY4 := Lib.hid hg4
        clear hown4 hg4 hloc
        go_wp2
        go_roundw
        case rel =>
          have hg4 := HY4.out
          have hneB : (w.heap.size : Nat) < (w3.alloc (.cells #[.int .i64 x, .int .i64 s, .int .i64 t] 36)).heap.size := by simp; omega
          have hnr : some w.heap.size ≠ u4.ownBlock := fun e => by have := (World.ownsRow.lt HO.out _ e.symm).1; omega
          refine ⟨m + 1, k + 3, D ++ [⟨x, s, t⟩], by omega, by go_num, by omega, by rw [List.length_append, HD.out]; rfl, ?_, (hg4.block _ hneB hnr).trans (heap_alloc_get HG3.out), by rw [dcells_append]; exact HX4.out, ?_, Nat.le_trans (by simp; omega) hg4.size⟩
          · intro d hd
            rcases List.mem_append.1 hd with hd | hd
            · exact HOK.out d hd
            · simp at hd; subst hd; exact Deed.ok_mk (by omega) (by omega) (by omega) (by omega) (by omega) (by omega)
          · refine Below.grown (Below.alloc (hB.trans (HC3.out.below (by omega) (fun i hi e => by omega))) (by omega) _) hg4 (by simp; omega) (fun i hi => ?_)
            have := (World.ownsRow.lt HO.out _ hi).1; omega
        case measure => simp [intOf]; omega
    · have HRr := Lib.hid hRr
      clear hRr
      by_cases hc1 : m < 150
      · have hc1' : (m : Int) < 150 := by omega
        have hc2' : ¬ (k : Int) < (l.length : Nat) := by omega
        have hc2b : decide ((k : Int) < (l.length : Nat)) = false := by simpa using hc2'
        clear hc
        go_wp2
        go_ret
        exact ⟨_, D, rfl, by have := HD.out; omega, HOK.out, by rw [HD.out]; exact ownsRow_base HO.out (by omega), hB⟩
      · have hc1' : ¬ (m : Int) < 150 := by omega
        clear hc
        go_wp2
        go_ret
        exact ⟨_, D, rfl, by have := HD.out; omega, HOK.out, by rw [HD.out]; exact ownsRow_base HO.out (by omega), hB⟩
end Go.Proofs.YtlfbommppenlcaaGreatDoor
