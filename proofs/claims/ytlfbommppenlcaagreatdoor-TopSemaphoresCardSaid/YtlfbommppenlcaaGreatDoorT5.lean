/- TopSemaphores answers true: the walk. Conditions: the raw numbers lie in memory. -/
import Derived.Test.YtlfbommppenlcaaGreatDoorT4
import Derived.Test.YtlfbommppenlcaaGreatDoorP2
namespace Go.Proofs.YtlfbommppenlcaaGreatDoor
open Go.RowKit Go.Mem

namespace Sma
def put (i : Nat) : St := { St.new with sems := List.replicate i ([], 0) }
theorem put_sem {i : Nat} (h : i < 4) : (put i).sem = (((i : Int) + 1, 0), put (i + 1)) := by
  have : i = 0 ∨ i = 1 ∨ i = 2 ∨ i = 3 := by omega
  rcases this with rfl | rfl | rfl | rfl <;> rfl
theorem put_wf {i : Nat} (h : i ≤ 4) : (put i).WF 0 := by
  have : i = 0 ∨ i = 1 ∨ i = 2 ∨ i = 3 ∨ i = 4 := by omega
  rcases this with rfl | rfl | rfl | rfl | rfl
  · exact St.WF.new
  · exact St.WF.new.sem
  · exact St.WF.new.sem.sem
  · exact St.WF.new.sem.sem.sem
  · exact St.WF.new.sem.sem.sem.sem
theorem put_zero : put 0 = St.new := rfl
theorem put_four : put 4 = four := rfl
end Sma

/-- As PInv, and some blocks besides stay as they are. -/
def QInv (R : St → St → Prop) (B sb tb : Nat) (w0 : World) (base : Nat) (a : Option Addr) (cap : Nat) (D : List Deed) (X : Nat → Option Obj) (k : Nat) (wr : World) : Prop :=
  ∃ S T F G, SchAt wr sb F S ∧ SchAt wr tb G T ∧ R S T ∧ S.WF (4 * k) ∧ T.WF (4 * k) ∧ (∀ b, F b → ¬ G b) ∧ (∀ b, F b → B ≤ b) ∧ (∀ b, G b → B ≤ b) ∧
    (∀ x, a = some x → ¬ F x.block ∧ ¬ G x.block) ∧ DeedsAt wr base a cap D ∧ Below B w0 wr ∧ B ≤ wr.heap.size ∧ (∀ g o, X g = some o → ¬ F g ∧ ¬ G g ∧ wr.heap[g]? = some o)

/-- Behind a round. -/
theorem QInv.round {R : St → St → Prop} {B sb tb : Nat} {w0 : World} {base : Nat} {a : Option Addr} {cap : Nat} {D : List Deed} {X : Nat → Option Obj} {k : Nat} {wr wA w5 w6 w7 : World} {S' T' : St} {F G F1 G1 : Nat → Prop}
    (cA : Chg (fun _ => False) wr wA) (hD : DeedsAt wr base a cap D) (hB : Below B w0 wr) (hsz : B ≤ wr.heap.size) (hF : ∀ b, F b → B ≤ b) (hG : ∀ b, G b → B ≤ b) (ha : ∀ x, a = some x → ¬ F x.block ∧ ¬ G x.block)
    (hX : ∀ g o, X g = some o → ¬ F g ∧ ¬ G g ∧ wr.heap[g]? = some o)
    (g1 : Goes F F1 wA w5) (hS : SchAt w5 sb F1 S') (g2 : Goes G G1 w5 w6) (hT : SchAt w6 tb G1 T') (hFG : ∀ b, G1 b → ¬ F1 b) (hFG0 : ∀ b, G b → ¬ F1 b) (hR : R S' T') (hW : S'.WF (4 * k + 4)) (hW2 : T'.WF (4 * k + 4)) (c7 : Below w6.heap.size w6 w7) :
    QInv R B sb tb w0 base a cap D X (k + 1) w7 := by
  have c7' : Chg (fun _ => False) w6 w7 := Chg.of_below' c7
  have hw6 : SchAt w6 sb F1 S' := hS.chg g2.chg (fun b hb hg => hFG0 b hg hb)
  have e4 : 4 * (k + 1) = 4 * k + 4 := by omega
  have hnew : ∀ g, g < wr.heap.size → ¬ F g → ¬ G g → ¬ F1 g ∧ ¬ G1 g := by
    intro g hlt n1 n2
    have := cA.size; have := g1.chg.size
    refine ⟨fun h => ?_, fun h => ?_⟩
    · rcases g1.new _ h with h | h
      · exact n1 h
      · omega
    · rcases g2.new _ h with h | h
      · exact n2 h
      · omega
  refine ⟨S', T', F1, G1, hw6.chg c7' (fun _ _ h => h), hT.chg c7' (fun _ _ h => h), hR, by rw [e4]; exact hW, by rw [e4]; exact hW2, fun b h1 h2 => hFG b h2 h1, fun b hb => ?_, fun b hb => ?_, fun x hx => ?_, ?_, ?_, ?_, fun g o ho => ?_⟩
  · have := cA.size
    rcases g1.new b hb with h | h
    · exact hF b h
    · omega
  · have := cA.size; have := g1.chg.size
    rcases g2.new b hb with h | h
    · exact hG b h
    · omega
  · have hlt : x.block < wr.heap.size := by
      rcases hD.own.2 with ⟨e, _⟩ | ⟨g, cap', cur, e, _, hg, _⟩
      · simp only [Value.slice.injEq] at e; rw [hx] at e; cases e.1
      · simp only [Value.slice.injEq] at e; rw [hx] at e
        have := Option.some.inj e.1
        rw [this]; exact lt_of_block hg
    exact hnew _ hlt (ha x hx).1 (ha x hx).2
  · have h1 := hD.kept cA (fun _ h => h.elim)
    have h2 := h1.kept g1.chg (fun g hg x hx e => (ha x hx).1 (by rw [e]; exact hg))
    have h3 := h2.kept g2.chg (fun g hg x hx e => (ha x hx).2 (by rw [e]; exact hg))
    exact h3.kept c7' (fun _ h => h.elim)
  · have b1 := cA.below hsz (fun _ _ h => h)
    have z1 := cA.size
    have b2 := g1.chg.below (B := B) (by omega) (fun b hb hf => by have := hF b hf; omega)
    have z2 := g1.chg.size
    have b3 := g2.chg.below (B := B) (by omega) (fun b hb hf => by have := hG b hf; omega)
    have z3 := g2.chg.size
    exact (((hB.trans b1).trans b2).trans b3).trans (c7.mono (by omega))
  · have := cA.size; have := g1.chg.size; have := g2.chg.size; have := c7.size; omega
  · obtain ⟨n1, n2, ho⟩ := hX g o ho
    obtain ⟨m1, m2⟩ := hnew g (lt_of_block ho) n1 n2
    exact ⟨m1, m2, c7'.get (g2.chg.get (g1.chg.get (cA.get ho (fun h => h)) n1) n2) (fun h => h)⟩

theorem QInv.skip {R : St → St → Prop} {B sb tb : Nat} {w0 : World} {base : Nat} {a : Option Addr} {cap : Nat} {D : List Deed} {X : Nat → Option Obj} {k : Nat} {wr w' : World}
    (h : QInv R B sb tb w0 base a cap D X k wr) (c : Below wr.heap.size wr w') : QInv R B sb tb w0 base a cap D X (k + 1) w' := by
  obtain ⟨S, T, F, G, hs, ht, hrel, hWS, hWT, hFG, hFb, hGb, hda, hD, hBr, hsz, hX⟩ := h
  have c' : Chg (fun _ => False) wr w' := Chg.of_below' c
  exact ⟨S, T, F, G, hs.below c, ht.below c, hrel, hWS.mono (by omega), hWT.mono (by omega), hFG, hFb, hGb, hda, hD.kept c' (fun _ h => h.elim), hBr.trans (c.mono hsz), Nat.le_trans hsz c.size, fun g o ho => ⟨(hX g o ho).1, (hX g o ho).2.1, c'.get (hX g o ho).2.2 (fun h => h)⟩⟩

theorem other_calls (w : World) (b1 b2 : Nat) (p q n : Int) (h1 : w.cell? ⟨b1, 0, none⟩ = some (.int .i64 p)) (h2 : w.cell? ⟨b2, 0, none⟩ = some (.int .i64 q)) :
    Calls Tryz.prog 27 #[.int .i64 n, .pointer (some ⟨b1, 0, none⟩), .pointer (some ⟨b2, 0, none⟩)] w fun e w' => e = .returned (.int .i64 (Sma.other p q n)) ∧ w = w' := by
  unfold Sma.other
  by_cases e1 : n = p
  · rw [if_pos e1]
    subst e1
    have : (n == n) = true := by simp
    go_enter Tryz.func27, Tryz.ntmps27
    go_wp2
    go_ret
    exact ⟨rfl, rfl⟩
  · rw [if_neg e1]
    have b1 : (n == p) = false := by simpa using e1
    by_cases e2 : n = q
    · rw [if_pos e2]
      subst e2
      have : (n == n) = true := by simp
      clear e1
      go_enter Tryz.func27, Tryz.ntmps27
      go_wp2
      go_ret
      exact ⟨rfl, rfl⟩
    · rw [if_neg e2]
      have b2 : (n == q) = false := by simpa using e2
      clear e1 e2
      go_enter Tryz.func27, Tryz.ntmps27
      go_wp2
      go_ret
      exact ⟨rfl, rfl⟩

set_option maxRecDepth 100000 in
set_option maxHeartbeats 4000000 in
theorem semas_calls {w : World} {a : Option Addr} {cap : Nat} {l : List Int} (m n : Int) (hm : 0 ≤ m) (hm2 : m ≤ 255) (hn : 0 ≤ n) (hn2 : n ≤ 255) (hR : Raw w a l) (hab : 0 < l.length → ∀ x, a = some x → x.block < w.heap.size) :
    Calls Tryz.prog 5 #[.slice a l.length cap, .int .u8 m, .int .u8 n] w fun e w' => e = .returned (.bool true) ∧ Below w.heap.size w w' := by
  have HR := Lib.hid hR
  have HAB := Lib.hid hab
  clear hR hab
  go_enter Tryz.func5, Tryz.ntmps5
  go_wp2_with fail
  refine (known_calls _).mono ?_
  rintro e w1 ⟨rfl, hB1⟩
  go_wp2_with fail
  refine (new_calls _).mono ?_
  rintro e w2 ⟨F, rfl, hA2, hG2⟩
  go_wp2_with fail
  refine (new_calls _).mono ?_
  rintro e w3 ⟨G, rfl, hA3, hG3⟩
  have hB3 : Below w.heap.size w w3 := (hB1.trans (hG2.chg.below hB1.size (fun _ _ h => h))).trans (hG3.chg.below (Nat.le_trans hB1.size hG2.chg.size) (fun _ _ h => h))
  have hFG : ∀ b, F b → ¬ G b := fun b h1 h2 => by
    have := hA2.lt b h1
    rcases hG3.new b h2 with h | h
    · exact h
    · omega
  have hFb : ∀ b, F b → w.heap.size ≤ b := fun b hb => by
    rcases hG2.new b hb with h | h
    · exact h.elim
    · exact Nat.le_trans hB1.size h
  have hGb : ∀ b, G b → w.heap.size ≤ b := fun b hb => by
    rcases hG3.new b hb with h | h
    · exact h.elim
    · exact Nat.le_trans hB1.size (Nat.le_trans hG2.chg.size h)
  have hs3 := hA2.chg hG3.chg (fun _ _ h => h)
  have HFG := Lib.hid hFG
  have HFB := Lib.hid hFb
  have HGB := Lib.hid hGb
  clear hFG hFb hGb hA2 hG2 hG3 hB1
  go_wp2_with fail
  go_loopw [10] (fun i wr => ∃ k : Nat, k ≤ 4 ∧ i = .int .i64 k ∧ ∃ F1 G1, SchAt wr w1.heap.size F1 (Sma.put k) ∧ SchAt wr w2.heap.size G1 (Sma.put k) ∧ (∀ b, F1 b → ¬ G1 b) ∧ (∀ b, F1 b → w.heap.size ≤ b) ∧ (∀ b, G1 b → w.heap.size ≤ b) ∧ Below w.heap.size w wr) (fun i _ => 4 - (intOf i).toNat)
  case atStart => exact ⟨0, by omega, rfl, F, G, hs3, hA3, HFG.out, HFB.out, HGB.out, hB3⟩
  case round =>
    obtain ⟨k, hk, rfl, F1, G1, hs, ht, hFG, hF1b, hG1b, hBr⟩ := hrel
    by_cases hlt : k < 4
    · have hlt' : (k : Int) < 4 := by omega
      have HP := Lib.hid (Sma.put_sem hlt)
      have HW := Lib.hid (show (Sma.put k).WF 0 from Sma.put_wf hk)
      have H1 := Lib.hid hFG
      have H2 := Lib.hid hF1b
      have H3 := Lib.hid hG1b
      clear hFG hF1b hG1b hlt hk
      go_wp2_with fail
      refine (sem_calls hs HW.out).mono ?_
      rw [HP.out]
      rintro e w5 ⟨rfl, hM1⟩
      obtain ⟨F2, hs1, ht1, g1, hFG1⟩ := pair_step ht H1.out hM1
      have HFG1 := Lib.hid hFG1
      clear hFG1 hM1
      go_wp2_with fail
      refine (sem_calls ht1 HW.out).mono ?_
      rw [HP.out]
      rintro e w6 ⟨rfl, hM2⟩
      obtain ⟨G2, ht2, hs2, g2, hGF⟩ := pair_step hs1 (fun b h1 h2 => HFG1.out b h2 h1) hM2
      have HGF := Lib.hid hGF
      clear hGF hM2
      go_wp2
      go_roundw
      case rel =>
        refine ⟨k + 1, by omega, by go_num, F2, G2, hs2, ht2, fun b h1 h2 => HGF.out b h2 h1, fun b hb => ?_, fun b hb => ?_, ?_⟩
        · rcases g1.new b hb with h | h
          · exact H2.out b h
          · have := hBr.size; have := hB3.size; omega
        · have := g1.chg.size
          rcases g2.new b hb with h | h
          · exact H3.out b h
          · have := hBr.size; have := hB3.size; omega
        · have b2 := g1.chg.below (B := w.heap.size) hBr.size (fun b hb hf => by have := H2.out b hf; omega)
          have b3 := g2.chg.below (B := w.heap.size) (Nat.le_trans hBr.size g1.chg.size) (fun b hb hf => by have := H3.out b hf; omega)
          exact (hBr.trans b2).trans b3
      case measure => simp [intOf]; omega
    · have e4 : k = 4 := by omega
      subst e4
      have hFGp := Lib.hid hFG
      have hF1p := Lib.hid hF1b
      have hG1p := Lib.hid hG1b
      clear hlt hk hFG hF1b hG1b
      go_wp2_with fail
      have cA0 : Chg (fun _ => False) wr ((wr.alloc (.cells #[.int .i64 (1 + m % 4)] 3)).alloc (.cells #[.int .i64 (1 + n % 4)] 3)) := ((Chg.refl _ _).alloc _).alloc _
      have hBA : Below w.heap.size w ((wr.alloc (.cells #[.int .i64 (1 + m % 4)] 3)).alloc (.cells #[.int .i64 (1 + n % 4)] 3)) := hBr.trans (cA0.below hBr.size (fun _ _ h => h))
      have hpb : ((wr.alloc (.cells #[.int .i64 (1 + m % 4)] 3)).alloc (.cells #[.int .i64 (1 + n % 4)] 3)).heap[wr.heap.size]? = some (.cells #[.int .i64 (1 + m % 4)] 3 (0, 0)) := by
        rw [heap_alloc_lt (by simp)]; exact heap_alloc_self
      have hqb : ((wr.alloc (.cells #[.int .i64 (1 + m % 4)] 3)).alloc (.cells #[.int .i64 (1 + n % 4)] 3)).heap[wr.heap.size + 1]? = some (.cells #[.int .i64 (1 + n % 4)] 3 (0, 0)) := by
        have := @heap_alloc_self (wr.alloc (.cells #[.int .i64 (1 + m % 4)] 3)) (.cells #[.int .i64 (1 + n % 4)] 3)
        simpa using this
      have hsA := hs.chg cA0 (fun _ _ h => h)
      have htA := ht.chg cA0 (fun _ _ h => h)
      have hRA : Raw ((wr.alloc (.cells #[.int .i64 (1 + m % 4)] 3)).alloc (.cells #[.int .i64 (1 + n % 4)] 3)) a l := ⟨fun i hi => by
        obtain ⟨b, off, e, hc⟩ := HR.out.at_ i hi
        exact ⟨b, off, e, (hBA.cell (p := ⟨b, off + i, none⟩) (by have := HAB.out (by omega) _ e; exact this)).trans hc⟩, HR.out.lo, HR.out.len⟩
      refine (deeds_calls hRA (fun hl x hx => Nat.lt_of_lt_of_le (HAB.out hl x hx) hBA.size)).mono ?_
      obtain ⟨wA, hwA⟩ : ∃ x, (wr.alloc (.cells #[.int .i64 (1 + m % 4)] 3)).alloc (.cells #[.int .i64 (1 + n % 4)] 3) = x := ⟨_, rfl⟩
      have hszA : wA.heap.size = wr.heap.size + 2 := by rw [← hwA]; simp
      rw [hwA] at hBA hpb hqb hsA htA ⊢
      intro e w4 hD
      obtain ⟨da, dcap, D, rfl, hD1, hD2, hB4⟩ := hD.out
      obtain ⟨p, hp⟩ : ∃ p : Int, 1 + m % 4 = p := ⟨_, rfl⟩
      obtain ⟨q, hq⟩ : ∃ p : Int, 1 + n % 4 = p := ⟨_, rfl⟩
      have hp1 : 1 ≤ p ∧ p ≤ 4 := by omega
      have hq1 : 1 ≤ q ∧ q ≤ 4 := by omega
      rw [hp] at hpb
      rw [hq] at hqb
      have hs4 := hsA.below hB4
      have ht4 := htA.below hB4
      have hpb4 : w4.heap[wr.heap.size]? = some (.cells #[.int .i64 p] 3 (0, 0)) := (hB4.block _ (by omega)).trans hpb
      have hqb4 : w4.heap[wr.heap.size + 1]? = some (.cells #[.int .i64 q] 3 (0, 0)) := (hB4.block _ (by omega)).trans hqb
      have hinv : QInv (Sma.Rel p q) w.heap.size w1.heap.size w2.heap.size w wA.heap.size da dcap D (fun g => if g = wr.heap.size then some (.cells #[.int .i64 p] 3 (0, 0)) else if g = wr.heap.size + 1 then some (.cells #[.int .i64 q] 3 (0, 0)) else none) 0 w4 := by
        refine ⟨Sma.four, Sma.four, F1, G1, hs4, ht4, Sma.Rel.four hp1 hq1, Sma.put_wf (i := 4) (by omega), Sma.put_wf (i := 4) (by omega), hFGp.out, hF1p.out, hG1p.out, fun x hx => ?_, hD2, hBA.trans (hB4.mono hBA.size), Nat.le_trans hBA.size hB4.size, fun g o ho => ?_⟩
        · have hge : wA.heap.size ≤ x.block := by
            rcases hD2.own.2 with ⟨e, _⟩ | ⟨g, cap', cur, e, hb, _⟩
            · simp only [Value.slice.injEq] at e; rw [hx] at e; cases e.1
            · simp only [Value.slice.injEq] at e; rw [hx] at e
              have := Option.some.inj e.1
              rw [this]; exact hb
          exact ⟨fun h => by have := hs.lt _ h; omega, fun h => by have := ht.lt _ h; omega⟩
        · by_cases e1 : g = wr.heap.size
          · subst e1
            have ho' := (if_pos rfl).symm.trans ho
            exact ⟨fun h => by have := hs.lt _ h; omega, fun h => by have := ht.lt _ h; omega, hpb4.trans ho'⟩
          · have ho := (if_neg e1).symm.trans ho
            by_cases e2 : g = wr.heap.size + 1
            · subst e2
              have ho := (if_pos rfl).symm.trans ho
              exact ⟨fun h => by have := hs.lt _ h; omega, fun h => by have := ht.lt _ h; omega, hqb4.trans ho⟩
            · have ho := (if_neg e2).symm.trans ho
              cases ho
      obtain ⟨pb, hpbe⟩ : ∃ x, wr.heap.size = x := ⟨_, rfl⟩
      rw [hpbe] at hinv
      have HI := Lib.hid hinv
      clear hinv hs4 ht4 hs ht hB3 hB4 hD hD2 hpb hqb hpb4 hqb4 hsA htA hRA hBA cA0 hs3 hA3 hBr hp hq
      rw [hpbe]
      clear hpbe hwA hszA hFGp hF1p hG1p
      go_wp2
      go_loopw [84] (fun i wr => ∃ k : Nat, k ≤ D.length ∧ i = .int .i64 k ∧ QInv (Sma.Rel p q) w.heap.size w1.heap.size w2.heap.size w wA.heap.size da dcap D (fun g => if g = pb then some (.cells #[.int .i64 p] 3 (0, 0)) else if g = pb + 1 then some (.cells #[.int .i64 q] 3 (0, 0)) else none) k wr) (fun i _ => D.length - (intOf i).toNat)
      case atStart => exact ⟨0, Nat.zero_le _, rfl, HI.out⟩
      case round =>
        obtain ⟨k, hk, rfl, hinv⟩ := hrel
        by_cases hlt : k < D.length
        · have HQI := Lib.hid hinv
          obtain ⟨S, T, F, G, hs, ht, hrel, hWS, hWT, hFG, hFb, hGb, hda, hD3, hBr, hsz, hX⟩ := hinv
          obtain ⟨g, hdg, hgb, hk1, hk2, hk3⟩ := hD3.cells hlt
          obtain ⟨q1, q2, q3, q4, q5, q6⟩ := hD3.ok D[k] (List.getElem_mem hlt)
          have hlt' : (k : Int) < (D.length : Nat) := by omega
          obtain ⟨dk, dA, dB, hdd⟩ : ∃ x y z, D[k] = ⟨x, y, z⟩ := ⟨_, _, _, rfl⟩
          rw [hdd] at hk1 hk2 hk3 q1 q2 q3 q4 q5 q6
          dsimp only at hk1 hk2 hk3 q1 q2 q3 q4 q5 q6
          have HNP := Lib.hid (show ¬ F pb ∧ ¬ G pb from ⟨(hX pb _ (if_pos rfl)).1, (hX pb _ (if_pos rfl)).2.1⟩)
          have HPB := Lib.hid (hX pb _ (if_pos rfl)).2.2
          have hne : pb + 1 ≠ pb := by omega
          have HNQ := Lib.hid (show ¬ F (pb + 1) ∧ ¬ G (pb + 1) from ⟨(hX (pb + 1) _ ((if_neg hne).trans (if_pos rfl))).1, (hX (pb + 1) _ ((if_neg hne).trans (if_pos rfl))).2.1⟩)
          have HQB := Lib.hid (hX (pb + 1) _ ((if_neg hne).trans (if_pos rfl))).2.2
          have HX := Lib.hid hX
          have HFG := Lib.hid hFG
          have HFB := Lib.hid hFb
          have HGB := Lib.hid hGb
          have HDA := Lib.hid hda
          have HREL0 := Lib.hid hrel
          clear hdd hFG hFb hGb hda hX hne hrel
          subst hdg
          by_cases h7 : dk > 6
          · clear HQB HPB HNP HNQ HX HFG HFB HGB HDA HREL0 hs ht hWS hWT hBr hsz hD3
            go_wp2
            go_roundw
            case rel => exact ⟨k + 1, by omega, by go_num, HQI.out.skip (((Chg.refl (fun _ => False) _).alloc _).below (Nat.le_refl _) (fun _ _ h => h))⟩
            case measure => simp [intOf]; omega
          · have hstep := HREL0.out.done ⟨dk, dA, dB⟩ (by dsimp only; omega) q1
            have HST := Lib.hid hstep
            clear hstep HQI HREL0
            by_cases e5 : dk = 5
            · subst e5
              have HO2 := Lib.hid (show Sma.two p q ⟨5, dA, dB⟩ = ⟨5, dA, Sma.other p q dB⟩ by unfold Sma.two; rw [if_pos (by simp)])
              have cA : Chg (fun _ => False) wr ((wr.alloc (.cells #[.int .i64 5, .int .i64 dA, .int .i64 dB] 36)).alloc (.cells #[.int .i64 5, .int .i64 dA, .int .i64 dB] 36)) := ((Chg.refl _ _).alloc _).alloc _
              have hpA : ((wr.alloc (.cells #[.int .i64 5, .int .i64 dA, .int .i64 dB] 36)).alloc (.cells #[.int .i64 5, .int .i64 dA, .int .i64 dB] 36)).cell? ⟨pb, 0, none⟩ = some (.int .i64 p) := cell_of_block (cA.get HPB.out (fun h => h)) rfl
              have hqA : ((wr.alloc (.cells #[.int .i64 5, .int .i64 dA, .int .i64 dB] 36)).alloc (.cells #[.int .i64 5, .int .i64 dA, .int .i64 dB] 36)).cell? ⟨pb + 1, 0, none⟩ = some (.int .i64 q) := cell_of_block (cA.get HQB.out (fun h => h)) rfl
              clear cA
              go_wp2_with fail
              refine (other_calls _ _ _ p q dB hpA hqA).mono ?_
              rintro e w' ⟨rfl, rfl⟩
              clear hpA hqA
              obtain ⟨y, hy⟩ : ∃ y, Sma.other p q dB = y := ⟨_, rfl⟩
              rw [hy]
              rw [hy] at HO2
              clear hy
              go_wp2_with fail
              have cA : Chg (fun _ => False) wr ((wr.alloc (.cells #[.int .i64 5, .int .i64 dA, .int .i64 dB] 36)).alloc (.cells #[.int .i64 5, .int .i64 dA, .int .i64 y] 36)) := ((Chg.refl _ _).alloc _).alloc _
              have htA := ht.chg cA (fun _ _ h => h)
              refine (done_calls (hs.chg cA (fun _ _ h => h)) hWS (by omega) ⟨5, dA, dB⟩ (by dsimp only; omega)).mono ?_
              rintro e w5 ⟨rfl, hM1⟩
              clear hk1 hk2 hk3
              obtain ⟨est, hrel'⟩ := HST.out
              rw [HO2.out] at est hrel'
              have hWS' := WF.done hWS ⟨5, dA, dB⟩
              have hWT' := WF.done hWT ⟨5, dA, y⟩
              obtain ⟨F1, hs1, ht1, g1, hF1G⟩ := pair_step (htA) HFG.out hM1
              have hb11 : w5.heap[wr.heap.size + 1]? = some (.cells #[.int .i64 5, .int .i64 dA, .int .i64 y] 36 (0, 0)) := g1.chg.get (hself (by simp)) (fun hf => by have := hs.lt _ hf; omega)
              have h110 : w5.cell? ⟨wr.heap.size + 1, 0, none⟩ = some (.int .i64 5) := cell_of_block hb11 rfl
              have h111 : w5.cell? ⟨wr.heap.size + 1, 1, none⟩ = some (.int .i64 dA) := cell_of_block hb11 rfl
              have h112 : w5.cell? ⟨wr.heap.size + 1, 2, none⟩ = some (.int .i64 y) := cell_of_block hb11 rfl
              have HEST := Lib.hid est
              have HREL := Lib.hid hrel'
              clear hb11
              have HF1G := Lib.hid hF1G
              clear est hrel' hF1G hM1
              go_wp2_with fail
              refine (done_calls ht1 hWT (by omega) ⟨5, dA, y⟩ (by dsimp only; omega)).mono ?_
              rintro e w6 ⟨rfl, hM2⟩
              clear h110 h111 h112
              obtain ⟨G1, ht2, hs2, g2, hG1F⟩ := pair_step hs1 (fun b h1 h2 => HF1G.out b h2 h1) hM2
              rw [HEST.out]
              obtain ⟨S', hS'⟩ : ∃ S', (S.done ⟨5, dA, dB⟩).2 = S' := ⟨_, rfl⟩
              obtain ⟨T', hT'⟩ : ∃ T', (T.done ⟨5, dA, y⟩).2 = T' := ⟨_, rfl⟩
              obtain ⟨r1, hr1⟩ : ∃ r, (S.done ⟨5, dA, dB⟩).1.1 = r := ⟨_, rfl⟩
              obtain ⟨r2, hr2⟩ : ∃ r, (S.done ⟨5, dA, dB⟩).1.2 = r := ⟨_, rfl⟩
              have hrel' := HREL.out
              rw [hS', hT'] at hrel'
              rw [hS'] at hs1 hs2 hWS'
              rw [hT'] at ht2 hWT'
              rw [hr1, hr2]
              have d1 : (r1 != r1) = false := by simp
              have d2 : (r2 != r2) = false := by simp
              have HREL2 := Lib.hid hrel'
              have HWS := Lib.hid hWS'
              have HWT := Lib.hid hWT'
              have HG1F := Lib.hid hG1F
              have HP6 := Lib.hid (g2.chg.get (g1.chg.get (cA.get HPB.out (fun h => h)) HNP.out.1) HNP.out.2)
              have HQ6 := Lib.hid (g2.chg.get (g1.chg.get (cA.get HQB.out (fun h => h)) HNQ.out.1) HNQ.out.2)
              clear hS' hT' hr1 hr2 hM2 hG1F HREL HEST hWS' hWT' hrel'
              go_wp2_with fail
              refine (active_calls hs2).mono ?_
              rintro e w' ⟨rfl, rfl⟩
              go_wp2_with fail
              refine (active_calls ht2).mono ?_
              rintro e w' ⟨rfl, rfl⟩
              rw [HREL2.out.active]
              have d3 : (S'.active != S'.active) = false := by simp
              go_wp2
              go_loopw [25] (fun i wx => ∃ j : Nat, 1 ≤ j ∧ j ≤ 9 ∧ i = .int .i64 j ∧ Below w6.heap.size w6 wx) (fun i _ => 9 - (intOf i).toNat)
              case atStart => exact ⟨1, by omega, by omega, rfl, Below.refl _ _⟩
              case round =>
                obtain ⟨j, hj1, hj2, rfl, hBx⟩ := hrel
                by_cases hj8 : j ≤ 8
                · have hj8' : (j : Int) ≤ 8 := by omega
                  have hsx := hs2.below hBx
                  have htx := ht2.below hBx
                  clear hj8
                  go_wp2_with fail
                  refine (ready_calls hsx HWS.out (by omega) j).mono ?_
                  rintro e w8 ⟨v1, rfl, f1, fb1, fo1⟩
                  have F1o := Lib.hid f1
                  clear f1 fo1
                  go_wp2_with fail
                  refine (ready_calls (htx.below fb1) HWT.out (by omega) j).mono ?_
                  rw [HREL2.out.readyOf]
                  rintro e w9 ⟨v2, rfl, f2, fb2, fo2⟩
                  have f1' : Sl w9 3 v1 (ints (S'.readyOf j)) := F1o.out.kept fun gx hgx => fb2.block gx (F1o.out.lt hgx)
                  have hlr : (S'.readyOf j).length < 100000 := by
                    unfold St.readyOf
                    split
                    · simp
                    · have := HWS.out.rl (j : Int).toNat; omega
                  have F1p := Lib.hid f1'
                  have F2p := Lib.hid f2
                  clear f1' f2 fo2
                  go_wp2_with fail
                  refine (ints_calls F1p.out F2p.out hlr).mono ?_
                  rintro e w' ⟨rfl, nq, rfl⟩
                  have d4 : (S'.readyOf j == S'.readyOf j) = true := by simp
                  rw [d4]
                  clear d4
                  go_wp2
                  go_roundw
                  case rel =>
                    refine ⟨j + 1, by omega, by omega, by go_num, ?_⟩
                    have b1 := hBx.trans (fb1.mono hBx.size)
                    have b2 := b1.trans (fb2.mono (Nat.le_trans hBx.size fb1.size))
                    exact ⟨b2.os, b2.tape, b2.output, b2.size, b2.block⟩
                  case measure => simp [intOf]; omega
                · have hj8' : ¬ (j : Int) ≤ 8 := by omega
                  clear hj8
                  go_wp2
                  go_loopw [26] (fun i wy => ∃ j : Nat, 1 ≤ j ∧ j ≤ 5 ∧ i = .int .i64 j ∧ Below w6.heap.size w6 wy) (fun i _ => 5 - (intOf i).toNat)
                  case atStart => exact ⟨1, by omega, by omega, rfl, hBx⟩
                  case round =>
                    obtain ⟨j, hj1, hj2, rfl, hBx⟩ := hrel
                    by_cases hj8 : j ≤ 4
                    · have hj8' : (j : Int) ≤ 4 := by omega
                      have hsx := hs2.below hBx
                      have htx := ht2.below hBx
                      clear hj8
                      go_wp2_with fail
                      refine (waiting_calls hsx HWS.out (by omega) j).mono ?_
                      rintro e w8 ⟨v1, rfl, f1, fb1, fo1⟩
                      have F1o := Lib.hid f1
                      clear f1 fo1
                      have hB8 := hBx.trans (fb1.mono hBx.size)
                      have hp8 : w8.cell? ⟨pb, 0, none⟩ = some (.int .i64 p) := cell_of_block ((hB8.block _ (lt_of_block HP6.out)).trans HP6.out) rfl
                      have hq8 : w8.cell? ⟨pb + 1, 0, none⟩ = some (.int .i64 q) := cell_of_block ((hB8.block _ (lt_of_block HQ6.out)).trans HQ6.out) rfl
                      go_wp2_with fail
                      refine (other_calls _ _ _ p q j hp8 hq8).mono ?_
                      rintro e w' ⟨rfl, rfl⟩
                      clear hp8 hq8
                      go_wp2_with fail
                      refine (waiting_calls (htx.below fb1) HWT.out (by omega) (Sma.other p q j)).mono ?_
                      rw [HREL2.out.waiting]
                      rintro e w9 ⟨v2, rfl, f2, fb2, fo2⟩
                      have f1' : Sl w9 3 v1 (ints (S'.waiting j).1) := F1o.out.kept fun gx hgx => fb2.block gx (F1o.out.lt hgx)
                      have hlr : (S'.waiting j).1.length < 100000 := by
                        unfold St.waiting
                        split
                        · have := (HWS.out.semAt ((j : Int).toNat - 1)).1; omega
                        · simp
                      obtain ⟨x2, hx2⟩ : ∃ x, (S'.waiting j).2 = x := ⟨_, rfl⟩
                      rw [hx2]
                      have d6 : (x2 != x2) = false := by simp
                      have F1p := Lib.hid f1'
                      have F2p := Lib.hid f2
                      clear f1' f2 fo2 hx2
                      go_wp2_with fail
                      refine (ints_calls F1p.out F2p.out hlr).mono ?_
                      rintro e w' ⟨rfl, nq, rfl⟩
                      have d4 : ((S'.waiting j).1 == (S'.waiting j).1) = true := by simp
                      rw [d4]
                      clear d4
                      go_wp2
                      go_roundw
                      case rel =>
                        refine ⟨j + 1, by omega, by omega, by go_num, ?_⟩
                        have b1 := hBx.trans (fb1.mono hBx.size)
                        have b2 := b1.trans (fb2.mono (Nat.le_trans hBx.size fb1.size))
                        exact ⟨b2.os, b2.tape, b2.output, b2.size, b2.block⟩
                      case measure => simp [intOf]; omega
                    · have hj8' : ¬ (j : Int) ≤ 4 := by omega
                      clear hj8
                      go_wp2
                      go_roundw
                      case rel =>
                        refine ⟨k + 1, by omega, by go_num, ?_⟩
                        exact QInv.round cA hD3 hBr hsz HFB.out HGB.out HDA.out HX.out g1 hs1 g2 ht2 HG1F.out (fun b h1 h2 => HF1G.out b h2 h1) HREL2.out HWS.out HWT.out hBx
                      case measure => simp [intOf]; omega

            · by_cases e6 : dk = 6
              · subst e6
                have HO2 := Lib.hid (show Sma.two p q ⟨6, dA, dB⟩ = ⟨6, dA, Sma.other p q dB⟩ by unfold Sma.two; rw [if_pos (by simp)])
                have cA : Chg (fun _ => False) wr ((wr.alloc (.cells #[.int .i64 6, .int .i64 dA, .int .i64 dB] 36)).alloc (.cells #[.int .i64 6, .int .i64 dA, .int .i64 dB] 36)) := ((Chg.refl _ _).alloc _).alloc _
                have hpA : ((wr.alloc (.cells #[.int .i64 6, .int .i64 dA, .int .i64 dB] 36)).alloc (.cells #[.int .i64 6, .int .i64 dA, .int .i64 dB] 36)).cell? ⟨pb, 0, none⟩ = some (.int .i64 p) := cell_of_block (cA.get HPB.out (fun h => h)) rfl
                have hqA : ((wr.alloc (.cells #[.int .i64 6, .int .i64 dA, .int .i64 dB] 36)).alloc (.cells #[.int .i64 6, .int .i64 dA, .int .i64 dB] 36)).cell? ⟨pb + 1, 0, none⟩ = some (.int .i64 q) := cell_of_block (cA.get HQB.out (fun h => h)) rfl
                clear cA
                go_wp2_with fail
                refine (other_calls _ _ _ p q dB hpA hqA).mono ?_
                rintro e w' ⟨rfl, rfl⟩
                clear hpA hqA
                obtain ⟨y, hy⟩ : ∃ y, Sma.other p q dB = y := ⟨_, rfl⟩
                rw [hy]
                rw [hy] at HO2
                clear hy
                go_wp2_with fail
                have cA : Chg (fun _ => False) wr ((wr.alloc (.cells #[.int .i64 6, .int .i64 dA, .int .i64 dB] 36)).alloc (.cells #[.int .i64 6, .int .i64 dA, .int .i64 y] 36)) := ((Chg.refl _ _).alloc _).alloc _
                have htA := ht.chg cA (fun _ _ h => h)
                refine (done_calls (hs.chg cA (fun _ _ h => h)) hWS (by omega) ⟨6, dA, dB⟩ (by dsimp only; omega)).mono ?_
                rintro e w5 ⟨rfl, hM1⟩
                clear hk1 hk2 hk3
                obtain ⟨est, hrel'⟩ := HST.out
                rw [HO2.out] at est hrel'
                have hWS' := WF.done hWS ⟨6, dA, dB⟩
                have hWT' := WF.done hWT ⟨6, dA, y⟩
                obtain ⟨F1, hs1, ht1, g1, hF1G⟩ := pair_step (htA) HFG.out hM1
                have hb11 : w5.heap[wr.heap.size + 1]? = some (.cells #[.int .i64 6, .int .i64 dA, .int .i64 y] 36 (0, 0)) := g1.chg.get (hself (by simp)) (fun hf => by have := hs.lt _ hf; omega)
                have h110 : w5.cell? ⟨wr.heap.size + 1, 0, none⟩ = some (.int .i64 6) := cell_of_block hb11 rfl
                have h111 : w5.cell? ⟨wr.heap.size + 1, 1, none⟩ = some (.int .i64 dA) := cell_of_block hb11 rfl
                have h112 : w5.cell? ⟨wr.heap.size + 1, 2, none⟩ = some (.int .i64 y) := cell_of_block hb11 rfl
                have HEST := Lib.hid est
                have HREL := Lib.hid hrel'
                clear hb11
                have HF1G := Lib.hid hF1G
                clear est hrel' hF1G hM1
                go_wp2_with fail
                refine (done_calls ht1 hWT (by omega) ⟨6, dA, y⟩ (by dsimp only; omega)).mono ?_
                rintro e w6 ⟨rfl, hM2⟩
                clear h110 h111 h112
                obtain ⟨G1, ht2, hs2, g2, hG1F⟩ := pair_step hs1 (fun b h1 h2 => HF1G.out b h2 h1) hM2
                rw [HEST.out]
                obtain ⟨S', hS'⟩ : ∃ S', (S.done ⟨6, dA, dB⟩).2 = S' := ⟨_, rfl⟩
                obtain ⟨T', hT'⟩ : ∃ T', (T.done ⟨6, dA, y⟩).2 = T' := ⟨_, rfl⟩
                obtain ⟨r1, hr1⟩ : ∃ r, (S.done ⟨6, dA, dB⟩).1.1 = r := ⟨_, rfl⟩
                obtain ⟨r2, hr2⟩ : ∃ r, (S.done ⟨6, dA, dB⟩).1.2 = r := ⟨_, rfl⟩
                have hrel' := HREL.out
                rw [hS', hT'] at hrel'
                rw [hS'] at hs1 hs2 hWS'
                rw [hT'] at ht2 hWT'
                rw [hr1, hr2]
                have d1 : (r1 != r1) = false := by simp
                have d2 : (r2 != r2) = false := by simp
                have HREL2 := Lib.hid hrel'
                have HWS := Lib.hid hWS'
                have HWT := Lib.hid hWT'
                have HG1F := Lib.hid hG1F
                have HP6 := Lib.hid (g2.chg.get (g1.chg.get (cA.get HPB.out (fun h => h)) HNP.out.1) HNP.out.2)
                have HQ6 := Lib.hid (g2.chg.get (g1.chg.get (cA.get HQB.out (fun h => h)) HNQ.out.1) HNQ.out.2)
                clear hS' hT' hr1 hr2 hM2 hG1F HREL HEST hWS' hWT' hrel'
                go_wp2_with fail
                refine (active_calls hs2).mono ?_
                rintro e w' ⟨rfl, rfl⟩
                go_wp2_with fail
                refine (active_calls ht2).mono ?_
                rintro e w' ⟨rfl, rfl⟩
                rw [HREL2.out.active]
                have d3 : (S'.active != S'.active) = false := by simp
                go_wp2
                go_loopw [25] (fun i wx => ∃ j : Nat, 1 ≤ j ∧ j ≤ 9 ∧ i = .int .i64 j ∧ Below w6.heap.size w6 wx) (fun i _ => 9 - (intOf i).toNat)
                case atStart => exact ⟨1, by omega, by omega, rfl, Below.refl _ _⟩
                case round =>
                  obtain ⟨j, hj1, hj2, rfl, hBx⟩ := hrel
                  by_cases hj8 : j ≤ 8
                  · have hj8' : (j : Int) ≤ 8 := by omega
                    have hsx := hs2.below hBx
                    have htx := ht2.below hBx
                    clear hj8
                    go_wp2_with fail
                    refine (ready_calls hsx HWS.out (by omega) j).mono ?_
                    rintro e w8 ⟨v1, rfl, f1, fb1, fo1⟩
                    have F1o := Lib.hid f1
                    clear f1 fo1
                    go_wp2_with fail
                    refine (ready_calls (htx.below fb1) HWT.out (by omega) j).mono ?_
                    rw [HREL2.out.readyOf]
                    rintro e w9 ⟨v2, rfl, f2, fb2, fo2⟩
                    have f1' : Sl w9 3 v1 (ints (S'.readyOf j)) := F1o.out.kept fun gx hgx => fb2.block gx (F1o.out.lt hgx)
                    have hlr : (S'.readyOf j).length < 100000 := by
                      unfold St.readyOf
                      split
                      · simp
                      · have := HWS.out.rl (j : Int).toNat; omega
                    have F1p := Lib.hid f1'
                    have F2p := Lib.hid f2
                    clear f1' f2 fo2
                    go_wp2_with fail
                    refine (ints_calls F1p.out F2p.out hlr).mono ?_
                    rintro e w' ⟨rfl, nq, rfl⟩
                    have d4 : (S'.readyOf j == S'.readyOf j) = true := by simp
                    rw [d4]
                    clear d4
                    go_wp2
                    go_roundw
                    case rel =>
                      refine ⟨j + 1, by omega, by omega, by go_num, ?_⟩
                      have b1 := hBx.trans (fb1.mono hBx.size)
                      have b2 := b1.trans (fb2.mono (Nat.le_trans hBx.size fb1.size))
                      exact ⟨b2.os, b2.tape, b2.output, b2.size, b2.block⟩
                    case measure => simp [intOf]; omega
                  · have hj8' : ¬ (j : Int) ≤ 8 := by omega
                    clear hj8
                    go_wp2
                    go_loopw [26] (fun i wy => ∃ j : Nat, 1 ≤ j ∧ j ≤ 5 ∧ i = .int .i64 j ∧ Below w6.heap.size w6 wy) (fun i _ => 5 - (intOf i).toNat)
                    case atStart => exact ⟨1, by omega, by omega, rfl, hBx⟩
                    case round =>
                      obtain ⟨j, hj1, hj2, rfl, hBx⟩ := hrel
                      by_cases hj8 : j ≤ 4
                      · have hj8' : (j : Int) ≤ 4 := by omega
                        have hsx := hs2.below hBx
                        have htx := ht2.below hBx
                        clear hj8
                        go_wp2_with fail
                        refine (waiting_calls hsx HWS.out (by omega) j).mono ?_
                        rintro e w8 ⟨v1, rfl, f1, fb1, fo1⟩
                        have F1o := Lib.hid f1
                        clear f1 fo1
                        have hB8 := hBx.trans (fb1.mono hBx.size)
                        have hp8 : w8.cell? ⟨pb, 0, none⟩ = some (.int .i64 p) := cell_of_block ((hB8.block _ (lt_of_block HP6.out)).trans HP6.out) rfl
                        have hq8 : w8.cell? ⟨pb + 1, 0, none⟩ = some (.int .i64 q) := cell_of_block ((hB8.block _ (lt_of_block HQ6.out)).trans HQ6.out) rfl
                        go_wp2_with fail
                        refine (other_calls _ _ _ p q j hp8 hq8).mono ?_
                        rintro e w' ⟨rfl, rfl⟩
                        clear hp8 hq8
                        go_wp2_with fail
                        refine (waiting_calls (htx.below fb1) HWT.out (by omega) (Sma.other p q j)).mono ?_
                        rw [HREL2.out.waiting]
                        rintro e w9 ⟨v2, rfl, f2, fb2, fo2⟩
                        have f1' : Sl w9 3 v1 (ints (S'.waiting j).1) := F1o.out.kept fun gx hgx => fb2.block gx (F1o.out.lt hgx)
                        have hlr : (S'.waiting j).1.length < 100000 := by
                          unfold St.waiting
                          split
                          · have := (HWS.out.semAt ((j : Int).toNat - 1)).1; omega
                          · simp
                        obtain ⟨x2, hx2⟩ : ∃ x, (S'.waiting j).2 = x := ⟨_, rfl⟩
                        rw [hx2]
                        have d6 : (x2 != x2) = false := by simp
                        have F1p := Lib.hid f1'
                        have F2p := Lib.hid f2
                        clear f1' f2 fo2 hx2
                        go_wp2_with fail
                        refine (ints_calls F1p.out F2p.out hlr).mono ?_
                        rintro e w' ⟨rfl, nq, rfl⟩
                        have d4 : ((S'.waiting j).1 == (S'.waiting j).1) = true := by simp
                        rw [d4]
                        clear d4
                        go_wp2
                        go_roundw
                        case rel =>
                          refine ⟨j + 1, by omega, by omega, by go_num, ?_⟩
                          have b1 := hBx.trans (fb1.mono hBx.size)
                          have b2 := b1.trans (fb2.mono (Nat.le_trans hBx.size fb1.size))
                          exact ⟨b2.os, b2.tape, b2.output, b2.size, b2.block⟩
                        case measure => simp [intOf]; omega
                      · have hj8' : ¬ (j : Int) ≤ 4 := by omega
                        clear hj8
                        go_wp2
                        go_roundw
                        case rel =>
                          refine ⟨k + 1, by omega, by go_num, ?_⟩
                          exact QInv.round cA hD3 hBr hsz HFB.out HGB.out HDA.out HX.out g1 hs1 g2 ht2 HG1F.out (fun b h1 h2 => HF1G.out b h2 h1) HREL2.out HWS.out HWT.out hBx
                        case measure => simp [intOf]; omega

              · have b5 : (dk == 5) = false := by simpa using e5
                have b6 : (dk == 6) = false := by simpa using e6
                have HO2 := Lib.hid (show Sma.two p q ⟨dk, dA, dB⟩ = ⟨dk, dA, dB⟩ by unfold Sma.two; rw [if_neg (by simp; omega)])
                clear e5 e6
                have cA : Chg (fun _ => False) wr ((wr.alloc (.cells #[.int .i64 dk, .int .i64 dA, .int .i64 dB] 36)).alloc (.cells #[.int .i64 dk, .int .i64 dA, .int .i64 dB] 36)) := ((Chg.refl _ _).alloc _).alloc _
                have htA := ht.chg cA (fun _ _ h => h)
                go_wp2_with fail
                refine (done_calls (hs.chg cA (fun _ _ h => h)) hWS (by omega) ⟨dk, dA, dB⟩ (by dsimp only; omega)).mono ?_
                rintro e w5 ⟨rfl, hM1⟩
                clear hk1 hk2 hk3
                obtain ⟨est, hrel'⟩ := HST.out
                rw [HO2.out] at est hrel'
                have hWS' := WF.done hWS ⟨dk, dA, dB⟩
                have hWT' := WF.done hWT ⟨dk, dA, dB⟩
                obtain ⟨F1, hs1, ht1, g1, hF1G⟩ := pair_step (htA) HFG.out hM1
                have hb11 : w5.heap[wr.heap.size + 1]? = some (.cells #[.int .i64 dk, .int .i64 dA, .int .i64 dB] 36 (0, 0)) := g1.chg.get (hself (by simp)) (fun hf => by have := hs.lt _ hf; omega)
                have h110 : w5.cell? ⟨wr.heap.size + 1, 0, none⟩ = some (.int .i64 dk) := cell_of_block hb11 rfl
                have h111 : w5.cell? ⟨wr.heap.size + 1, 1, none⟩ = some (.int .i64 dA) := cell_of_block hb11 rfl
                have h112 : w5.cell? ⟨wr.heap.size + 1, 2, none⟩ = some (.int .i64 dB) := cell_of_block hb11 rfl
                have HEST := Lib.hid est
                have HREL := Lib.hid hrel'
                clear hb11
                have HF1G := Lib.hid hF1G
                clear est hrel' hF1G hM1
                go_wp2_with fail
                refine (done_calls ht1 hWT (by omega) ⟨dk, dA, dB⟩ (by dsimp only; omega)).mono ?_
                rintro e w6 ⟨rfl, hM2⟩
                clear h110 h111 h112
                obtain ⟨G1, ht2, hs2, g2, hG1F⟩ := pair_step hs1 (fun b h1 h2 => HF1G.out b h2 h1) hM2
                rw [HEST.out]
                obtain ⟨S', hS'⟩ : ∃ S', (S.done ⟨dk, dA, dB⟩).2 = S' := ⟨_, rfl⟩
                obtain ⟨T', hT'⟩ : ∃ T', (T.done ⟨dk, dA, dB⟩).2 = T' := ⟨_, rfl⟩
                obtain ⟨r1, hr1⟩ : ∃ r, (S.done ⟨dk, dA, dB⟩).1.1 = r := ⟨_, rfl⟩
                obtain ⟨r2, hr2⟩ : ∃ r, (S.done ⟨dk, dA, dB⟩).1.2 = r := ⟨_, rfl⟩
                have hrel' := HREL.out
                rw [hS', hT'] at hrel'
                rw [hS'] at hs1 hs2 hWS'
                rw [hT'] at ht2 hWT'
                rw [hr1, hr2]
                have d1 : (r1 != r1) = false := by simp
                have d2 : (r2 != r2) = false := by simp
                have HREL2 := Lib.hid hrel'
                have HWS := Lib.hid hWS'
                have HWT := Lib.hid hWT'
                have HG1F := Lib.hid hG1F
                have HP6 := Lib.hid (g2.chg.get (g1.chg.get (cA.get HPB.out (fun h => h)) HNP.out.1) HNP.out.2)
                have HQ6 := Lib.hid (g2.chg.get (g1.chg.get (cA.get HQB.out (fun h => h)) HNQ.out.1) HNQ.out.2)
                clear hS' hT' hr1 hr2 hM2 hG1F HREL HEST hWS' hWT' hrel'
                go_wp2_with fail
                refine (active_calls hs2).mono ?_
                rintro e w' ⟨rfl, rfl⟩
                go_wp2_with fail
                refine (active_calls ht2).mono ?_
                rintro e w' ⟨rfl, rfl⟩
                rw [HREL2.out.active]
                have d3 : (S'.active != S'.active) = false := by simp
                go_wp2
                go_loopw [25] (fun i wx => ∃ j : Nat, 1 ≤ j ∧ j ≤ 9 ∧ i = .int .i64 j ∧ Below w6.heap.size w6 wx) (fun i _ => 9 - (intOf i).toNat)
                case atStart => exact ⟨1, by omega, by omega, rfl, Below.refl _ _⟩
                case round =>
                  obtain ⟨j, hj1, hj2, rfl, hBx⟩ := hrel
                  by_cases hj8 : j ≤ 8
                  · have hj8' : (j : Int) ≤ 8 := by omega
                    have hsx := hs2.below hBx
                    have htx := ht2.below hBx
                    clear hj8
                    go_wp2_with fail
                    refine (ready_calls hsx HWS.out (by omega) j).mono ?_
                    rintro e w8 ⟨v1, rfl, f1, fb1, fo1⟩
                    have F1o := Lib.hid f1
                    clear f1 fo1
                    go_wp2_with fail
                    refine (ready_calls (htx.below fb1) HWT.out (by omega) j).mono ?_
                    rw [HREL2.out.readyOf]
                    rintro e w9 ⟨v2, rfl, f2, fb2, fo2⟩
                    have f1' : Sl w9 3 v1 (ints (S'.readyOf j)) := F1o.out.kept fun gx hgx => fb2.block gx (F1o.out.lt hgx)
                    have hlr : (S'.readyOf j).length < 100000 := by
                      unfold St.readyOf
                      split
                      · simp
                      · have := HWS.out.rl (j : Int).toNat; omega
                    have F1p := Lib.hid f1'
                    have F2p := Lib.hid f2
                    clear f1' f2 fo2
                    go_wp2_with fail
                    refine (ints_calls F1p.out F2p.out hlr).mono ?_
                    rintro e w' ⟨rfl, nq, rfl⟩
                    have d4 : (S'.readyOf j == S'.readyOf j) = true := by simp
                    rw [d4]
                    clear d4
                    go_wp2
                    go_roundw
                    case rel =>
                      refine ⟨j + 1, by omega, by omega, by go_num, ?_⟩
                      have b1 := hBx.trans (fb1.mono hBx.size)
                      have b2 := b1.trans (fb2.mono (Nat.le_trans hBx.size fb1.size))
                      exact ⟨b2.os, b2.tape, b2.output, b2.size, b2.block⟩
                    case measure => simp [intOf]; omega
                  · have hj8' : ¬ (j : Int) ≤ 8 := by omega
                    clear hj8
                    go_wp2
                    go_loopw [26] (fun i wy => ∃ j : Nat, 1 ≤ j ∧ j ≤ 5 ∧ i = .int .i64 j ∧ Below w6.heap.size w6 wy) (fun i _ => 5 - (intOf i).toNat)
                    case atStart => exact ⟨1, by omega, by omega, rfl, hBx⟩
                    case round =>
                      obtain ⟨j, hj1, hj2, rfl, hBx⟩ := hrel
                      by_cases hj8 : j ≤ 4
                      · have hj8' : (j : Int) ≤ 4 := by omega
                        have hsx := hs2.below hBx
                        have htx := ht2.below hBx
                        clear hj8
                        go_wp2_with fail
                        refine (waiting_calls hsx HWS.out (by omega) j).mono ?_
                        rintro e w8 ⟨v1, rfl, f1, fb1, fo1⟩
                        have F1o := Lib.hid f1
                        clear f1 fo1
                        have hB8 := hBx.trans (fb1.mono hBx.size)
                        have hp8 : w8.cell? ⟨pb, 0, none⟩ = some (.int .i64 p) := cell_of_block ((hB8.block _ (lt_of_block HP6.out)).trans HP6.out) rfl
                        have hq8 : w8.cell? ⟨pb + 1, 0, none⟩ = some (.int .i64 q) := cell_of_block ((hB8.block _ (lt_of_block HQ6.out)).trans HQ6.out) rfl
                        go_wp2_with fail
                        refine (other_calls _ _ _ p q j hp8 hq8).mono ?_
                        rintro e w' ⟨rfl, rfl⟩
                        clear hp8 hq8
                        go_wp2_with fail
                        refine (waiting_calls (htx.below fb1) HWT.out (by omega) (Sma.other p q j)).mono ?_
                        rw [HREL2.out.waiting]
                        rintro e w9 ⟨v2, rfl, f2, fb2, fo2⟩
                        have f1' : Sl w9 3 v1 (ints (S'.waiting j).1) := F1o.out.kept fun gx hgx => fb2.block gx (F1o.out.lt hgx)
                        have hlr : (S'.waiting j).1.length < 100000 := by
                          unfold St.waiting
                          split
                          · have := (HWS.out.semAt ((j : Int).toNat - 1)).1; omega
                          · simp
                        obtain ⟨x2, hx2⟩ : ∃ x, (S'.waiting j).2 = x := ⟨_, rfl⟩
                        rw [hx2]
                        have d6 : (x2 != x2) = false := by simp
                        have F1p := Lib.hid f1'
                        have F2p := Lib.hid f2
                        clear f1' f2 fo2 hx2
                        go_wp2_with fail
                        refine (ints_calls F1p.out F2p.out hlr).mono ?_
                        rintro e w' ⟨rfl, nq, rfl⟩
                        have d4 : ((S'.waiting j).1 == (S'.waiting j).1) = true := by simp
                        rw [d4]
                        clear d4
                        go_wp2
                        go_roundw
                        case rel =>
                          refine ⟨j + 1, by omega, by omega, by go_num, ?_⟩
                          have b1 := hBx.trans (fb1.mono hBx.size)
                          have b2 := b1.trans (fb2.mono (Nat.le_trans hBx.size fb1.size))
                          exact ⟨b2.os, b2.tape, b2.output, b2.size, b2.block⟩
                        case measure => simp [intOf]; omega
                      · have hj8' : ¬ (j : Int) ≤ 4 := by omega
                        clear hj8
                        go_wp2
                        go_roundw
                        case rel =>
                          refine ⟨k + 1, by omega, by go_num, ?_⟩
                          exact QInv.round cA hD3 hBr hsz HFB.out HGB.out HDA.out HX.out g1 hs1 g2 ht2 HG1F.out (fun b h1 h2 => HF1G.out b h2 h1) HREL2.out HWS.out HWT.out hBx
                        case measure => simp [intOf]; omega

        · obtain ⟨S, T, F, G, hs, ht, hrel, hWS, hWT, hFG, hFb, hGb, hda, hD3, hBr, hsz, hX⟩ := hinv
          have hge : ¬ (k : Int) < (D.length : Nat) := by omega
          clear hlt hFG hFb hGb hda hX
          go_wp2
          go_ret
          exact ⟨rfl, hBr⟩
end Go.Proofs.YtlfbommppenlcaaGreatDoor
