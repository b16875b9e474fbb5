/- TopPriors answers true: the walk. Conditions: the raw numbers lie in memory. -/
import Derived.Test.YtlfbommppenlcaaGreatDoorT3
import Derived.Test.YtlfbommppenlcaaGreatDoorK1
namespace Go.Proofs.YtlfbommppenlcaaGreatDoor
open Go.RowKit Go.Mem

theorem raised_calls (w : World) (p at_ : Int) (h : p < 1000) (h2 : -1000 < p) : Calls Tryz.prog 21 #[.int .i64 p, .int .i64 at_] w fun e w' => e = .returned (.int .i64 (Pri.raise at_ p)) ∧ w = w' := by
  unfold Pri.raise
  by_cases hc : p > at_
  · rw [if_pos hc]
    go_enter Tryz.func21, Tryz.ntmps21
    go_wp2
    go_ret
    exact ⟨rfl, rfl⟩
  · rw [if_neg hc]
    go_enter Tryz.func21, Tryz.ntmps21
    go_wp2
    go_ret
    exact ⟨rfl, rfl⟩

/-- Deeds that lie in memory. -/
structure DeedsAt (w : World) (base : Nat) (a : Option Addr) (cap : Nat) (D : List Deed) : Prop where
  own : w.ownsRow base 36 3 (.slice a D.length cap) D.length (dcells D)
  ok : ∀ d ∈ D, d.ok
theorem DeedsPost.out {w w' : World} {e : Ending} (h : DeedsPost w e w') : ∃ a cap D, e = .returned (.slice a (D : List Deed).length cap) ∧ D.length ≤ 150 ∧ DeedsAt w' w.heap.size a cap D ∧ Below w.heap.size w w' := by
  obtain ⟨v, D, rfl, h1, h2, h3, h4⟩ := h
  rcases h3.2 with ⟨rfl, hn⟩ | ⟨g, cap, cur, rfl, _⟩
  · refine ⟨none, 0, D, by rw [hn], h1, ⟨?_, h2⟩, h4⟩
    rw [hn] at h3 ⊢; exact h3
  · exact ⟨some ⟨g, 0, none⟩, cap, D, rfl, h1, ⟨h3, h2⟩, h4⟩
theorem DeedsAt.kept {w w' : World} {base : Nat} {a : Option Addr} {cap : Nat} {D : List Deed} (h : DeedsAt w base a cap D) {F : Nat → Prop} (hc : Chg F w w') (hF : ∀ g, F g → ∀ x, a = some x → x.block ≠ g) : DeedsAt w' base a cap D :=
  ⟨own_chg h.own hc (fun g hg hf => by
    rcases h.own.2 with ⟨e, _⟩ | ⟨g', cap', cur, e, _⟩
    · rw [e] at hg; simp [Value.ownBlock] at hg
    · rw [e] at hg
      simp only [Value.ownBlock, Option.some.injEq] at hg
      simp only [Value.slice.injEq] at e
      exact hF g hf _ e.1 hg), h.ok⟩
theorem dcells_at (D : List Deed) (k : Nat) (hk : k < D.length) (j : Nat) (hj : j < 3) : (dcells D)[k * 3 + j]? = [Value.int .i64 D[k].kind, .int .i64 D[k].a, .int .i64 D[k].b][j]? := by
  induction D generalizing k with
  | nil => simp at hk
  | cons d D ih =>
    cases k with
    | zero =>
      simp only [dcells, List.flatMap_cons, Nat.zero_mul, Nat.zero_add, List.getElem_cons_zero]
      rw [List.getElem?_append_left (by simpa using hj)]
    | succ k =>
      have := ih k (by simpa using hk)
      simp only [dcells, List.flatMap_cons] at this ⊢
      rw [List.getElem?_append_right (by simp; omega)]
      simp only [List.getElem_cons_succ]
      rw [← this]
      congr 1
      simp; omega
theorem DeedsAt.cells {w : World} {base : Nat} {a : Option Addr} {cap : Nat} {D : List Deed} (h : DeedsAt w base a cap D) {k : Nat} (hk : k < D.length) :
    ∃ g, a = some ⟨g, 0, none⟩ ∧ base ≤ g ∧ w.cell? ⟨g, k * 3, none⟩ = some (.int .i64 D[k].kind) ∧ w.cell? ⟨g, k * 3 + 1, none⟩ = some (.int .i64 D[k].a) ∧ w.cell? ⟨g, k * 3 + 2, none⟩ = some (.int .i64 D[k].b) := by
  rcases h.own.2 with ⟨e, hn⟩ | ⟨g, cap', cur, e, hb, hg, h1, h2, h3, h4⟩
  · omega
  · simp only [Value.slice.injEq] at e
    refine ⟨g, e.1, hb, ?_, ?_, ?_⟩
    all_goals
      refine cell_of_block hg ?_
    · have := dcells_at D k hk 0 (by omega)
      rw [← h4, List.getElem?_take, if_pos (by omega)] at this
      simpa using this
    · have := dcells_at D k hk 1 (by omega)
      rw [← h4, List.getElem?_take, if_pos (by omega)] at this
      simpa using this
    · have := dcells_at D k hk 2 (by omega)
      rw [← h4, List.getElem?_take, if_pos (by omega)] at this
      simpa using this

/-- One of two schedulers goes on; the other one stays. -/
theorem pair_step {wA w5 : World} {sb tb : Nat} {F G : Nat → Prop} {S' T : St} (ht : SchAt wA tb G T) (hFG : ∀ b, F b → ¬ G b) (m : Makes wA sb F S' w5) :
    ∃ F1, SchAt w5 sb F1 S' ∧ SchAt w5 tb G T ∧ Goes F F1 wA w5 ∧ (∀ b, F1 b → ¬ G b) := by
  obtain ⟨F1, h1, g1⟩ := m
  refine ⟨F1, h1, ht.chg g1.chg (fun b hb hf => hFG b hf hb), g1, fun b hf hg => ?_⟩
  rcases g1.new b hf with h | h
  · exact hFG b h hg
  · have := ht.lt b hg; omega

def PInv (R : St → St → Prop) (B sb tb : Nat) (w0 : World) (base : Nat) (a : Option Addr) (cap : Nat) (D : List Deed) (k : Nat) (wr : World) : Prop :=
  ∃ S T F G, SchAt wr sb F S ∧ SchAt wr tb G T ∧ R S T ∧ S.WF (4 * k) ∧ T.WF (4 * k) ∧ (∀ b, F b → ¬ G b) ∧ (∀ b, F b → B ≤ b) ∧ (∀ b, G b → B ≤ b) ∧
    (∀ x, a = some x → ¬ F x.block ∧ ¬ G x.block) ∧ DeedsAt wr base a cap D ∧ Below B w0 wr ∧ B ≤ wr.heap.size

/-- Behind a round. -/
theorem PInv.round {R : St → St → Prop} {B sb tb : Nat} {w0 : World} {base : Nat} {a : Option Addr} {cap : Nat} {D : List Deed} {k : Nat} {wr wA w5 w6 w7 : World} {S' T' : St} {F G F1 G1 : Nat → Prop}
    (cA : Chg (fun _ => False) wr wA) (hD : DeedsAt wr base a cap D) (hB : Below B w0 wr) (hsz : B ≤ wr.heap.size) (hF : ∀ b, F b → B ≤ b) (hG : ∀ b, G b → B ≤ b) (ha : ∀ x, a = some x → ¬ F x.block ∧ ¬ G x.block)
    (g1 : Goes F F1 wA w5) (hS : SchAt w5 sb F1 S') (g2 : Goes G G1 w5 w6) (hT : SchAt w6 tb G1 T') (hFG : ∀ b, G1 b → ¬ F1 b) (hFG0 : ∀ b, G b → ¬ F1 b) (hR : R S' T') (hW : S'.WF (4 * k + 4)) (hW2 : T'.WF (4 * k + 4)) (c7 : Below w6.heap.size w6 w7) :
    PInv R B sb tb w0 base a cap D (k + 1) w7 := by
  have c7' : Chg (fun _ => False) w6 w7 := Chg.of_below' c7
  have hw6 : SchAt w6 sb F1 S' := hS.chg g2.chg (fun b hb hg => hFG0 b hg hb)
  have e4 : 4 * (k + 1) = 4 * k + 4 := by omega
  refine ⟨S', T', F1, G1, hw6.chg c7' (fun _ _ h => h), hT.chg c7' (fun _ _ h => h), hR, by rw [e4]; exact hW, by rw [e4]; exact hW2, fun b h1 h2 => hFG b h2 h1, fun b hb => ?_, fun b hb => ?_, fun x hx => ?_, ?_, ?_, ?_⟩
  · have := cA.size
    rcases g1.new b hb with h | h
    · exact hF b h
    · omega
  · have := cA.size; have := g1.chg.size
    rcases g2.new b hb with h | h
    · exact hG b h
    · omega
  · have hlt : x.block < wr.heap.size := by
      rcases hD.own.2 with ⟨e, _⟩ | ⟨g, cap', cur, e, _, hg, _⟩
      · simp only [Value.slice.injEq] at e; rw [hx] at e; cases e.1
      · simp only [Value.slice.injEq] at e; rw [hx] at e
        have := Option.some.inj e.1
        rw [this]; exact lt_of_block hg
    have := cA.size; have := g1.chg.size
    refine ⟨fun h => ?_, fun h => ?_⟩
    · rcases g1.new _ h with h | h
      · exact (ha x hx).1 h
      · omega
    · rcases g2.new _ h with h | h
      · exact (ha x hx).2 h
      · omega
  · have h1 := hD.kept cA (fun _ h => h.elim)
    have h2 := h1.kept g1.chg (fun g hg x hx e => (ha x hx).1 (by rw [e]; exact hg))
    have h3 := h2.kept g2.chg (fun g hg x hx e => (ha x hx).2 (by rw [e]; exact hg))
    exact h3.kept c7' (fun _ h => h.elim)
  · have b1 := cA.below hsz (fun _ _ h => h)
    have z1 := cA.size
    have b2 := g1.chg.below (B := B) (by omega) (fun b hb hf => by have := hF b hf; omega)
    have z2 := g1.chg.size
    have b3 := g2.chg.below (B := B) (by omega) (fun b hb hf => by have := hG b hf; omega)
    have z3 := g2.chg.size
    exact (((hB.trans b1).trans b2).trans b3).trans (c7.mono (by omega))
  · have := cA.size; have := g1.chg.size; have := g2.chg.size; have := c7.size; omega

theorem SchAt.below {w w' : World} {sb : Nat} {F : Nat → Prop} {S : St} (h : SchAt w sb F S) (hB : Below w.heap.size w w') : SchAt w' sb F S := h.kept fun b hb => hB.block b (h.lt b hb)

set_option maxRecDepth 100000 in
set_option maxHeartbeats 4000000 in
theorem priors_calls {w : World} {a : Option Addr} {cap : Nat} {l : List Int} (n : Int) (hn : 0 ≤ n) (hn2 : n ≤ 255) (hR : Raw w a l) (hab : 0 < l.length → ∀ x, a = some x → x.block < w.heap.size) :
    Calls Tryz.prog 4 #[.slice a l.length cap, .int .u8 n] w fun e w' => e = .returned (.bool true) ∧ Below w.heap.size w w' := by
  have HR := Lib.hid hR
  have HAB := Lib.hid hab
  clear hR hab
  go_enter Tryz.func4, Tryz.ntmps4
  go_wp2_with fail
  refine (known_calls _).mono ?_
  rintro e w1 ⟨rfl, hB1⟩
  go_wp2_with fail
  refine (new_calls _).mono ?_
  rintro e w2 ⟨F, rfl, hA2, hG2⟩
  go_wp2_with fail
  refine (new_calls _).mono ?_
  rintro e w3 ⟨G, rfl, hA3, hG3⟩
  go_wp2_with fail
  have hB3 : Below w.heap.size w w3 := (hB1.trans (hG2.chg.below hB1.size (fun _ _ h => h))).trans (hG3.chg.below (Nat.le_trans hB1.size hG2.chg.size) (fun _ _ h => h))
  have hR3 : Raw w3 a l := ⟨fun i hi => by
    obtain ⟨b, off, e, hc⟩ := HR.out.at_ i hi
    exact ⟨b, off, e, (hB3.cell (p := ⟨b, off + i, none⟩) (by have := HAB.out (by omega) _ e; exact this)).trans hc⟩, HR.out.lo, HR.out.len⟩
  refine (deeds_calls hR3 (fun hl x hx => Nat.lt_of_lt_of_le (HAB.out hl x hx) hB3.size)).mono ?_
  intro e w4 hD
  obtain ⟨da, dcap, D, rfl, hD1, hD2, hB4⟩ := hD.out
  obtain ⟨c, hc⟩ : ∃ c : Nat, (c : Int) = 1 + n % 7 := ⟨(1 + n % 7).toNat, by omega⟩
  have hc1 : 1 ≤ c := by omega
  have hc2 : c ≤ 7 := by omega
  have HC := Lib.hid hc
  clear hc
  have hs4 := (hA2.chg hG3.chg (fun _ _ h => h)).below hB4
  have ht4 := hA3.below hB4
  have hinv : PInv (Pri.Rel c) w.heap.size w1.heap.size w2.heap.size w w3.heap.size da dcap D 0 w4 := by
    refine ⟨St.new, St.new, F, G, hs4, ht4, Pri.Rel.new hc1 hc2, St.WF.new, St.WF.new, fun b h1 h2 => ?_, fun b hb => ?_, fun b hb => ?_, fun x hx => ?_, hD2, hB3.trans (hB4.mono hB3.size), Nat.le_trans hB3.size hB4.size⟩
    · have := hA2.lt b h1
      rcases hG3.new b h2 with h | h
      · exact h
      · omega
    · rcases hG2.new b hb with h | h
      · exact h.elim
      · exact Nat.le_trans hB1.size h
    · rcases hG3.new b hb with h | h
      · exact h.elim
      · exact Nat.le_trans hB1.size (Nat.le_trans hG2.chg.size h)
    · have hge : w3.heap.size ≤ x.block := by
        rcases hD2.own.2 with ⟨e, _⟩ | ⟨g, cap', cur, e, hb, _⟩
        · simp only [Value.slice.injEq] at e; rw [hx] at e; cases e.1
        · simp only [Value.slice.injEq] at e; rw [hx] at e
          have := Option.some.inj e.1
          rw [this]; exact hb
      refine ⟨fun h => ?_, fun h => ?_⟩
      · have := hA2.lt _ h; have := hG3.chg.size; omega
      · have := hA3.lt _ h; omega
  have HI := Lib.hid hinv
  clear hinv hs4 ht4 hA2 hA3 hG2 hG3 hB1 hB3 hB4 hD hD2 hR3
  go_wp2
  rw [← HC.out]
  go_loopw [38] (fun i wr => ∃ k : Nat, k ≤ D.length ∧ i = .int .i64 k ∧ PInv (Pri.Rel c) w.heap.size w1.heap.size w2.heap.size w w3.heap.size da dcap D k wr) (fun i _ => D.length - (intOf i).toNat)
  case atStart => exact ⟨0, Nat.zero_le _, rfl, HI.out⟩
  case round =>
    obtain ⟨k, hk, rfl, hinv⟩ := hrel
    by_cases hlt : k < D.length
    · obtain ⟨S, T, F, G, hs, ht, hrel, hWS, hWT, hFG, hFb, hGb, hda, hD3, hBr, hsz⟩ := hinv
      obtain ⟨g, hdg, hgb, hk1, hk2, hk3⟩ := hD3.cells hlt
      obtain ⟨q1, q2, q3, q4, q5, q6⟩ := hD3.ok D[k] (List.getElem_mem hlt)
      have hlt' : (k : Int) < (D.length : Nat) := by omega
      obtain ⟨dk, dA, dB, hdd⟩ : ∃ x y z, D[k] = ⟨x, y, z⟩ := ⟨_, _, _, rfl⟩
      rw [hdd] at hk1 hk2 hk3 q1 q2 q3 q4 q5 q6
      dsimp only at hk1 hk2 hk3 q1 q2 q3 q4 q5 q6
      have hstep := hrel.done hWS ⟨dk, dA, dB⟩ q3
      have HST := Lib.hid hstep
      have HFG := Lib.hid hFG
      have HFB := Lib.hid hFb
      have HGB := Lib.hid hGb
      have HDA := Lib.hid hda
      have HDD := Lib.hid hdd
      clear hdd hstep hFG hFb hGb hda
      subst hdg
      by_cases hcase : dk = 0 ∧ dA > 0
      · obtain ⟨rfl, hpos⟩ := hcase
        have HO1 := Lib.hid (show Pri.one ⟨0, dA, dB⟩ = ⟨0, 1 + dA % 7, dB⟩ by unfold Pri.one; rw [if_pos ⟨rfl, hpos⟩])
        have HO2 := Lib.hid (show Pri.two c ⟨0, dA, dB⟩ = ⟨0, Pri.raise c (1 + dA % 7), dB⟩ by unfold Pri.two; rw [if_pos ⟨rfl, hpos⟩])
        go_wp2_with fail
        refine (raised_calls _ (1 + dA % 7) c (by omega) (by omega)).mono ?_
        rintro e w' ⟨rfl, rfl⟩
        obtain ⟨y, hy⟩ : ∃ y, Pri.raise c (1 + dA % 7) = y := ⟨_, rfl⟩
        rw [hy]
        rw [hy] at HO2
        clear hy
        go_wp2_with fail
        have cA : Chg (fun _ => False) wr ((wr.alloc (.cells #[.int .i64 0, .int .i64 (1 + dA % 7), .int .i64 dB] 36)).alloc (.cells #[.int .i64 0, .int .i64 y, .int .i64 dB] 36)) := ((Chg.refl _ _).alloc _).alloc _
        have htA := ht.chg cA (fun _ _ h => h)
        refine (done_calls (hs.chg cA (fun _ _ h => h)) hWS (by omega) ⟨0, 1 + dA % 7, dB⟩ (by dsimp only; omega)).mono ?_
        rintro e w5 ⟨rfl, hM1⟩
        clear hk1 hk2 hk3

        obtain ⟨est, hrel'⟩ := HST.out
        rw [HO1.out, HO2.out] at est hrel'
        have hWS' := WF.done hWS ⟨0, 1 + dA % 7, dB⟩
        have hWT' := WF.done hWT ⟨0, y, dB⟩
        obtain ⟨F1, hs1, ht1, g1, hF1G⟩ := pair_step (htA) HFG.out hM1
        have hb11 : w5.heap[wr.heap.size + 1]? = some (.cells #[.int .i64 0, .int .i64 y, .int .i64 dB] 36 (0, 0)) := g1.chg.get (hself (by simp)) (fun hf => by have := hs.lt _ hf; omega)
        have h110 : w5.cell? ⟨wr.heap.size + 1, 0, none⟩ = some (.int .i64 0) := cell_of_block hb11 rfl
        have h111 : w5.cell? ⟨wr.heap.size + 1, 1, none⟩ = some (.int .i64 y) := cell_of_block hb11 rfl
        have h112 : w5.cell? ⟨wr.heap.size + 1, 2, none⟩ = some (.int .i64 dB) := cell_of_block hb11 rfl
        have HEST := Lib.hid est
        have HREL := Lib.hid hrel'
        clear hb11
        have HF1G := Lib.hid hF1G
        clear est hrel' hF1G hM1
        go_wp2_with fail
        refine (done_calls ht1 hWT (by omega) ⟨0, y, dB⟩ (by dsimp only; omega)).mono ?_
        rintro e w6 ⟨rfl, hM2⟩
        clear h110 h111 h112
        obtain ⟨G1, ht2, hs2, g2, hG1F⟩ := pair_step hs1 (fun b h1 h2 => HF1G.out b h2 h1) hM2
        rw [HEST.out]
        obtain ⟨S', hS'⟩ : ∃ S', (S.done ⟨0, 1 + dA % 7, dB⟩).2 = S' := ⟨_, rfl⟩
        obtain ⟨T', hT'⟩ : ∃ T', (T.done ⟨0, y, dB⟩).2 = T' := ⟨_, rfl⟩
        obtain ⟨r1, hr1⟩ : ∃ r, (S.done ⟨0, 1 + dA % 7, dB⟩).1.1 = r := ⟨_, rfl⟩
        obtain ⟨r2, hr2⟩ : ∃ r, (S.done ⟨0, 1 + dA % 7, dB⟩).1.2 = r := ⟨_, rfl⟩
        have hrel' := HREL.out
        rw [hS', hT'] at hrel'
        rw [hS'] at hs1 hs2 hWS'
        rw [hT'] at ht2 hWT'
        rw [hr1, hr2]
        have d1 : (r1 != r1) = false := by simp
        have d2 : (r2 != r2) = false := by simp
        have HREL2 := Lib.hid hrel'
        have HWS := Lib.hid hWS'
        have HWT := Lib.hid hWT'
        have HG1F := Lib.hid hG1F
        clear hS' hT' hr1 hr2 hM2 hG1F HREL HEST hWS' hWT' hrel'
        go_wp2_with fail
        refine (active_calls hs2).mono ?_
        rintro e w' ⟨rfl, rfl⟩
        go_wp2_with fail
        refine (active_calls ht2).mono ?_
        rintro e w' ⟨rfl, rfl⟩
        rw [HREL2.out.active]
        have d3 : (S'.active != S'.active) = false := by simp
        go_wp2
        go_loopw [16] (fun i wx => ∃ j : Nat, 1 ≤ j ∧ j ≤ 8 ∧ i = .int .i64 j ∧ Below w6.heap.size w6 wx) (fun i _ => 8 - (intOf i).toNat)
        case atStart => exact ⟨1, by omega, by omega, rfl, Below.refl _ _⟩
        case round =>
          obtain ⟨j, hj1, hj2, rfl, hBx⟩ := hrel
          by_cases hj8 : j ≤ 7
          · have hj8' : (j : Int) ≤ 7 := by omega
            have hj1' : (1 : Int) ≤ j := by omega
            have hsx := hs2.below hBx
            have htx := ht2.below hBx
            clear hj8
            go_wp2_with fail
            refine (ready_calls hsx HWS.out (by omega) j).mono ?_
            rintro e w8 ⟨v1, rfl, f1, fb1, fo1⟩
            have F1o := Lib.hid f1
            clear f1 fo1
            go_wp2_with fail
            refine (raised_calls _ j c (by omega) (by omega)).mono ?_
            rintro e w' ⟨rfl, rfl⟩
            go_wp2_with fail
            refine (ready_calls (htx.below fb1) HWT.out (by omega) (Pri.raise c j)).mono ?_
            rw [HREL2.out.readyOf hj1' hj8']
            rintro e w9 ⟨v2, rfl, f2, fb2, fo2⟩
            have f1' : Sl w9 3 v1 (ints (S'.readyOf j)) := F1o.out.kept fun gx hgx => fb2.block gx (F1o.out.lt hgx)
            have hlr : (S'.readyOf j).length < 100000 := by
              unfold St.readyOf
              split
              · simp
              · have := HWS.out.rl (j : Int).toNat; omega
            have F1p := Lib.hid f1'
            have F2p := Lib.hid f2
            clear f1' f2 fo2
            go_wp2_with fail
            refine (ints_calls F1p.out F2p.out hlr).mono ?_
            rintro e w' ⟨rfl, nq, rfl⟩
            have d4 : (S'.readyOf j == S'.readyOf j) = true := by simp
            rw [d4]
            clear d4
            go_wp2
            go_roundw
            case rel =>
              refine ⟨j + 1, by omega, by omega, by go_num, ?_⟩
              have b1 := hBx.trans (fb1.mono hBx.size)
              have b2 := b1.trans (fb2.mono (Nat.le_trans hBx.size fb1.size))
              exact ⟨b2.os, b2.tape, b2.output, b2.size, b2.block⟩
            case measure => simp [intOf]; omega
          · have hj8' : ¬ (j : Int) ≤ 7 := by omega
            clear hj8
            go_wp2
            go_loopw [17] (fun i wy => ∃ j : Nat, 1 ≤ j ∧ j ≤ 7 ∧ i = .int .i64 j ∧ Below w6.heap.size w6 wy) (fun i _ => 7 - (intOf i).toNat)
            case atStart => exact ⟨1, by omega, by omega, rfl, hBx⟩
            case round =>
              obtain ⟨j, hj1, hj2, rfl, hBx⟩ := hrel
              by_cases hj8 : j ≤ 6
              · have hj8' : (j : Int) ≤ 6 := by omega
                have hsx := hs2.below hBx
                have htx := ht2.below hBx
                clear hj8
                go_wp2_with fail
                refine (waiting_calls hsx HWS.out (by omega) j).mono ?_
                rintro e w8 ⟨v1, rfl, f1, fb1, fo1⟩
                have F1o := Lib.hid f1
                clear f1 fo1
                go_wp2_with fail
                refine (waiting_calls (htx.below fb1) HWT.out (by omega) j).mono ?_
                rw [HREL2.out.waiting]
                rintro e w9 ⟨v2, rfl, f2, fb2, fo2⟩
                have f1' : Sl w9 3 v1 (ints (S'.waiting j).1) := F1o.out.kept fun gx hgx => fb2.block gx (F1o.out.lt hgx)
                have hlr : (S'.waiting j).1.length < 100000 := by
                  unfold St.waiting
                  split
                  · have := (HWS.out.semAt ((j : Int).toNat - 1)).1; omega
                  · simp
                obtain ⟨x2, hx2⟩ : ∃ x, (S'.waiting j).2 = x := ⟨_, rfl⟩
                rw [hx2]
                have d6 : (x2 != x2) = false := by simp
                have F1p := Lib.hid f1'
                have F2p := Lib.hid f2
                clear f1' f2 fo2 hx2
                go_wp2_with fail
                refine (ints_calls F1p.out F2p.out hlr).mono ?_
                rintro e w' ⟨rfl, nq, rfl⟩
                have d4 : ((S'.waiting j).1 == (S'.waiting j).1) = true := by simp
                rw [d4]
                clear d4
                go_wp2
                go_roundw
                case rel =>
                  refine ⟨j + 1, by omega, by omega, by go_num, ?_⟩
                  have b1 := hBx.trans (fb1.mono hBx.size)
                  have b2 := b1.trans (fb2.mono (Nat.le_trans hBx.size fb1.size))
                  exact ⟨b2.os, b2.tape, b2.output, b2.size, b2.block⟩
                case measure => simp [intOf]; omega
              · have hj8' : ¬ (j : Int) ≤ 6 := by omega
                clear hj8
                go_wp2
                go_roundw
                case rel =>
                  refine ⟨k + 1, by omega, by go_num, ?_⟩
                  exact PInv.round cA hD3 hBr hsz HFB.out HGB.out HDA.out g1 hs1 g2 ht2 HG1F.out (fun b h1 h2 => HF1G.out b h2 h1) HREL2.out HWS.out HWT.out hBx
                case measure => simp [intOf]; omega
      · have HO1 := Lib.hid (show Pri.one ⟨dk, dA, dB⟩ = ⟨dk, dA, dB⟩ by unfold Pri.one; rw [if_neg hcase])
        have HO2 := Lib.hid (show Pri.two c ⟨dk, dA, dB⟩ = ⟨dk, dA, dB⟩ by unfold Pri.two; rw [if_neg hcase])
        have cA : Chg (fun _ => False) wr ((wr.alloc (.cells #[.int .i64 dk, .int .i64 dA, .int .i64 dB] 36)).alloc (.cells #[.int .i64 dk, .int .i64 dA, .int .i64 dB] 36)) := ((Chg.refl _ _).alloc _).alloc _
        have htA := ht.chg cA (fun _ _ h => h)
        by_cases hk0 : dk = 0
        · have hA0 : dA = 0 := by omega
          subst hk0 hA0
          clear hcase
          go_wp2_with fail
          refine (done_calls (hs.chg cA (fun _ _ h => h)) hWS (by omega) ⟨0, 0, dB⟩ (by dsimp only; omega)).mono ?_
          rintro e w5 ⟨rfl, hM1⟩
          clear hk1 hk2 hk3
          obtain ⟨est, hrel'⟩ := HST.out
          rw [HO1.out, HO2.out] at est hrel'
          have hWS' := WF.done hWS ⟨0, 0, dB⟩
          have hWT' := WF.done hWT ⟨0, 0, dB⟩
          obtain ⟨F1, hs1, ht1, g1, hF1G⟩ := pair_step (htA) HFG.out hM1
          have hb11 : w5.heap[wr.heap.size + 1]? = some (.cells #[.int .i64 0, .int .i64 0, .int .i64 dB] 36 (0, 0)) := g1.chg.get (hself (by simp)) (fun hf => by have := hs.lt _ hf; omega)
          have h110 : w5.cell? ⟨wr.heap.size + 1, 0, none⟩ = some (.int .i64 0) := cell_of_block hb11 rfl
          have h111 : w5.cell? ⟨wr.heap.size + 1, 1, none⟩ = some (.int .i64 0) := cell_of_block hb11 rfl
          have h112 : w5.cell? ⟨wr.heap.size + 1, 2, none⟩ = some (.int .i64 dB) := cell_of_block hb11 rfl
          have HEST := Lib.hid est
          have HREL := Lib.hid hrel'
          clear hb11
          have HF1G := Lib.hid hF1G
          clear est hrel' hF1G hM1
          go_wp2_with fail
          refine (done_calls ht1 hWT (by omega) ⟨0, 0, dB⟩ (by dsimp only; omega)).mono ?_
          rintro e w6 ⟨rfl, hM2⟩
          clear h110 h111 h112
          obtain ⟨G1, ht2, hs2, g2, hG1F⟩ := pair_step hs1 (fun b h1 h2 => HF1G.out b h2 h1) hM2
          rw [HEST.out]
          obtain ⟨S', hS'⟩ : ∃ S', (S.done ⟨0, 0, dB⟩).2 = S' := ⟨_, rfl⟩
          obtain ⟨T', hT'⟩ : ∃ T', (T.done ⟨0, 0, dB⟩).2 = T' := ⟨_, rfl⟩
          obtain ⟨r1, hr1⟩ : ∃ r, (S.done ⟨0, 0, dB⟩).1.1 = r := ⟨_, rfl⟩
          obtain ⟨r2, hr2⟩ : ∃ r, (S.done ⟨0, 0, dB⟩).1.2 = r := ⟨_, rfl⟩
          have hrel' := HREL.out
          rw [hS', hT'] at hrel'
          rw [hS'] at hs1 hs2 hWS'
          rw [hT'] at ht2 hWT'
          rw [hr1, hr2]
          have d1 : (r1 != r1) = false := by simp
          have d2 : (r2 != r2) = false := by simp
          have HREL2 := Lib.hid hrel'
          have HWS := Lib.hid hWS'
          have HWT := Lib.hid hWT'
          have HG1F := Lib.hid hG1F
          clear hS' hT' hr1 hr2 hM2 hG1F HREL HEST hWS' hWT' hrel'
          go_wp2_with fail
          refine (active_calls hs2).mono ?_
          rintro e w' ⟨rfl, rfl⟩
          go_wp2_with fail
          refine (active_calls ht2).mono ?_
          rintro e w' ⟨rfl, rfl⟩
          rw [HREL2.out.active]
          have d3 : (S'.active != S'.active) = false := by simp
          go_wp2
          go_loopw [16] (fun i wx => ∃ j : Nat, 1 ≤ j ∧ j ≤ 8 ∧ i = .int .i64 j ∧ Below w6.heap.size w6 wx) (fun i _ => 8 - (intOf i).toNat)
          case atStart => exact ⟨1, by omega, by omega, rfl, Below.refl _ _⟩
          case round =>
            obtain ⟨j, hj1, hj2, rfl, hBx⟩ := hrel
            by_cases hj8 : j ≤ 7
            · have hj8' : (j : Int) ≤ 7 := by omega
              have hj1' : (1 : Int) ≤ j := by omega
              have hsx := hs2.below hBx
              have htx := ht2.below hBx
              clear hj8
              go_wp2_with fail
              refine (ready_calls hsx HWS.out (by omega) j).mono ?_
              rintro e w8 ⟨v1, rfl, f1, fb1, fo1⟩
              have F1o := Lib.hid f1
              clear f1 fo1
              go_wp2_with fail
              refine (raised_calls _ j c (by omega) (by omega)).mono ?_
              rintro e w' ⟨rfl, rfl⟩
              go_wp2_with fail
              refine (ready_calls (htx.below fb1) HWT.out (by omega) (Pri.raise c j)).mono ?_
              rw [HREL2.out.readyOf hj1' hj8']
              rintro e w9 ⟨v2, rfl, f2, fb2, fo2⟩
              have f1' : Sl w9 3 v1 (ints (S'.readyOf j)) := F1o.out.kept fun gx hgx => fb2.block gx (F1o.out.lt hgx)
              have hlr : (S'.readyOf j).length < 100000 := by
                unfold St.readyOf
                split
                · simp
                · have := HWS.out.rl (j : Int).toNat; omega
              have F1p := Lib.hid f1'
              have F2p := Lib.hid f2
              clear f1' f2 fo2
              go_wp2_with fail
              refine (ints_calls F1p.out F2p.out hlr).mono ?_
              rintro e w' ⟨rfl, nq, rfl⟩
              have d4 : (S'.readyOf j == S'.readyOf j) = true := by simp
              rw [d4]
              clear d4
              go_wp2
              go_roundw
              case rel =>
                refine ⟨j + 1, by omega, by omega, by go_num, ?_⟩
                have b1 := hBx.trans (fb1.mono hBx.size)
                have b2 := b1.trans (fb2.mono (Nat.le_trans hBx.size fb1.size))
                exact ⟨b2.os, b2.tape, b2.output, b2.size, b2.block⟩
              case measure => simp [intOf]; omega
            · have hj8' : ¬ (j : Int) ≤ 7 := by omega
              clear hj8
              go_wp2
              go_loopw [17] (fun i wy => ∃ j : Nat, 1 ≤ j ∧ j ≤ 7 ∧ i = .int .i64 j ∧ Below w6.heap.size w6 wy) (fun i _ => 7 - (intOf i).toNat)
              case atStart => exact ⟨1, by omega, by omega, rfl, hBx⟩
              case round =>
                obtain ⟨j, hj1, hj2, rfl, hBx⟩ := hrel
                by_cases hj8 : j ≤ 6
                · have hj8' : (j : Int) ≤ 6 := by omega
                  have hsx := hs2.below hBx
                  have htx := ht2.below hBx
                  clear hj8
                  go_wp2_with fail
                  refine (waiting_calls hsx HWS.out (by omega) j).mono ?_
                  rintro e w8 ⟨v1, rfl, f1, fb1, fo1⟩
                  have F1o := Lib.hid f1
                  clear f1 fo1
                  go_wp2_with fail
                  refine (waiting_calls (htx.below fb1) HWT.out (by omega) j).mono ?_
                  rw [HREL2.out.waiting]
                  rintro e w9 ⟨v2, rfl, f2, fb2, fo2⟩
                  have f1' : Sl w9 3 v1 (ints (S'.waiting j).1) := F1o.out.kept fun gx hgx => fb2.block gx (F1o.out.lt hgx)
                  have hlr : (S'.waiting j).1.length < 100000 := by
                    unfold St.waiting
                    split
                    · have := (HWS.out.semAt ((j : Int).toNat - 1)).1; omega
                    · simp
                  obtain ⟨x2, hx2⟩ : ∃ x, (S'.waiting j).2 = x := ⟨_, rfl⟩
                  rw [hx2]
                  have d6 : (x2 != x2) = false := by simp
                  have F1p := Lib.hid f1'
                  have F2p := Lib.hid f2
                  clear f1' f2 fo2 hx2
                  go_wp2_with fail
                  refine (ints_calls F1p.out F2p.out hlr).mono ?_
                  rintro e w' ⟨rfl, nq, rfl⟩
                  have d4 : ((S'.waiting j).1 == (S'.waiting j).1) = true := by simp
                  rw [d4]
                  clear d4
                  go_wp2
                  go_roundw
                  case rel =>
                    refine ⟨j + 1, by omega, by omega, by go_num, ?_⟩
                    have b1 := hBx.trans (fb1.mono hBx.size)
                    have b2 := b1.trans (fb2.mono (Nat.le_trans hBx.size fb1.size))
                    exact ⟨b2.os, b2.tape, b2.output, b2.size, b2.block⟩
                  case measure => simp [intOf]; omega
                · have hj8' : ¬ (j : Int) ≤ 6 := by omega
                  clear hj8
                  go_wp2
                  go_roundw
                  case rel =>
                    refine ⟨k + 1, by omega, by go_num, ?_⟩
                    exact PInv.round cA hD3 hBr hsz HFB.out HGB.out HDA.out g1 hs1 g2 ht2 HG1F.out (fun b h1 h2 => HF1G.out b h2 h1) HREL2.out HWS.out HWT.out hBx
                  case measure => simp [intOf]; omega
        · have hd0 : (dk == 0) = false := by simpa using hk0
          clear hcase hk0
          go_wp2_with fail
          refine (done_calls (hs.chg cA (fun _ _ h => h)) hWS (by omega) ⟨dk, dA, dB⟩ (by dsimp only; omega)).mono ?_
          rintro e w5 ⟨rfl, hM1⟩
          clear hk1 hk2 hk3
          obtain ⟨est, hrel'⟩ := HST.out
          rw [HO1.out, HO2.out] at est hrel'
          have hWS' := WF.done hWS ⟨dk, dA, dB⟩
          have hWT' := WF.done hWT ⟨dk, dA, dB⟩
          obtain ⟨F1, hs1, ht1, g1, hF1G⟩ := pair_step (htA) HFG.out hM1
          have hb11 : w5.heap[wr.heap.size + 1]? = some (.cells #[.int .i64 dk, .int .i64 dA, .int .i64 dB] 36 (0, 0)) := g1.chg.get (hself (by simp)) (fun hf => by have := hs.lt _ hf; omega)
          have h110 : w5.cell? ⟨wr.heap.size + 1, 0, none⟩ = some (.int .i64 dk) := cell_of_block hb11 rfl
          have h111 : w5.cell? ⟨wr.heap.size + 1, 1, none⟩ = some (.int .i64 dA) := cell_of_block hb11 rfl
          have h112 : w5.cell? ⟨wr.heap.size + 1, 2, none⟩ = some (.int .i64 dB) := cell_of_block hb11 rfl
          have HEST := Lib.hid est
          have HREL := Lib.hid hrel'
          clear hb11
          have HF1G := Lib.hid hF1G
          clear est hrel' hF1G hM1
          go_wp2_with fail
          refine (done_calls ht1 hWT (by omega) ⟨dk, dA, dB⟩ (by dsimp only; omega)).mono ?_
          rintro e w6 ⟨rfl, hM2⟩
          clear h110 h111 h112
          obtain ⟨G1, ht2, hs2, g2, hG1F⟩ := pair_step hs1 (fun b h1 h2 => HF1G.out b h2 h1) hM2
          rw [HEST.out]
          obtain ⟨S', hS'⟩ : ∃ S', (S.done ⟨dk, dA, dB⟩).2 = S' := ⟨_, rfl⟩
          obtain ⟨T', hT'⟩ : ∃ T', (T.done ⟨dk, dA, dB⟩).2 = T' := ⟨_, rfl⟩
          obtain ⟨r1, hr1⟩ : ∃ r, (S.done ⟨dk, dA, dB⟩).1.1 = r := ⟨_, rfl⟩
          obtain ⟨r2, hr2⟩ : ∃ r, (S.done ⟨dk, dA, dB⟩).1.2 = r := ⟨_, rfl⟩
          have hrel' := HREL.out
          rw [hS', hT'] at hrel'
          rw [hS'] at hs1 hs2 hWS'
          rw [hT'] at ht2 hWT'
          rw [hr1, hr2]
          have d1 : (r1 != r1) = false := by simp
          have d2 : (r2 != r2) = false := by simp
          have HREL2 := Lib.hid hrel'
          have HWS := Lib.hid hWS'
          have HWT := Lib.hid hWT'
          have HG1F := Lib.hid hG1F
          clear hS' hT' hr1 hr2 hM2 hG1F HREL HEST hWS' hWT' hrel'
          go_wp2_with fail
          refine (active_calls hs2).mono ?_
          rintro e w' ⟨rfl, rfl⟩
          go_wp2_with fail
          refine (active_calls ht2).mono ?_
          rintro e w' ⟨rfl, rfl⟩
          rw [HREL2.out.active]
          have d3 : (S'.active != S'.active) = false := by simp
          go_wp2
          go_loopw [16] (fun i wx => ∃ j : Nat, 1 ≤ j ∧ j ≤ 8 ∧ i = .int .i64 j ∧ Below w6.heap.size w6 wx) (fun i _ => 8 - (intOf i).toNat)
          case atStart => exact ⟨1, by omega, by omega, rfl, Below.refl _ _⟩
          case round =>
            obtain ⟨j, hj1, hj2, rfl, hBx⟩ := hrel
            by_cases hj8 : j ≤ 7
            · have hj8' : (j : Int) ≤ 7 := by omega
              have hj1' : (1 : Int) ≤ j := by omega
              have hsx := hs2.below hBx
              have htx := ht2.below hBx
              clear hj8
              go_wp2_with fail
              refine (ready_calls hsx HWS.out (by omega) j).mono ?_
              rintro e w8 ⟨v1, rfl, f1, fb1, fo1⟩
              have F1o := Lib.hid f1
              clear f1 fo1
              go_wp2_with fail
              refine (raised_calls _ j c (by omega) (by omega)).mono ?_
              rintro e w' ⟨rfl, rfl⟩
              go_wp2_with fail
              refine (ready_calls (htx.below fb1) HWT.out (by omega) (Pri.raise c j)).mono ?_
              rw [HREL2.out.readyOf hj1' hj8']
              rintro e w9 ⟨v2, rfl, f2, fb2, fo2⟩
              have f1' : Sl w9 3 v1 (ints (S'.readyOf j)) := F1o.out.kept fun gx hgx => fb2.block gx (F1o.out.lt hgx)
              have hlr : (S'.readyOf j).length < 100000 := by
                unfold St.readyOf
                split
                · simp
                · have := HWS.out.rl (j : Int).toNat; omega
              have F1p := Lib.hid f1'
              have F2p := Lib.hid f2
              clear f1' f2 fo2
              go_wp2_with fail
              refine (ints_calls F1p.out F2p.out hlr).mono ?_
              rintro e w' ⟨rfl, nq, rfl⟩
              have d4 : (S'.readyOf j == S'.readyOf j) = true := by simp
              rw [d4]
              clear d4
              go_wp2
              go_roundw
              case rel =>
                refine ⟨j + 1, by omega, by omega, by go_num, ?_⟩
                have b1 := hBx.trans (fb1.mono hBx.size)
                have b2 := b1.trans (fb2.mono (Nat.le_trans hBx.size fb1.size))
                exact ⟨b2.os, b2.tape, b2.output, b2.size, b2.block⟩
              case measure => simp [intOf]; omega
            · have hj8' : ¬ (j : Int) ≤ 7 := by omega
              clear hj8
              go_wp2
              go_loopw [17] (fun i wy => ∃ j : Nat, 1 ≤ j ∧ j ≤ 7 ∧ i = .int .i64 j ∧ Below w6.heap.size w6 wy) (fun i _ => 7 - (intOf i).toNat)
              case atStart => exact ⟨1, by omega, by omega, rfl, hBx⟩
              case round =>
                obtain ⟨j, hj1, hj2, rfl, hBx⟩ := hrel
                by_cases hj8 : j ≤ 6
                · have hj8' : (j : Int) ≤ 6 := by omega
                  have hsx := hs2.below hBx
                  have htx := ht2.below hBx
                  clear hj8
                  go_wp2_with fail
                  refine (waiting_calls hsx HWS.out (by omega) j).mono ?_
                  rintro e w8 ⟨v1, rfl, f1, fb1, fo1⟩
                  have F1o := Lib.hid f1
                  clear f1 fo1
                  go_wp2_with fail
                  refine (waiting_calls (htx.below fb1) HWT.out (by omega) j).mono ?_
                  rw [HREL2.out.waiting]
                  rintro e w9 ⟨v2, rfl, f2, fb2, fo2⟩
                  have f1' : Sl w9 3 v1 (ints (S'.waiting j).1) := F1o.out.kept fun gx hgx => fb2.block gx (F1o.out.lt hgx)
                  have hlr : (S'.waiting j).1.length < 100000 := by
                    unfold St.waiting
                    split
                    · have := (HWS.out.semAt ((j : Int).toNat - 1)).1; omega
                    · simp
                  obtain ⟨x2, hx2⟩ : ∃ x, (S'.waiting j).2 = x := ⟨_, rfl⟩
                  rw [hx2]
                  have d6 : (x2 != x2) = false := by simp
                  have F1p := Lib.hid f1'
                  have F2p := Lib.hid f2
                  clear f1' f2 fo2 hx2
                  go_wp2_with fail
                  refine (ints_calls F1p.out F2p.out hlr).mono ?_
                  rintro e w' ⟨rfl, nq, rfl⟩
                  have d4 : ((S'.waiting j).1 == (S'.waiting j).1) = true := by simp
                  rw [d4]
                  clear d4
                  go_wp2
                  go_roundw
                  case rel =>
                    refine ⟨j + 1, by omega, by omega, by go_num, ?_⟩
                    have b1 := hBx.trans (fb1.mono hBx.size)
                    have b2 := b1.trans (fb2.mono (Nat.le_trans hBx.size fb1.size))
                    exact ⟨b2.os, b2.tape, b2.output, b2.size, b2.block⟩
                  case measure => simp [intOf]; omega
                · have hj8' : ¬ (j : Int) ≤ 6 := by omega
                  clear hj8
                  go_wp2
                  go_roundw
                  case rel =>
                    refine ⟨k + 1, by omega, by go_num, ?_⟩
                    exact PInv.round cA hD3 hBr hsz HFB.out HGB.out HDA.out g1 hs1 g2 ht2 HG1F.out (fun b h1 h2 => HF1G.out b h2 h1) HREL2.out HWS.out HWT.out hBx
                  case measure => simp [intOf]; omega
    · obtain ⟨S, T, F, G, hs, ht, hrel, hWS, hWT, hFG, hFb, hGb, hda, hD3, hBr, hsz⟩ := hinv
      have hge : ¬ (k : Int) < (D.length : Nat) := by omega
      clear hlt hFG hFb hGb hda
      go_wp2
      go_ret
      exact ⟨rfl, hBr⟩
end Go.Proofs.YtlfbommppenlcaaGreatDoor
