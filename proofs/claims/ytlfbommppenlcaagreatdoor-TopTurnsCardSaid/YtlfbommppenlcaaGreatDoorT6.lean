/- TopTurns answers true: the walk. Conditions: the raw numbers lie in memory. -/
import Derived.Test.YtlfbommppenlcaaGreatDoorT7
import Derived.Test.YtlfbommppenlcaaGreatDoorBd
namespace Go.Proofs.YtlfbommppenlcaaGreatDoor
open Go.RowKit Go.Mem

/-- A bench that was made just now. -/
theorem Ben.fresh (w : World) : Ben.BenAt (w.alloc (.cells #[.slice none 0 0, .slice none 0 0, .slice none 0 0, .slice none 0 0, .slice none 0 0, .slice none 0 0, .slice none 0 0, .slice none 0 0, .slice none 0 0, .slice none 0 0, .int .i64 0, .slice none 0 0, .slice none 0 0] 32)) w.heap.size (fun b => b = w.heap.size) Ben.Bn.new := by
  refine ⟨fun b => if b = w.heap.size then some .hdr else none, [], _, ⟨heap_alloc_self, rfl, by simp, fun k hk => ?_, rfl, fun j hj hj2 => ?_, rfl, fun k q hq => by simp at hq⟩, fun k => ?_⟩
  · simp at hk; simp; omega
  · refine ⟨.slice none 0 0, ?_, ?_, fun g hg => by simp [Value.ownBlock] at hg⟩
    · rcases j with _ | _ | _ | _ | _ | _ | _ | _ | _ | _ | _ | _ | _ | j
      all_goals first | rfl | omega
    · have e : Ben.Bn.new.fld [] j = [] := by
        unfold Ben.Bn.fld
        split
        · rfl
        · split
          · rfl
          · split
            · rfl
            · rfl
      rw [e]
      exact ⟨by simp, .inl ⟨rfl, by simp⟩⟩
  · simp

def TInv (Z sb bb : Nat) (w0 : World) (base : Nat) (a : Option Addr) (cap : Nat) (D : List Deed) (k : Nat) (wr : World) : Prop :=
  ∃ S B F G, SchAt wr sb F S ∧ Ben.BenAt wr bb G B ∧ Ben.Rel k S B ∧ S.WF (4 * k) ∧ Ben.BW (4 * k) B ∧ (∀ b, F b → ¬ G b) ∧ (∀ b, F b → Z ≤ b) ∧ (∀ b, G b → Z ≤ b) ∧
    (∀ x, a = some x → ¬ F x.block ∧ ¬ G x.block) ∧ DeedsAt wr base a cap D ∧ Below Z w0 wr ∧ Z ≤ wr.heap.size

/-- Behind a round. -/
theorem TInv.round {Z sb bb : Nat} {w0 : World} {base : Nat} {a : Option Addr} {cap : Nat} {D : List Deed} {k : Nat} {wr wA w5 w6 w7 : World} {S' : St} {B' : Ben.Bn} {F G F1 G1 : Nat → Prop}
    (cA : Chg (fun _ => False) wr wA) (hD : DeedsAt wr base a cap D) (hB : Below Z w0 wr) (hsz : Z ≤ wr.heap.size) (hF : ∀ b, F b → Z ≤ b) (hG : ∀ b, G b → Z ≤ b) (ha : ∀ x, a = some x → ¬ F x.block ∧ ¬ G x.block)
    (g1 : Goes F F1 wA w5) (hS : SchAt w5 sb F1 S') (g2 : Goes G G1 w5 w6) (hT : Ben.BenAt w6 bb G1 B') (hFG : ∀ b, G1 b → ¬ F1 b) (hFG0 : ∀ b, G b → ¬ F1 b) (hR : Ben.Rel (k + 1) S' B') (hW : S'.WF (4 * k + 4)) (hW2 : Ben.BW (4 * k + 4) B') (c7 : Below w6.heap.size w6 w7) :
    TInv Z sb bb w0 base a cap D (k + 1) w7 := by
  have c7' : Chg (fun _ => False) w6 w7 := Chg.of_below' c7
  have hw6 : SchAt w6 sb F1 S' := hS.chg g2.chg (fun b hb hg => hFG0 b hg hb)
  have e4 : 4 * (k + 1) = 4 * k + 4 := by omega
  refine ⟨S', B', F1, G1, hw6.chg c7' (fun _ _ h => h), hT.chg c7' (fun _ _ h => h), hR, by rw [e4]; exact hW, by rw [e4]; exact hW2, fun b h1 h2 => hFG b h2 h1, fun b hb => ?_, fun b hb => ?_, fun x hx => ?_, ?_, ?_, ?_⟩
  · have := cA.size
    rcases g1.new b hb with h | h
    · exact hF b h
    · omega
  · have := cA.size; have := g1.chg.size
    rcases g2.new b hb with h | h
    · exact hG b h
    · omega
  · have hlt : x.block < wr.heap.size := by
      rcases hD.own.2 with ⟨e, _⟩ | ⟨g, cap', cur, e, _, hg, _⟩
      · simp only [Value.slice.injEq] at e; rw [hx] at e; cases e.1
      · simp only [Value.slice.injEq] at e; rw [hx] at e
        have := Option.some.inj e.1
        rw [this]; exact lt_of_block hg
    have := cA.size; have := g1.chg.size
    refine ⟨fun h => ?_, fun h => ?_⟩
    · rcases g1.new _ h with h | h
      · exact (ha x hx).1 h
      · omega
    · rcases g2.new _ h with h | h
      · exact (ha x hx).2 h
      · omega
  · have h1 := hD.kept cA (fun _ h => h.elim)
    have h2 := h1.kept g1.chg (fun g hg x hx e => (ha x hx).1 (by rw [e]; exact hg))
    have h3 := h2.kept g2.chg (fun g hg x hx e => (ha x hx).2 (by rw [e]; exact hg))
    exact h3.kept c7' (fun _ h => h.elim)
  · have b1 := cA.below hsz (fun _ _ h => h)
    have z1 := cA.size
    have b2 := g1.chg.below (B := Z) (by omega) (fun b hb hf => by have := hF b hf; omega)
    have z2 := g1.chg.size
    have b3 := g2.chg.below (B := Z) (by omega) (fun b hb hf => by have := hG b hf; omega)
    have z3 := g2.chg.size
    exact (((hB.trans b1).trans b2).trans b3).trans (c7.mono (by omega))
  · have := cA.size; have := g1.chg.size; have := g2.chg.size; have := c7.size; omega

set_option maxRecDepth 100000 in
set_option maxHeartbeats 4000000 in
theorem turns_calls {w : World} {a : Option Addr} {cap : Nat} {l : List Int} (hR : Raw w a l) (hab : 0 < l.length → ∀ x, a = some x → x.block < w.heap.size) :
    Calls Tryz.prog 3 #[.slice a l.length cap] w fun e w' => e = .returned (.bool true) ∧ Below w.heap.size w w' := by
  have HR := Lib.hid hR
  have HAB := Lib.hid hab
  clear hR hab
  go_enter Tryz.func3, Tryz.ntmps3
  go_wp2_with fail
  refine (known_calls _).mono ?_
  rintro e w1 ⟨rfl, hB1⟩
  go_wp2_with fail
  refine (new_calls _).mono ?_
  rintro e w2 ⟨F, rfl, hA2, hG2⟩
  go_wp2_with fail
  have hA3 := Ben.fresh w2
  have hc3 : Chg (fun _ => False) w2 (w2.alloc (.cells #[.slice none 0 0, .slice none 0 0, .slice none 0 0, .slice none 0 0, .slice none 0 0, .slice none 0 0, .slice none 0 0, .slice none 0 0, .slice none 0 0, .slice none 0 0, .int .i64 0, .slice none 0 0, .slice none 0 0] 32)) := (Chg.refl _ _).alloc _
  generalize w2.alloc (.cells #[.slice none 0 0, .slice none 0 0, .slice none 0 0, .slice none 0 0, .slice none 0 0, .slice none 0 0, .slice none 0 0, .slice none 0 0, .slice none 0 0, .slice none 0 0, .int .i64 0, .slice none 0 0, .slice none 0 0] 32) = w3 at hA3 hc3 ⊢
  have hB3 : Below w.heap.size w w3 := (hB1.trans (hG2.chg.below hB1.size (fun _ _ h => h))).trans (hc3.below (Nat.le_trans hB1.size hG2.chg.size) (fun _ _ h => h))
  have hR3 : Raw w3 a l := ⟨fun i hi => by
    obtain ⟨b, off, e, hc⟩ := HR.out.at_ i hi
    exact ⟨b, off, e, (hB3.cell (p := ⟨b, off + i, none⟩) (by have := HAB.out (by omega) _ e; exact this)).trans hc⟩, HR.out.lo, HR.out.len⟩
  refine (deeds_calls hR3 (fun hl x hx => Nat.lt_of_lt_of_le (HAB.out hl x hx) hB3.size)).mono ?_
  intro e w4 hD
  obtain ⟨da, dcap, D, rfl, hD1, hD2, hB4⟩ := hD.out
  have hs4 := (hA2.chg hc3 (fun _ _ h => h)).below hB4
  have ht4 := Ben.BenAt.below hA3 hB4
  have hinv : TInv w.heap.size w1.heap.size w2.heap.size w w3.heap.size da dcap D 0 w4 := by
    refine ⟨St.new, Ben.Bn.new, F, _, hs4, ht4, Ben.Rel.new, St.WF.new, Ben.BW.new, fun b h1 h2 => ?_, fun b hb => ?_, fun b hb => ?_, fun x hx => ?_, hD2, hB3.trans (hB4.mono hB3.size), Nat.le_trans hB3.size hB4.size⟩
    · have := hA2.lt b h1
      omega
    · rcases hG2.new b hb with h | h
      · exact h.elim
      · exact Nat.le_trans hB1.size h
    · have := hB1.size; have := hG2.chg.size; omega
    · have hge : w3.heap.size ≤ x.block := by
        rcases hD2.own.2 with ⟨e, _⟩ | ⟨g, cap', cur, e, hb, _⟩
        · simp only [Value.slice.injEq] at e; rw [hx] at e; cases e.1
        · simp only [Value.slice.injEq] at e; rw [hx] at e
          have := Option.some.inj e.1
          rw [this]; exact hb
      refine ⟨fun h => ?_, fun h => ?_⟩
      · have := hA2.lt _ h; have := hc3.size; omega
      · have := hA3.lt _ h; omega
  have HI := Lib.hid hinv
  clear hinv hs4 ht4 hA2 hA3 hG2 hc3 hB1 hB3 hB4 hD hD2 hR3
  go_wp2_with fail
  go_loopw [21] (fun i wr => ∃ k : Nat, k ≤ D.length ∧ i = .int .i64 k ∧ TInv w.heap.size w1.heap.size w2.heap.size w w3.heap.size da dcap D k wr) (fun i _ => D.length - (intOf i).toNat)
  case atStart => exact ⟨0, Nat.zero_le _, rfl, HI.out⟩
  case round =>
    obtain ⟨k, hk, rfl, hinv⟩ := hrel
    by_cases hlt : k < D.length
    · obtain ⟨S, B, F, G, hs, ht, hrel, hWS, hWT, hFG, hFb, hGb, hda, hD3, hBr, hsz⟩ := hinv
      obtain ⟨g, hdg, hgb, hk1, hk2, hk3⟩ := hD3.cells hlt
      obtain ⟨q1, q2, q3, q4, q5, q6⟩ := hD3.ok D[k] (List.getElem_mem hlt)
      have hlt' : (k : Int) < (D.length : Nat) := by omega
      obtain ⟨dk, dA, dB, hdd⟩ : ∃ x y z, D[k] = ⟨x, y, z⟩ := ⟨_, _, _, rfl⟩
      rw [hdd] at hk1 hk2 hk3 q1 q2 q3 q4 q5 q6
      dsimp only at hk1 hk2 hk3 q1 q2 q3 q4 q5 q6
      have hstep := hrel.does (by omega) ⟨dk, dA, dB⟩
      have hWS' := WF.done hWS ⟨dk, dA, dB⟩
      have hWT' := hWT.does ⟨dk, dA, dB⟩
      have HST := Lib.hid hstep
      have HFG := Lib.hid hFG
      have HFB := Lib.hid hFb
      have HGB := Lib.hid hGb
      have HDA := Lib.hid hda
      have HWS' := Lib.hid hWS'
      have HWT' := Lib.hid hWT'
      clear hdd hstep hFG hFb hGb hda hWS' hWT'
      subst hdg
      have cA : Chg (fun _ => False) wr (wr.alloc (.cells #[.int .i64 dk, .int .i64 dA, .int .i64 dB] 36)) := (Chg.refl _ _).alloc _
      have htA := ht.chg cA (fun _ _ h => h)
      go_wp2_with fail
      refine (done_calls (hs.chg cA (fun _ _ h => h)) hWS (by omega) ⟨dk, dA, dB⟩ (by dsimp only; omega)).mono ?_
      rintro e w5 ⟨rfl, hM1⟩
      clear hk1 hk2 hk3
      obtain ⟨F1, hs1, g1⟩ := hM1
      have hb5 : Ben.BenAt w5 w2.heap.size G B := htA.chg g1.chg (fun b hb hf => HFG.out b hf hb)
      have hF1G : ∀ b, F1 b → ¬ G b := fun b hf hg => by
        rcases g1.new b hf with h | h
        · exact HFG.out b h hg
        · have := htA.lt b hg; omega
      have hb11 : w5.heap[wr.heap.size]? = some (.cells #[.int .i64 dk, .int .i64 dA, .int .i64 dB] 36 (0, 0)) := g1.chg.get heap_alloc_self (fun hf => by have := hs.lt _ hf; omega)
      have h110 : w5.cell? ⟨wr.heap.size, 0, none⟩ = some (.int .i64 dk) := cell_of_block hb11 rfl
      have h111 : w5.cell? ⟨wr.heap.size, 1, none⟩ = some (.int .i64 dA) := cell_of_block hb11 rfl
      have h112 : w5.cell? ⟨wr.heap.size, 2, none⟩ = some (.int .i64 dB) := cell_of_block hb11 rfl
      have HF1G := Lib.hid hF1G
      clear hb11 hF1G
      go_wp2_with fail
      refine (Ben.bdoes_calls hb5 hWT (by omega) ⟨dk, dA, dB⟩ (by dsimp only; omega)).mono ?_
      rintro e w6 ⟨rfl, G1, hb6, g2⟩
      clear h110 h111 h112
      have hG1F : ∀ b, G1 b → ¬ F1 b := fun b hg hf => by
        rcases g2.new b hg with h | h
        · exact HF1G.out b hf h
        · have := hs1.lt b hf; omega
      have hs6 := hs1.chg g2.chg (fun b hf hg => HF1G.out b hf hg)
      obtain ⟨est, hrel'⟩ := HST.out
      rw [est]
      obtain ⟨S', hS'⟩ : ∃ S', (S.done ⟨dk, dA, dB⟩).2 = S' := ⟨_, rfl⟩
      obtain ⟨B', hB'⟩ : ∃ B', (B.does ⟨dk, dA, dB⟩).2 = B' := ⟨_, rfl⟩
      obtain ⟨r1, hr1⟩ : ∃ r, (S.done ⟨dk, dA, dB⟩).1.1 = r := ⟨_, rfl⟩
      obtain ⟨r2, hr2⟩ : ∃ r, (S.done ⟨dk, dA, dB⟩).1.2 = r := ⟨_, rfl⟩
      have hWS2 := HWS'.out
      have hWT2 := HWT'.out
      rw [hS'] at hs1 hs6 hrel' hWS2
      rw [hB'] at hb6 hrel' hWT2
      rw [hr1, hr2]
      have d1 : (r1 != r1) = false := by simp
      have d2 : (r2 != r2) = false := by simp
      have HREL2 := Lib.hid hrel'
      have HWS := Lib.hid hWS2
      have HWT := Lib.hid hWT2
      have HG1F := Lib.hid hG1F
      clear hS' hB' hr1 hr2 hG1F est hrel' hWS2 hWT2 HST HWS' HWT'
      go_wp2_with fail
      refine (Ben.agrees_calls (N := 4 * k + 4) hs6 hb6 (HREL2.out.mono (by omega)) HWS.out HWT.out (by omega)).mono ?_
      rintro e w7 ⟨rfl, hB7⟩
      go_wp2_with fail
      go_roundw
      case rel =>
        refine ⟨k + 1, by omega, by go_num, ?_⟩
        exact TInv.round cA hD3 hBr hsz HFB.out HGB.out HDA.out g1 hs1 g2 hb6 HG1F.out (fun b h1 h2 => HF1G.out b h2 h1) HREL2.out HWS.out HWT.out hB7
      case measure => simp [intOf]; omega
    · obtain ⟨S, B, F, G, hs, ht, hrel, hWS, hWT, hFG, hFb, hGb, hda, hD3, hBr, hsz⟩ := hinv
      have hge : ¬ (k : Int) < (D.length : Nat) := by omega
      clear hlt hFG hFb hGb hda
      go_wp2_with fail
      go_ret
      exact ⟨rfl, hBr⟩
end Go.Proofs.YtlfbommppenlcaaGreatDoor
