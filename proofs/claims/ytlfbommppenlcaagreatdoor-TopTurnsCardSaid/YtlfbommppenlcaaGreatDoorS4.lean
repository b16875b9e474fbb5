/- The scheduler's inner steps (drop from a queue, the next one, make ready, find a semaphore) do in memory what the plain functions say. Conditions: a scheduler lies there; its queues are short. -/
import Derived.Test.YtlfbommppenlcaaGreatDoorS3
import Derived.Deep.RegionHeld3
import Derived.BigQuiet
import Derived.Deep.QuietTactic
namespace Go.Proofs.YtlfbommppenlcaaGreatDoor
open Go.RowKit Go.Mem

theorem idxFrom_cases (p : Int) : ∀ (zs : List Int) (i : Nat),
    (p ∉ zs ∧ Lib.idxFrom zs p i = -1) ∨ ∃ k, k < zs.length ∧ Lib.idxFrom zs p i = ((i + k : Nat) : Int) ∧ zs.take k ++ zs.drop (k + 1) = zs.erase p
  | [], i => .inl ⟨by simp, rfl⟩
  | z :: zs, i => by
    by_cases e : z = p
    · subst e
      exact .inr ⟨0, by simp, by simp [Lib.idxFrom], by simp⟩
    · rcases idxFrom_cases p zs (i + 1) with ⟨h1, h2⟩ | ⟨k, hk, h2, h3⟩
      · exact .inl ⟨by simp [h1, Ne.symm e], by simp [Lib.idxFrom, e, h2]⟩
      · refine .inr ⟨k + 1, by simp; omega, by simp [Lib.idxFrom, e, h2]; omega, ?_⟩
        rw [List.erase_cons_tail (by simpa using e), ← h3]
        simp

theorem q_drop {w : World} {b o : Nat} {c : Array Value} {T : Nat} {v : Value} {zs : List Int} (p : Int)
    (hb : w.heap[b]? = some (.cells c T (0,0))) (hv : c[o]? = some v) (hS : Sl w 3 v (ints zs)) (hne : v.ownBlock ≠ some b) (hn : zs.length < 1000000) :
    Calls Tryz.prog 92 #[.pointer (some ⟨b, o, none⟩), .int .i64 p] w fun e w' => (∃ r : Bool, e = .returned (.bool r)) ∧
      ∃ v', Sl w' 3 v' (ints (zs.erase p)) ∧ w'.heap[b]? = some (.cells (c.setIfInBounds o v') T (0,0)) ∧ Chg (fun k => k = b ∨ some k = v.ownBlock) w w' ∧ Near w v v' := by
  have hc : w.cell? ⟨b, o, none⟩ = some v := cell_of_block hb hv
  rcases idxFrom_cases p zs 0 with ⟨h1, h2⟩ | ⟨k, hk, h2, h3⟩
  · have HI := Lib.hid (show Lib.idxOf zs p = -1 from h2)
    have HB := Lib.hid hb
    have HV := Lib.hid hv
    have HP := Lib.hid h1
    clear h2 hb hv h1
    go_enter Tryz.func92, Tryz.ntmps92
    go_wp2_with fail
    refine (sl_index p hS).mono ?_
    rw [HI.out]
    rintro e w' ⟨rfl, rfl⟩
    go_wp2
    go_ret
    refine ⟨⟨_, rfl⟩, v, ?_, ?_, Chg.refl _ _, .inl rfl⟩
    · rw [List.erase_of_not_mem HP.out]; exact hS
    · have : c.setIfInBounds o v = c := by
        obtain ⟨hlt, he⟩ := Array.getElem?_eq_some_iff.1 HV.out
        rw [Array.setIfInBounds_def, dif_pos hlt, ← he, Array.set_getElem_self]
      rw [this]; exact HB.out
  · obtain ⟨g, cap, rfl, _⟩ := hS.at (by simp; omega)
    have hgb : g ≠ b := fun e => hne (by simp [Value.ownBlock, e])
    have HI := Lib.hid (show Lib.idxOf zs p = (k : Int) by have := h2; simp only [Nat.zero_add] at this; exact this)
    have HB := Lib.hid hb
    have HV := Lib.hid hv
    have HE := Lib.hid h3
    have HG := Lib.hid hgb
    have HS := Lib.hid hS
    simp only [length_ints] at hc
    have hk0 : (0 : Int) ≤ k := by omega
    have hw1 : IntKind.i64.wrap ((k : Int) + 1) = k + 1 := IntWalk.i64_in _ (by omega)
    clear h2 hb hv h3 hne hgb hS
    go_enter Tryz.func92, Tryz.ntmps92
    go_wp2_with fail
    have hS := HS.out
    simp only [length_ints] at hS
    refine (sl_index p hS).mono ?_
    rw [HI.out]
    rintro e w' ⟨rfl, rfl⟩
    clear hS
    go_wp2_with fail
    have hS := HS.out
    simp only [length_ints] at hS
    refine (sl_delete k (k + 1) hS (by omega) (by omega)).mono ?_
    rintro e w1 ⟨n', rfl, hS1, hC1⟩
    have hb1 : w1.heap[b]? = some (.cells c T (0,0)) := hC1.get HB.out (fun h => HG.out h.symm)
    have hc1 := cell_of_block hb1 HV.out
    have hf1 := free_of_block hb1 o
    have HB1 := Lib.hid hb1
    have HS1 := Lib.hid hS1
    clear hb1 hc hS hS1
    go_wp2
    go_ret
    refine ⟨⟨_, rfl⟩, _, Sl.kept (HE.out ▸ HS1.out) fun g' hg' => heap_setCell_ne ?_, heap_setCell_at HB1.out, (hC1.mono (fun k _ h => .inr (by simp [Value.ownBlock, h]))).setCell (fun _ => .inl rfl) _, .inl rfl⟩
    simp [Value.ownBlock] at hg'
    subst hg'
    exact HG.out
end Go.Proofs.YtlfbommppenlcaaGreatDoor
