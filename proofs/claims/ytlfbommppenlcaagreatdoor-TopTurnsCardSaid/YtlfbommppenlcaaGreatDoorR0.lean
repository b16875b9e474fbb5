/- Raw numbers that came in, out of what a row says of a slice. Conditions: none. -/
import Derived.Test.YtlfbommppenlcaaGreatDoorT1
import Derived.ProofKit
import Derived.OpenShut
namespace Go.Proofs.YtlfbommppenlcaaGreatDoor
open Go.RowKit Go.Mem

/-- What a slice of integers that came in is. -/
def IsRow (k : IntKind) (w : World) (a : Option Addr) (len cap : Nat) (zs : List Int) : Prop :=
  (a = none ∧ len = 0 ∧ cap = 0 ∧ zs = []) ∨
  ∃ x, a = some x ∧ len ≤ cap ∧ cap ≤ maxLen ∧ zs.length = cap ∧ (∀ i, i < zs.length → w.cell? (x.add i) = some (.int k (zs.getD i 0))) ∧ ∀ n ∈ zs, (Lit.int k n).wf = true

theorem spot_none {w : World} {x : Addr} {v : Value} (h : w.cell? x = some v) : x.spot = none := by
  unfold World.cell? at h
  split at h
  · split at h
    · cases h
    · rename_i hs; simpa using hs
  · cases h

/-- The slice's numbers, one behind the other. -/
theorem IsRow.cells {k : IntKind} {w : World} {a : Option Addr} {len cap : Nat} {zs : List Int} (h : IsRow k w a len cap zs) :
    (zs.take len).length = len ∧ ∀ i, i < (zs.take len).length → ∃ b off, a = some ⟨b, off, none⟩ ∧ w.cell? ⟨b, off + i, none⟩ = some (.int k ((zs.take len).getD i 0)) := by
  rcases h with ⟨rfl, rfl, rfl, rfl⟩ | ⟨x, rfl, h1, h2, h3, h4, h5⟩
  · exact ⟨rfl, fun i hi => by simp at hi⟩
  · refine ⟨by simp; omega, fun i hi => ?_⟩
    have hi' : i < len := by simp at hi; omega
    have h0 := h4 0 (by omega)
    have e0 : x.add 0 = x := by unfold Addr.add; simp
    rw [e0] at h0
    have hs := spot_none h0
    obtain ⟨b, off, sp⟩ := x
    dsimp only at hs
    subst hs
    refine ⟨b, off, rfl, ?_⟩
    have hc := h4 i (by omega)
    have e1 : (⟨b, off, none⟩ : Addr).add i = ⟨b, off + i, none⟩ := by unfold Addr.add; split <;> simp_all
    rw [e1] at hc
    rw [hc]
    simp [List.getD, hi']

theorem IsRow.wf {k : IntKind} {w : World} {a : Option Addr} {len cap : Nat} {zs : List Int} (h : IsRow k w a len cap zs) : ∀ n ∈ zs.take len, (Lit.int k n).wf = true := by
  rcases h with ⟨rfl, rfl, rfl, rfl⟩ | ⟨x, rfl, h1, h2, h3, h4, h5⟩
  · intro n hn; simp at hn
  · exact fun n hn => h5 n (List.mem_of_mem_take hn)

theorem u8_bd {n : Int} (h : (Lit.int .u8 n).wf = true) : 0 ≤ n ∧ n ≤ 255 := by
  exact bounds_u8 h

theorem IsRow.raw {w : World} {a : Option Addr} {len cap : Nat} {zs : List Int} (h : IsRow .u8 w a len cap zs) : Raw w a (zs.take len) := by
  refine ⟨h.cells.2, fun n hn => u8_bd (h.wf n hn), ?_⟩
  rw [h.cells.1]
  rcases h with ⟨rfl, rfl, rfl, rfl⟩ | ⟨x, rfl, h1, h2, h3, h4, h5⟩
  · omega
  · unfold maxLen at h2; omega

theorem IsRow.lt {k : IntKind} {w : World} {a : Option Addr} {len cap : Nat} {zs : List Int} (h : IsRow k w a len cap zs) (hl : 0 < len) : ∀ x, a = some x → x.block < w.heap.size := by
  intro x hx
  obtain ⟨b, off, e, hc⟩ := h.cells.2 0 (by rw [h.cells.1]; exact hl)
  rw [hx] at e
  cases e
  exact World.block_lt_of_cell? _ _ hc
end Go.Proofs.YtlfbommppenlcaaGreatDoor
