/- The scheduler on paper: what it tells, whatever the deed. Conditions: it lies in memory; lengths are bounded. -/
import Derived.Test.YtlfbommppenlcaaGreatDoorB4
import Derived.Test.YtlfbommppenlcaaGreatDoorB5
import Derived.Test.YtlfbommppenlcaaGreatDoorB6
import Derived.Test.YtlfbommppenlcaaGreatDoorB7
import Derived.Test.YtlfbommppenlcaaGreatDoorB8
import Derived.Test.YtlfbommppenlcaaGreatDoorB9
import Derived.Test.YtlfbommppenlcaaGreatDoorBb
import Derived.Test.YtlfbommppenlcaaGreatDoorBc
namespace Go.Proofs.YtlfbommppenlcaaGreatDoor
open Go.RowKit Go.Mem
namespace Ben

theorem bdoes_calls {w : World} {bb : Nat} {F : Nat → Prop} {B : Bn} {M : Nat} (hA : BenAt w bb F B) (hW : BW M B) (hM : M < 800000) (d : Deed) (hd : 0 ≤ d.kind) :
    Calls Tryz.prog 19 #[.pointer (some ⟨bb, 0, none⟩), .agg #[.int .i64 d.kind, .int .i64 d.a, .int .i64 d.b]] w fun e w' => e = .returned (.tuple #[.int .i64 (B.does d).1.1, .int .i64 (B.does d).1.2]) ∧ BMakes w bb F (B.does d).2 w' := by
  obtain ⟨k, a, b⟩ := d
  unfold Bn.does
  dsimp only at hd ⊢
  by_cases h0 : k = 0
  · subst h0
    rw [if_pos rfl]
    unfold Bn.spawn
    by_cases hp : a < 1 ∨ a > 8
    · rw [if_pos hp]; exact bdoes_0_bad hA a b hp
    · rw [if_neg hp]
      by_cases hl : B.l.length = 100
      · rw [if_pos hl]; exact bdoes_0_full hA a b (by omega) (by omega) hl
      · rw [if_neg hl]; simpa using bdoes_0_good hA hW a b (by omega) (by omega) hl
  rw [if_neg h0]
  by_cases h1 : k = 1
  · subst h1; rw [if_pos rfl]; exact bdoes_1 hA hW (by omega) a b
  rw [if_neg h1]
  by_cases h2 : k = 2
  · subst h2; rw [if_pos rfl]; exact bdoes_2 hA hW hM a b
  rw [if_neg h2]
  by_cases h3 : k = 3
  · subst h3
    rw [if_pos rfl]
    by_cases ht : B.there a = true
    · exact bdoes_3 hA hW hM a b ht
    · unfold Bn.suspend
      rw [if_neg ht]
      exact bdoes_3_none hA hW a b (by simpa using ht)
  rw [if_neg h3]
  by_cases h4 : k = 4
  · subst h4
    rw [if_pos rfl]
    by_cases ha : B.active = 0
    · unfold Bn.yield
      rw [if_pos ha]
      exact bdoes_4_none hA a b ha
    · exact bdoes_4 hA hW hM a b ha
  rw [if_neg h4]
  by_cases h5 : k = 5
  · subst h5
    rw [if_pos rfl]
    by_cases hs : B.hasSem b = true
    · exact bdoes_5 hA hW hM a b hs
    · unfold Bn.signal
      rw [if_neg hs]
      exact bdoes_56_none hA hW 5 a b (.inl rfl) (by simpa using hs)
  rw [if_neg h5]
  by_cases h6 : k = 6
  · subst h6
    rw [if_pos rfl]
    by_cases hs : B.hasSem b = true
    · exact bdoes_6 hA hW hM a b hs
    · unfold Bn.wait
      rw [if_neg hs]
      exact bdoes_56_none hA hW 6 a b (.inr rfl) (by simpa using hs)
  rw [if_neg h6]
  unfold Bn.sem
  by_cases hl : B.signs.length = 100
  · rw [if_pos hl]; exact bdoes_7_full hA k a b (by omega) hl
  · rw [if_neg hl]; simpa using bdoes_7_good hA hW k a b (by omega) hl
end Ben
end Go.Proofs.YtlfbommppenlcaaGreatDoor
