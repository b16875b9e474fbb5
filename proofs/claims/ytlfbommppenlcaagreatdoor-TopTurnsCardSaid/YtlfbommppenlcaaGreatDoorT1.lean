/- Small functions of the statements: whether two rows of numbers are one; the giver of raw numbers. Conditions: the slices lie in memory; they are short. -/
import Derived.Test.YtlfbommppenlcaaGreatDoorS2
import Derived.BigQuiet
import Derived.Deep.QuietTactic
import Derived.Deep.RegionHeld3
namespace Go.Proofs.YtlfbommppenlcaaGreatDoor
open Go.RowKit Go.Mem

theorem drewN_drewN (w : World) (n m : Nat) : (w.drewN n).drewN m = w.drewN (n + m) := by simp [World.drewN, Nat.add_assoc]

theorem Sl.drewN {w : World} {T : TypeId} {v : Value} {l : List Value} (h : Sl w T v l) (n : Nat) : Sl (w.drewN n) T v l := h.kept fun _ _ => rfl

theorem Sl.int_at {w : World} {a : Option Addr} {n cap : Nat} {l : List Int} (h : Sl w 3 (.slice a n cap) (ints l)) {i : Nat} (hi : i < l.length) :
    ∃ g, a = some ⟨g, 0, none⟩ ∧ w.cell? ⟨g, i, none⟩ = some (.int .i64 (l.getD i 0)) := by
  obtain ⟨g, cap', e, _, _, hc, _⟩ := h.at (by simp; omega)
  cases e
  exact ⟨g, rfl, hc i _ (ints_get hi)⟩

theorem ints_take_eq {a b : List Int} {k : Nat} (ha : k < a.length) (hb : k < b.length) (h : a.take k = b.take k) (e : a.getD k 0 = b.getD k 0) : a.take (k + 1) = b.take (k + 1) := by
  rw [List.take_succ_eq_append_getElem ha, List.take_succ_eq_append_getElem hb, h]
  simp only [List.getD_eq_getElem?_getD, List.getElem?_eq_getElem ha, List.getElem?_eq_getElem hb, Option.getD_some] at e
  rw [e]

set_option maxHeartbeats 1000000 in
theorem ints_calls {w : World} {v1 v2 : Value} {a b : List Int} (h1 : Sl w 3 v1 (ints a)) (h2 : Sl w 3 v2 (ints b)) (hl : a.length < 100000) :
    Calls Tryz.prog 23 #[v1, v2] w fun e w' => e = .returned (.bool (a == b)) ∧ ∃ n, w' = w.drewN n := by
  obtain ⟨a1, c1, rfl⟩ := h1.shape
  obtain ⟨a2, c2, rfl⟩ := h2.shape
  rw [length_ints] at h1 h2
  by_cases hlen : a.length = b.length
  · obtain ⟨r, hr⟩ : ∃ r : Bool, (a == b) = r := ⟨_, rfl⟩
    rw [hr]
    have HR := Lib.hid hr
    have H1 := Lib.hid h1
    have hlb : b.length = a.length := hlen.symm
    rw [hlb] at h2
    have H2 := Lib.hid h2
    have HL := Lib.hid hlen
    simp only [length_ints, hlb]
    clear hr h1 h2 hlen hlb
    go_enter Tryz.func23, Tryz.ntmps23
    go_wp2
    go_loopw [5, 13] (fun _ i wr => ∃ k : Nat, k ≤ a.length ∧ i = .int .i64 k ∧ (∃ n, wr = w.drewN n) ∧ a.take k = b.take k) (fun _ i _ => a.length - (intOf i).toNat)
    case atStart => exact ⟨0, Nat.zero_le _, rfl, ⟨0, rfl⟩, by simp⟩
    case round =>
      obtain ⟨k, hk, rfl, ⟨n, hn⟩, ht⟩ := hrel
      by_cases hlt : k < a.length
      · have h1' : Sl wr 3 (.slice a1 a.length c1) (ints a) := by rw [hn]; exact Sl.drewN H1.out n
        have h2' : Sl wr 3 (.slice a2 a.length c2) (ints b) := by rw [hn]; exact Sl.drewN H2.out n
        obtain ⟨g1, e1, hc1⟩ := Sl.int_at h1' hlt
        obtain ⟨g2, e2, hc2⟩ := Sl.int_at h2' (i := k) (by have := HL.out; omega)
        have hlt' : (k : Int) < (a.length : Nat) := by omega
        subst e1 e2
        obtain ⟨x, hx⟩ : ∃ x, a.getD k 0 = x := ⟨_, rfl⟩
        obtain ⟨y, hy⟩ : ∃ y, b.getD k 0 = y := ⟨_, rfl⟩
        rw [hx] at hc1
        rw [hy] at hc2
        have HX := Lib.hid hx
        have HY := Lib.hid hy
        have HN := Lib.hid hn
        have HT := Lib.hid ht
        clear hx hy hn ht h1' h2'
        by_cases hxy : x = y
        · have hd : (x != y) = false := by simpa using hxy
          have HXY := Lib.hid hxy
          clear hxy
          go_wp2_with fail
          go_quiet (fail)
          go_wp2
          go_roundw
          case rel =>
            refine ⟨k + 1, by omega, by go_num, ?_, ints_take_eq hlt (by have := HL.out; omega) HT.out (by rw [HX.out, HY.out]; exact HXY.out)⟩
            obtain rfl := HN.out
            exact ⟨_, drewN_drewN _ _ _⟩
          case measure => simp [intOf]; omega
        · have hd : (x != y) = true := by simpa using hxy
          have HXY := Lib.hid hxy
          clear hxy
          go_wp2_with fail
          go_quiet (fail)
          go_wp2
          go_ret
          obtain rfl := HN.out
          refine ⟨?_, _, drewN_drewN _ _ _⟩
          have : (a == b) = false := by
            rw [beq_eq_false_iff_ne]
            intro e
            exact HXY.out (by rw [← HX.out, ← HY.out, e])
          rw [HR.out] at this
          rw [this]; rfl
      · have hkk : k = a.length := by omega
        have hge : ¬ ((k : Int) < (a.length : Nat)) := by omega
        have HK := Lib.hid hkk
        have HN := Lib.hid hn
        have HT := Lib.hid ht
        clear hkk hlt hn ht
        go_wp2
        go_ret
        obtain rfl := HN.out
        refine ⟨?_, _, rfl⟩
        have : (a == b) = true := by
          have := HT.out
          rw [HK.out, List.take_length, HL.out, List.take_length] at this
          simpa using this
        rw [HR.out] at this
        rw [this]; rfl
  · have hne : (a == b) = false := by
      rw [beq_eq_false_iff_ne]; intro e; exact hlen (by rw [e])
    rw [hne]
    have hd : ((a.length : Int) != (b.length : Int)) = true := by simp; omega
    simp only [length_ints]
    clear h1 h2 hlen hne
    go_enter Tryz.func23, Tryz.ntmps23
    go_wp2
    go_ret
    exact ⟨rfl, 0, rfl⟩

/-- A slice of bytes that came in. -/
structure Raw (w : World) (a : Option Addr) (l : List Int) : Prop where
  at_ : ∀ i, i < l.length → ∃ b off, a = some ⟨b, off, none⟩ ∧ w.cell? ⟨b, off + i, none⟩ = some (.int .u8 (l.getD i 0))
  lo : ∀ x ∈ l, 0 ≤ x ∧ x ≤ 255
  len : l.length ≤ 9223372036854775807

theorem Raw.bd {w : World} {a : Option Addr} {l : List Int} (h : Raw w a l) {i : Nat} (hi : i < l.length) : 0 ≤ l.getD i 0 ∧ l.getD i 0 ≤ 255 := by
  rw [List.getD_eq_getElem?_getD, List.getElem?_eq_getElem hi, Option.getD_some]
  exact h.lo _ (List.getElem_mem hi)

/-- The number that is taken next. -/
def taken (l : List Int) (k : Nat) (n : Int) : Int := if k < l.length then (l.getD k 0) % n else 0
theorem taken_bd (l : List Int) (k : Nat) {n : Int} (hn : 0 < n) : 0 ≤ taken l k n ∧ taken l k n < n := by
  unfold taken
  split
  · exact ⟨Int.emod_nonneg _ (by omega), Int.emod_lt_of_pos _ hn⟩
  · omega

set_option maxHeartbeats 1000000 in
theorem below_calls {w : World} {gb k : Nat} {a : Option Addr} {cap : Nat} {l : List Int} (hg : w.heap[gb]? = some (.cells #[.slice a l.length cap, .int .i64 k] 55 (0, 0))) (hR : Raw w a l) (hab : 0 < l.length → ∀ x, a = some x → x.block ≠ gb)
    (n : Int) (hn : 0 < n) (hn2 : n < 1000) (hk : k < 1000000) :
    Calls Tryz.prog 29 #[.pointer (some ⟨gb, 0, none⟩), .int .i64 n] w fun e w' => e = .returned (.int .i64 (taken l k n)) ∧
      w'.heap[gb]? = some (.cells #[.slice a l.length cap, .int .i64 ((k : Int) + 1)] 55 (0, 0)) ∧ Chg (fun b => b = gb) w w' := by
  have h0 : w.cell? ⟨gb, 0, none⟩ = some (.slice a l.length cap) := cell_of_block hg rfl
  have h1 : w.cell? ⟨gb, 1, none⟩ = some (.int .i64 k) := cell_of_block hg rfl
  have f1 := free_of_block hg 1
  have hll := hR.len
  have HG := Lib.hid hg
  clear hg
  unfold taken
  by_cases hlt : k < l.length
  · rw [if_pos hlt]
    obtain ⟨b, off, rfl, hc⟩ := hR.at_ k hlt
    have hbd := hR.bd hlt
    obtain ⟨x, hx⟩ : ∃ x, l.getD k 0 = x := ⟨_, rfl⟩
    rw [hx] at hc hbd ⊢
    obtain ⟨x1, x2⟩ := hbd
    have hne := hab (by omega) _ rfl
    have hc' : ∀ u, (w.setCell ⟨gb, 1, none⟩ u).cell? ⟨b, off + k, none⟩ = some (.int .u8 x) := fun u => by rw [World.cell?_setCell_other _ _ _ _ (by simp; intro e; exact absurd e.symm hne)]; exact hc
    have hi1 : (k : Int) + 1 - 1 = k := by omega
    have hd : ¬ ((l.length : Nat) : Int) < (k : Int) + 1 := by omega
    have hlt' : (k : Int) < (l.length : Nat) := by omega
    have HX := Lib.hid hx
    have HC := Lib.hid (hc' (.int .i64 ((k : Int) + 1)))
    clear hx hc hab hne hc' hR
    go_enter Tryz.func29, Tryz.ntmps29
    go_wp2_with fail
    go_quiet (fail)
    have hcc := HC.out
    go_wp2_with fail
    go_quiet (fail)
    go_wp2
    go_ret
    refine ⟨rfl, ?_, Chg.drewN (Chg.drewN (Chg.setCell (F := fun b => b = gb) (Chg.refl _ _) (fun _ => rfl) _) _) _⟩
    show (w.setCell ⟨gb, 1, none⟩ _).heap[gb]? = _
    rw [heap_setCell_at HG.out]; rfl
  · rw [if_neg hlt]
    have hd : ((l.length : Nat) : Int) < (k : Int) + 1 := by omega
    clear hlt
    go_enter Tryz.func29, Tryz.ntmps29
    go_wp2_with fail
    go_quiet (fail)
    go_wp2
    go_ret
    refine ⟨rfl, ?_, Chg.drewN (Chg.setCell (F := fun b => b = gb) (Chg.refl _ _) (fun _ => rfl) _) _⟩
    show (w.setCell ⟨gb, 1, none⟩ _).heap[gb]? = _
    rw [heap_setCell_at HG.out]; rfl
end Go.Proofs.YtlfbommppenlcaaGreatDoor
