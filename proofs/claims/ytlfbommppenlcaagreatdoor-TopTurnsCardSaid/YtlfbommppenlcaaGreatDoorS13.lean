/- The scheduler's call Resume, of a short list. Conditions: a scheduler lies there; its queues are short; the list lies apart from it. -/
import Derived.Test.YtlfbommppenlcaaGreatDoorS12
namespace Go.Proofs.YtlfbommppenlcaaGreatDoor
open Go.RowKit Go.Mem

theorem Sl.take {w : World} {g n cap : Nat} {l : List Int} (h : Sl w 3 (.slice (some ⟨g, 0, none⟩) n cap) (ints l)) (k : Nat) (hk : k ≤ l.length) : Sl w 3 (.slice (some ⟨g, 0, none⟩) k cap) (ints (l.take k)) := by
  rcases h.cases with ⟨hv, _⟩ | ⟨g', cap', cur, hv, hg, h1, h2, h3, h4⟩
  · cases hv
  · cases hv
    have e : (ints (l.take k)).length = k := by simp; omega
    have := Sl.mk (l := ints (l.take k)) (cur := cur) (cap := cap) hg (by rw [e]; simp at h1; omega) h2 h3 (by
      rw [e]
      have h5 : (cur.toList.take (ints l).length).take k = (ints l).take k := by rw [h4]
      rw [List.take_take, Nat.min_eq_left (by simp; omega)] at h5
      rw [h5]; simp [ints, List.map_take])
    rw [e] at this
    exact this

theorem fits_snoc (S : St) : ∀ (l before : List Int) (p : Int), S.fits before (l ++ [p]) = (S.fits before l && (S.isIdle p && !((before ++ l).contains p)))
  | [], before, p => by simp [St.fits]
  | q :: l, before, p => by
    simp only [List.cons_append, St.fits]
    rw [fits_snoc S l (before ++ [q]) p]
    simp [Bool.and_assoc]
theorem take_snoc_int (l : List Int) (k : Nat) (hk : k < l.length) : l.take (k + 1) = l.take k ++ [l.getD k 0] := by
  rw [List.take_succ_eq_append_getElem hk]; simp [List.getD, hk]
theorem fits_prefix (S : St) : ∀ (l m before : List Int), S.fits before (l ++ m) = true → S.fits before l = true
  | [], _, _, _ => rfl
  | q :: l, m, before, h => by
    simp only [List.cons_append, St.fits, Bool.and_eq_true] at h ⊢
    exact ⟨h.1, fits_prefix S l m _ h.2⟩

theorem prior_makes (l : List Int) (S : St) : (l.foldl St.make S).prior = S.prior := by
  induction l generalizing S with
  | nil => rfl
  | cons p l ih => simp [List.foldl_cons, ih]

set_option maxRecDepth 100000 in
set_option maxHeartbeats 2000000 in
theorem resume_none {w : World} {sb : Nat} {F : Nat → Prop} {S : St} {N g cap : Nat} {l : List Int} (hA : SchAt w sb F S) (hW : S.WF N) (hS : Sl w 3 (.slice (some ⟨g, 0, none⟩) l.length cap) (ints l)) (hl : l.length < 1000) (hall : l.all S.has = false) :
    Calls Tryz.prog 56 #[.pointer (some ⟨sb, 0, none⟩), .slice (some ⟨g, 0, none⟩) l.length cap] w fun e w' => e = .returned (.int .i64 4) ∧ w = w' := by
  have hcell : ∀ k, k < l.length → w.cell? ⟨g, k, none⟩ = some (.int .i64 (l.getD k 0)) := by
    intro k hk
    obtain ⟨_, _, _, cur, hg, _, ht⟩ := Sl.ints_cells hS
    have := cells_of_ints hg ht k hk
    rw [Nat.zero_add] at this
    exact this
  have HC := Lib.hid hcell
  have HA := Lib.hid hall
  clear hcell hall
  go_enter Tryz.func56, Tryz.ntmps56
  go_wp2
  go_step3
  go_wp2
  go_loop [7, 16] (fun _ i => ∃ k : Nat, k ≤ l.length ∧ i = .int .i64 k ∧ (l.take k).all S.has = true) (fun _ i => l.length - (intOf i).toNat)
  case atStart => exact ⟨0, Nat.zero_le _, rfl, by simp⟩
  case round =>
    obtain ⟨k, hk, rfl, hk2⟩ := hrel
    have HK2 := Lib.hid hk2
    clear hk2
    by_cases hlt : k < l.length
    · have hc := HC.out k hlt
      have hlt' : (k : Int) < (l.length : Nat) := by omega
      obtain ⟨p, hp⟩ : ∃ p, l.getD k 0 = p := ⟨_, rfl⟩
      rw [hp] at hc
      have HP := Lib.hid hp
      clear hp
      go_wp2_with fail
      refine (has_calls hA p hW.pl).mono ?_
      by_cases hh : S.has p = true
      · rw [hh]
        rintro e w' ⟨rfl, rfl⟩
        have HH := Lib.hid hh
        clear hh
        go_wp2
        go_round
        case rel => exact ⟨k + 1, by omega, by go_num, by rw [take_snoc_int l k hlt, List.all_append, HK2.out, HP.out]; simp [HH.out]⟩
        case measure => simp [intOf]; omega
      · have hh' : S.has p = false := by simpa using hh
        rw [hh']
        rintro e w' ⟨rfl, rfl⟩
        clear hh hh'
        go_wp2
        rw [Exit.noGoto_ret]
        go_ret
        exact ⟨rfl, rfl⟩
    · exfalso
      have : k = l.length := by omega
      have h1 := HK2.out
      rw [this, List.take_length, HA.out] at h1
      cases h1

theorem contains_take {w : World} {g n cap : Nat} {l : List Int} (hS : Sl w 3 (.slice (some ⟨g, 0, none⟩) n cap) (ints l)) (k : Nat) (hk : k ≤ l.length) (p : Int) :
    Calls Tryz.prog 89 #[.slice (some ⟨g, 0, none⟩) k cap, .int .i64 p] w fun e w' => e = .returned (.bool ((l.take k).contains p)) ∧ w = w' := sl_contains p (Sl.take hS k hk)

set_option maxRecDepth 100000 in
set_option maxHeartbeats 4000000 in
theorem resume_all {w : World} {sb : Nat} {F : Nat → Prop} {S : St} {N g cap : Nat} {l : List Int} (hA : SchAt w sb F S) (hW : S.WF N) (hN : N + 2 * l.length < 100000) (hS : Sl w 3 (.slice (some ⟨g, 0, none⟩) l.length cap) (ints l)) (hgF : ¬ F g) (hl : l.length < 1000) (hall : l.all S.has = true) :
    Calls Tryz.prog 56 #[.pointer (some ⟨sb, 0, none⟩), .slice (some ⟨g, 0, none⟩) l.length cap] w fun e w' => e = .returned (.int .i64 (if S.fits [] l = true then 0 else 2)) ∧ Makes w sb F (if S.fits [] l = true then l.foldl St.make S else S) w' := by
  have hcell : ∀ k, k < l.length → w.cell? ⟨g, k, none⟩ = some (.int .i64 (l.getD k 0)) := by
    intro k hk
    obtain ⟨_, _, _, cur, hg, _, ht⟩ := Sl.ints_cells hS
    have := cells_of_ints hg ht k hk
    rw [Nat.zero_add] at this
    exact this
  have hhas : ∀ k, k < l.length → S.has (l.getD k 0) = true := by
    intro k hk
    rw [List.getD_eq_getElem?_getD, List.getElem?_eq_getElem hk, Option.getD_some]
    exact List.all_eq_true.1 hall _ (List.getElem_mem hk)
  have hgl : g < w.heap.size := hS.lt rfl
  have hcap : l.length ≤ cap := by
    obtain ⟨_, h1, _⟩ := Sl.ints_cells hS
    exact h1
  have HC := Lib.hid hcell
  have HH := Lib.hid hhas
  have HG := Lib.hid hgF
  have HS := Lib.hid hS
  clear hcell hall hhas hgF hS
  obtain ⟨fz, hfz⟩ : ∃ b : Bool, S.fits [] l = b := ⟨_, rfl⟩
  rw [hfz]
  have HF := Lib.hid hfz
  clear hfz
  cases fz
  · simp only [Bool.false_eq_true, if_false]
    go_enter Tryz.func56, Tryz.ntmps56
    go_wp2
    go_step3
    go_wp2
    go_loop [7, 16] (fun _ i => ∃ k : Nat, k ≤ l.length ∧ i = .int .i64 k) (fun _ i => l.length - (intOf i).toNat)
    case atStart => exact ⟨0, Nat.zero_le _, rfl⟩
    case round =>
      obtain ⟨k, hk, rfl⟩ := hrel
      by_cases hlt : k < l.length
      · have hc := HC.out k hlt
        have hlt' : (k : Int) < (l.length : Nat) := by omega
        have hh := HH.out k hlt
        obtain ⟨p, hp⟩ : ∃ p, l.getD k 0 = p := ⟨_, rfl⟩
        rw [hp] at hc hh
        have HHp := Lib.hid hh
        clear hp hh
        go_wp2_with fail
        refine (has_calls hA p hW.pl).mono ?_
        rw [HHp.out]
        rintro e w' ⟨rfl, rfl⟩
        go_wp2
        go_round
        case rel => exact ⟨k + 1, by omega, by go_num⟩
        case measure => simp [intOf]; omega
      · have hge : ¬ ((k : Int) < (l.length : Nat)) := by omega
        clear hlt
        go_wp2
        apply wp_label
        go_wp2
        go_loop [5, 8, 9, 27] (fun e _ _ i => ∃ k : Nat, k ≤ l.length ∧ i = .int .i64 k ∧ e = .int .i64 0 ∧ S.fits [] (l.take k) = true) (fun _ _ _ i => l.length - (intOf i).toNat)
        case atStart => exact ⟨0, Nat.zero_le _, rfl, rfl, by simp [St.fits]⟩
        case round =>
          obtain ⟨k, hk, rfl, rfl, hk2⟩ := hrel
          have HK2 := Lib.hid hk2
          clear hk2
          by_cases hlt : k < l.length
          · have hc := HC.out k hlt
            have hlt' : (k : Int) < (l.length : Nat) := by omega
            have hh := HH.out k hlt
            obtain ⟨p, hp⟩ : ∃ p, l.getD k 0 = p := ⟨_, rfl⟩
            rw [hp] at hc hh
            simp only [St.has, Bool.and_eq_true, decide_eq_true_eq] at hh
            obtain ⟨hp1, hp2⟩ := hh
            have hil := hW.il
            obtain ⟨g1, cap1, hi1, hi2, _, _⟩ := hA.idleAt (p := p) hp1 (by omega)
            have b1 : p - 1 < (S.idle.length : Int) := by omega
            have hpl := hW.pl
            have HP := Lib.hid hp
            have hkc : (k : Int) ≤ cap := by omega
            have hsn := fits_snoc S (l.take k) [] p
            rw [← hp, ← take_snoc_int l k hlt, hp, HK2.out] at hsn
            simp only [Bool.true_and, List.nil_append] at hsn
            have HSN := Lib.hid hsn
            clear hp hil hsn
            cases hidl : S.isIdle p
            · rw [hidl] at hi2
              have HID := Lib.hid hidl
              clear hidl
              go_wp2
              go_ret
              exact ⟨rfl, F, hA, Goes.refl _ _⟩
            · rw [hidl] at hi2
              have HID := Lib.hid hidl
              clear hidl
              have hct := contains_take HS.out k hk p
              cases hcon : (l.take k).contains p
              · rw [hcon] at hct
                have HCT := Lib.hid hct
                have HCN := Lib.hid hcon
                clear hct hcon
                go_wp2_with fail
                refine HCT.out.mono ?_
                rintro e w' ⟨rfl, rfl⟩
                go_wp2
                go_round
                case rel =>
                  refine ⟨k + 1, by omega, by go_num, rfl, ?_⟩
                  rw [HSN.out, HID.out, HCN.out]; rfl
                case measure => simp [intOf]; omega
              · rw [hcon] at hct
                have HCT := Lib.hid hct
                clear hct hcon
                go_wp2_with fail
                refine HCT.out.mono ?_
                rintro e w' ⟨rfl, rfl⟩
                go_wp2
                rw [Exit.noGoto_ret]
                go_ret
                exact ⟨rfl, F, hA, Goes.refl _ _⟩
          · exfalso
            have : k = l.length := by omega
            have h1 := HK2.out
            rw [this, List.take_length, HF.out] at h1
            cases h1
  · simp only [if_true]
    go_enter Tryz.func56, Tryz.ntmps56
    go_wp2
    go_step3
    go_wp2
    go_loop [7, 16] (fun _ i => ∃ k : Nat, k ≤ l.length ∧ i = .int .i64 k) (fun _ i => l.length - (intOf i).toNat)
    case atStart => exact ⟨0, Nat.zero_le _, rfl⟩
    case round =>
      obtain ⟨k, hk, rfl⟩ := hrel
      by_cases hlt : k < l.length
      · have hc := HC.out k hlt
        have hlt' : (k : Int) < (l.length : Nat) := by omega
        have hh := HH.out k hlt
        obtain ⟨p, hp⟩ : ∃ p, l.getD k 0 = p := ⟨_, rfl⟩
        rw [hp] at hc hh
        have HHp := Lib.hid hh
        clear hp hh
        go_wp2_with fail
        refine (has_calls hA p hW.pl).mono ?_
        rw [HHp.out]
        rintro e w' ⟨rfl, rfl⟩
        go_wp2
        go_round
        case rel => exact ⟨k + 1, by omega, by go_num⟩
        case measure => simp [intOf]; omega
      · have hge : ¬ ((k : Int) < (l.length : Nat)) := by omega
        clear hlt
        go_wp2
        apply wp_label
        go_wp2
        go_loop [5, 8, 9, 27] (fun e _ _ i => ∃ k : Nat, k ≤ l.length ∧ i = .int .i64 k ∧ e = .int .i64 0 ∧ S.fits [] (l.take k) = true) (fun _ _ _ i => l.length - (intOf i).toNat)
        case atStart => exact ⟨0, Nat.zero_le _, rfl, rfl, by simp [St.fits]⟩
        case round =>
          obtain ⟨k, hk, rfl, rfl, hk2⟩ := hrel
          have HK2 := Lib.hid hk2
          clear hk2
          by_cases hlt : k < l.length
          · have hc := HC.out k hlt
            have hlt' : (k : Int) < (l.length : Nat) := by omega
            have hh := HH.out k hlt
            obtain ⟨p, hp⟩ : ∃ p, l.getD k 0 = p := ⟨_, rfl⟩
            rw [hp] at hc hh
            simp only [St.has, Bool.and_eq_true, decide_eq_true_eq] at hh
            obtain ⟨hp1, hp2⟩ := hh
            have hil := hW.il
            obtain ⟨g1, cap1, hi1, hi2, _, _⟩ := hA.idleAt (p := p) hp1 (by omega)
            have b1 : p - 1 < (S.idle.length : Int) := by omega
            have hpl := hW.pl
            have HP := Lib.hid hp
            have hkc : (k : Int) ≤ cap := by omega
            have hsn := fits_snoc S (l.take k) [] p
            rw [← hp, ← take_snoc_int l k hlt, hp, HK2.out] at hsn
            simp only [Bool.true_and, List.nil_append] at hsn
            have HSN := Lib.hid hsn
            clear hp hil hsn
            have hfk : S.fits [] (l.take (k + 1)) = true := by
              have := HF.out
              rw [← List.take_append_drop (k + 1) l] at this
              exact fits_prefix S _ _ _ this
            have hsn := HSN.out
            rw [hfk] at hsn
            have hsn' := hsn.symm
            simp only [Bool.and_eq_true, Bool.not_eq_true'] at hsn'
            obtain ⟨hidl, hcon⟩ := hsn'
            rw [hidl] at hi2
            have hct := contains_take HS.out k hk p
            rw [hcon] at hct
            have HCT := Lib.hid hct
            have HFK := Lib.hid hfk
            clear hct hcon hidl hsn hfk
            go_wp2_with fail
            refine HCT.out.mono ?_
            rintro e w' ⟨rfl, rfl⟩
            go_wp2
            go_round
            case rel => exact ⟨k + 1, by omega, by go_num, rfl, HFK.out⟩
            case measure => simp [intOf]; omega
          · have hge2 : ¬ ((k : Int) < (l.length : Nat)) := by omega
            clear hlt
            go_wp2
            go_loopw [11, 54] (fun _ i wr => ∃ k : Nat, k ≤ l.length ∧ i = .int .i64 k ∧ ∃ F', SchAt wr sb F' ((l.take k).foldl St.make S) ∧ ((l.take k).foldl St.make S).WF (N + 2 * k) ∧ Goes F F' w wr) (fun _ i _ => l.length - (intOf i).toNat)
            case atStart => exact ⟨0, Nat.zero_le _, rfl, F, by simpa using hA, by simpa using hW, Goes.refl _ _⟩
            case round =>
              obtain ⟨k, hk, rfl, F', hA', hW', hG'⟩ := hrel
              by_cases hlt : k < l.length
              · have hc : wr.cell? ⟨g, k, none⟩ = some (.int .i64 (l.getD k 0)) := (hG'.chg.cell hgl HG.out).trans (HC.out k hlt)
                have hlt' : (k : Int) < (l.length : Nat) := by omega
                have hh := HH.out k hlt
                obtain ⟨p, hp⟩ : ∃ p, l.getD k 0 = p := ⟨_, rfl⟩
                rw [hp] at hc hh
                simp only [St.has, Bool.and_eq_true, decide_eq_true_eq] at hh
                obtain ⟨hp1, hp2⟩ := hh
                have HP := Lib.hid hp
                clear hp
                go_wp2_with fail
                refine (make_calls hA' hW' (by omega) p hp1 (by rw [prior_makes]; exact hp2)).mono ?_
                rintro e w3 ⟨rfl, F3, hA3, hG3⟩
                have hfold : (l.take (k + 1)).foldl St.make S = ((l.take k).foldl St.make S).make p := by rw [take_snoc_int l k hlt, HP.out, List.foldl_append]; rfl
                have HFO := Lib.hid hfold
                clear hc hfold
                go_wp2
                go_roundw
                case rel =>
                  refine ⟨k + 1, by omega, by go_num, F3, by rw [HFO.out]; exact hA3, ?_, hG'.trans hG3⟩
                  rw [HFO.out]
                  exact (hW'.make hp1 (by rw [prior_makes]; exact hp2)).mono (by omega)
                case measure => simp [intOf]; omega
              · have hkk : k = l.length := by omega
                have hge3 : ¬ ((k : Int) < (l.length : Nat)) := by omega
                rw [hkk, List.take_length] at hA'
                clear hkk hlt hW'
                go_wp2
                go_ret
                exact ⟨rfl, F', hA', hG'⟩

theorem resume_calls {w : World} {sb : Nat} {F : Nat → Prop} {S : St} {N g cap : Nat} {l : List Int} (hA : SchAt w sb F S) (hW : S.WF N) (hN : N + 2 * l.length < 100000) (hS : Sl w 3 (.slice (some ⟨g, 0, none⟩) l.length cap) (ints l)) (hgF : ¬ F g) (hl : l.length < 1000) :
    Calls Tryz.prog 56 #[.pointer (some ⟨sb, 0, none⟩), .slice (some ⟨g, 0, none⟩) l.length cap] w fun e w' => e = .returned (.int .i64 (S.resume l).1) ∧ Makes w sb F (S.resume l).2 w' := by
  unfold St.resume
  cases hall : l.all S.has
  · simp only [Bool.false_eq_true, if_false]
    refine (resume_none hA hW hS hl hall).mono fun e w' ⟨h1, h2⟩ => ?_
    subst h2
    exact ⟨h1, F, hA, Goes.refl _ _⟩
  · simp only [if_true]
    refine (resume_all hA hW hN hS hgF hl hall).mono fun e w' h => ?_
    cases hf : S.fits [] l <;> simp only [hf, if_true, Bool.false_eq_true, if_false] at h ⊢ <;> exact h
end Go.Proofs.YtlfbommppenlcaaGreatDoor
