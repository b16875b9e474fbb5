/- Small functions of the scheduler on paper: without, there, next. Conditions: it lies in memory; lengths are bounded. -/
import Derived.Test.YtlfbommppenlcaaGreatDoorB0
import Derived.Test.YtlfbommppenlcaaGreatDoorP4
import Derived.Deep.RegionLaw
import Derived.Deep.DeepCutAuto
namespace Go.Proofs.YtlfbommppenlcaaGreatDoor
open Go.RowKit Go.Mem
namespace Ben

theorem without_take {zs : List Int} {k : Int} {i : Nat} (h : i < zs.length) : Bn.without (zs.take (i + 1)) k = if zs.getD i 0 = k then Bn.without (zs.take i) k else Bn.without (zs.take i) k ++ [zs.getD i 0] := by
  have e : zs.take (i + 1) = zs.take i ++ [zs.getD i 0] := by
    rw [List.take_add_one, List.getD_eq_getElem?_getD, List.getElem?_eq_getElem h]; rfl
  rw [e]
  unfold Bn.without
  rw [List.filter_append]
  obtain ⟨x, hx0⟩ : ∃ x, zs.getD i 0 = x := ⟨_, rfl⟩
  rw [hx0]
  by_cases hx : x = k
  · rw [if_pos hx]; simp [hx]
  · rw [if_neg hx]
    congr 1
    simp only [List.filter_cons, List.filter_nil]
    rw [if_pos (by simpa using hx)]

theorem without_calls {w : World} {a : Option Addr} {cap : Nat} {zs : List Int} (k : Int) (hS : Sl w 3 (.slice a zs.length cap) (ints zs)) (hz : zs.length < 1000000) :
    Calls Tryz.prog 63 #[.slice a zs.length cap, .int .i64 k] w fun e w' => ∃ v', e = .returned v' ∧ Fresh w (Bn.without zs k) v' w' := by
  have HS := Lib.hid hS
  clear hS
  go_enter Tryz.func63, Tryz.ntmps63
  go_wp2
  go_loopw [5, 7, 10] (fun v _ i wr => ∃ j : Nat, j ≤ zs.length ∧ i = .int .i64 j ∧ Fresh w (Bn.without (zs.take j) k) v wr) (fun _ _ i _ => zs.length - (intOf i).toNat)
  case atStart => exact ⟨0, Nat.zero_le _, rfl, Sl.nil _ _, Below.refl _ _, fun g hg => by simp [Value.ownBlock] at hg⟩
  case round =>
    obtain ⟨j, hj, rfl, hF⟩ := hrel
    have HF := Lib.hid hF
    clear hF
    by_cases hlt : j < zs.length
    · have hlt' : (j : Int) < (zs.length : Nat) := by omega
      have hSr : Sl wr 3 (.slice a zs.length cap) (ints zs) := HS.out.kept fun g hg => HF.out.2.1.block g (HS.out.lt hg)
      obtain ⟨g, ea, hc⟩ := Sl.int_at hSr hlt
      subst ea
      obtain ⟨x, hx⟩ : ∃ x, zs.getD j 0 = x := ⟨_, rfl⟩
      rw [hx] at hc
      have HX := Lib.hid hx
      clear hx hSr
      by_cases hxk : x = k
      · subst hxk
        have hd : (x != x) = false := by simp
        go_wp2
        go_roundw
        case rel =>
          refine ⟨j + 1, by omega, by go_num, ?_⟩
          rw [without_take hlt, if_pos HX.out]
          exact HF.out
        case measure => simp [intOf]; omega
      · have hd : (x != k) = true := by simpa using hxk
        have HXK := Lib.hid hxk
        clear hxk
        have hll : (Bn.without (zs.take j) k).length ≤ j := Nat.le_trans (without_len _ _) (by simp; omega)
        go_wp2_with (at_builtin; go_must (refine wpList_push rfl _ _ 28 3 rfl (.int .i64 0) 8 Tryz.underlying28 info3 rfl _ (ints (Bn.without (zs.take j) k)) rfl (Sl.chg HF.out.1 ((Chg.refl (fun _ => False) wr).alloc _) (fun _ _ h => h)) wr.heap.size (.int .i64 x) rfl (by simp) rfl (by simp; omega) ?_))
        intro g' cap' w1 hS1 hC1 hloc
        have HS1 := Lib.hid hS1
        have HC1 := Lib.hid hC1
        have HL := Lib.hid hloc
        clear hS1 hC1 hloc hc
        go_wp2
        go_roundw
        case rel =>
          refine ⟨j + 1, by omega, by go_num, ?_⟩
          rw [without_take hlt, HX.out, if_neg HXK.out]
          have hb : Below w.heap.size w w1 := by
            have b1 := HF.out.2.1.alloc HF.out.2.1.size (.cells #[.int .i64 x] 3)
            refine b1.trans (HC1.out.below b1.size fun b hb e => ?_)
            have := HF.out.2.2 b e.symm
            omega
          refine ⟨?_, hb, fun b hb' => ?_⟩
          · rw [ints_append]; exact HS1.out
          · have e : g' = b := by simpa [Value.ownBlock] using hb'
            subst e
            rcases HL.out with h | h
            · exact HF.out.2.2 _ h
            · have := HF.out.2.1.size
              rw [h]; simp; omega
        case measure => simp [intOf]; omega
    · have hge : ¬ (j : Int) < (zs.length : Nat) := by omega
      have ej : j = zs.length := by omega
      subst ej
      clear hlt
      go_wp2
      go_ret
      have := HF.out
      rw [List.take_length] at this
      exact ⟨_, rfl, this⟩

/-- append of a row's part to a slice that owns its row, as a step of a region. -/
theorem step_cat {P : Program} {w : World} {ops : Array Oper} {o : Oper} {a : Act} {K : Act → World → Prop} {Q : Exit → Act → World → Prop} {E : Prop} (hgd : o.guard = none) (s x : Operand) (t e : TypeId)
    (ho : o.op = .call { callee := .builtin .append, args := #[s, x], argTypes := #[t, t] })
    (z : Value) (bytes : Nat) (ht : P.underlying t = some (.slice e)) (hi : (P.info? e).map (fun i => (i.zero, i.size, i.bytes)) = some (some z, 1, bytes)) (hzs : z.cells.size = 1)
    {v : Value} (l : List Value) {n : Nat} (hn : l.length = n) (hs : a.eval s = v) (hS : Sl w e v l) (xa : Addr) (m c : Nat) (ns : List Value) (hm : ns.length = m) (hx : a.eval x = .slice (some xa) m c)
    (hu : ∀ j u, ns[j]? = some u → w.cell? (xa.add j) = some u) (h1 : ∀ u ∈ ns, u.oneCell' = true) (hlen : (n + m) * (bytes + 1) ≤ 140737488355328)
    (h : ∀ a' cap' w', Sl w' e (.slice a' (n + m) cap') (l ++ ns) → Chg (fun k => some k = v.ownBlock) w w' → (∀ g, (Value.slice a' (n + m) cap').ownBlock = some g → v.ownBlock = some g ∨ g = w.heap.size) → K (a.put o.dst (.slice a' (n + m) cap')) w') :
    if Region.wanted o (yielded ops a.tmps) = true then Oper.wp P o a w K Q else E := by
  subst hn hm
  have hw : Region.wanted o (yielded ops a.tmps) = true := by simp [Region.wanted, hgd]
  rw [if_pos hw]
  obtain ⟨i0, hi0, hz0, hz1, hz2⟩ := info_parts hi
  have hb : (l.length + ns.length) * (bytes + 1) = (l.length + ns.length) * bytes + (l.length + ns.length) := by rw [Nat.mul_add, Nat.mul_one]
  obtain ⟨v', w', hr, h2, h3, h4, h5⟩ := run_append_own_at (P := P) w 0 t o.type e i0 z 1 bytes ht hi0 hz0 hz1 hz2 hzs (by decide) v l.length l hS xa ns.length c ns (by simp) hu h1 (by unfold maxLen; omega) (by omega) (Nat.zero_le _)
  unfold Oper.wp execOp
  simp only [ho, resolve, invoke, builtin, Sem.run_bind, Sem.run_pure, Result.andThen_ok, List.map_toArray, List.map_cons, List.map_nil, hs, hx, hr]
  have hS' : Sl w' e v' (l ++ ns) := by unfold Sl; simpa using h2
  obtain ⟨a', cap', hv'⟩ := hS'.shape
  rw [List.length_append] at hv'
  subst hv'
  refine h a' cap' w' hS' (Chg.of_grown h3) fun g hg => ?_
  rcases h5 with h1 | h1
  · exact .inl (h1.symm.trans hg)
  · exact .inr (Option.some.inj (hg.symm.trans h1))

theorem BenAt.actCell {w : World} {bb : Nat} {F : Nat → Prop} {B : Bn} (h : BenAt w bb F B) : w.cell? ⟨bb, 10, none⟩ = some (.int .i64 B.active) ∧ w.frozen? ⟨bb, 10, none⟩ = false := by
  obtain ⟨tag, qs, c, h, _⟩ := h
  exact ⟨cell_of_block h.hdr h.act, free_of_block h.hdr 10⟩
theorem BenAt.setAct {w : World} {bb : Nat} {F : Nat → Prop} {B : Bn} (h : BenAt w bb F B) (a : Int) : BenAt (w.setCell ⟨bb, 10, none⟩ (.int .i64 a)) bb F { B with active := a } := by
  obtain ⟨tag, qs, c, h, hF⟩ := h
  exact ⟨tag, qs, _, h.setAct a, hF⟩
theorem BenAt.goes_set {w : World} {bb : Nat} {F : Nat → Prop} {B : Bn} (h : BenAt w bb F B) (o : Nat) (u : Value) : Goes F F w (w.setCell ⟨bb, o, none⟩ u) :=
  ⟨(Chg.refl _ _).setCell (fun _ => h.mem) _, fun _ h => .inl h⟩
theorem Bm.ready {w : World} {bb : Nat} {tag : Nat → Option Bt} {B : Bn} {qs : List Value} {c : Array Value} (h : Bm w bb tag B qs c) {k : Nat} (hk : k < 9) :
    ∃ v, c[1 + k]? = some v ∧ Sl w 3 v (ints (B.ready k)) ∧ v.ownBlock ≠ some bb ∧ w.cell? ⟨bb, 1 + k, none⟩ = some v := by
  obtain ⟨v, h1, h2, h3⟩ := h.fld (1 + k) (by omega) (by omega)
  have e : B.fld qs (1 + k) = ints (B.ready k) := by unfold Bn.fld; rw [if_neg (by omega), if_neg (by omega), if_neg (by omega)]; congr 2; omega
  have e2 : bty (1 + k) = 3 := by unfold bty; rw [if_neg (by omega), if_neg (by omega)]
  have h2' := h2.sl (by omega)
  rw [e, e2] at h2'
  exact ⟨v, h1, h2', fun x => (by have := h3 bb x; rw [h.htag] at this; cases this), cell_of_block h.hdr h1⟩

theorem bty_ready {k : Nat} (hk : k < 9) : bty (1 + k) = 3 := by unfold bty; rw [if_neg (by omega), if_neg (by omega)]
theorem fld_ready' (B : Bn) (qs : List Value) {k : Nat} (hk : k < 9) : B.fld qs (1 + k) = ints (B.ready k) := by
  unfold Bn.fld; rw [if_neg (by omega), if_neg (by omega), if_neg (by omega)]; congr 2; omega
theorem Own.ready {w : World} {B : Bn} {qs : List Value} {k : Nat} (hk : k < 9) {v : Value} (h : Sl w 3 v (ints (B.ready k))) : Own w (1 + k) v (B.fld qs (1 + k)) := by
  rw [fld_ready' B qs hk]
  exact Own.of_sl (by omega) (by rw [bty_ready hk]; exact h)
theorem fld_rdy_ne (B : Bn) (qs : List Value) (k : Nat) (l : List Int) {i : Nat} (hne : i ≠ 1 + k) : (B.rdy k l).fld qs i = B.fld qs i := by
  unfold Bn.fld
  split
  · rfl
  · split
    · rfl
    · split
      · rfl
      · rename_i h0 _ _
        show ints (upd B.ready k l (i - 1)) = _
        rw [upd_ne _ _ (by omega)]

/-- A ready row's slice is another one. -/
theorem Bm.updReady {w w' : World} {bb : Nat} {tag : Nat → Option Bt} {B : Bn} {qs : List Value} {c : Array Value} {F : Nat → Prop} (h : Bm w bb tag B qs c) (hF : ∀ k, F k ↔ tag k ≠ none) {k : Nat} (hk : k < 9) {v v' : Value} {l : List Int}
    (hv : c[1 + k]? = some v) (hhdr : w'.heap[bb]? = some (.cells (c.setIfInBounds (1 + k) v') 32 (0, 0))) (hS : Sl w' 3 v' (ints l))
    (hC : Chg (fun b => b = bb ∨ some b = v.ownBlock) w w') (hN : ∀ g, v'.ownBlock = some g → v.ownBlock = some g ∨ w.heap.size ≤ g) : BMakes w bb F (B.rdy k l) w' := by
  obtain ⟨v0, e0, _, t0⟩ := h.fld (1 + k) (by omega) (by omega)
  obtain rfl : v0 = v := Option.some.inj (e0.symm.trans hv)
  obtain ⟨tag', h', hold⟩ := h.upd (B' := B.rdy k l) (qs' := qs) (j := 1 + k) (by omega) (by omega) hv hhdr (Own.ready hk (by show Sl w' 3 v' (ints (Go.Proofs.YtlfbommppenlcaaGreatDoor.upd B.ready k l k)); rw [upd_same]; exact hS)) hC hN
    (fun i _ _ hne => fld_rdy_ne B qs k l hne) rfl h.len (fun k q hq => .inl ⟨hq, rfl⟩)
  refine BMakes.of_bm hF ⟨tag', qs, _, h', hold⟩ (hC.mono fun b hb hx => (hF b).2 ?_)
  rcases hx with rfl | e
  · rw [h.htag]; simp
  · rw [t0 b e.symm]; simp

/-- A ready row is built anew, or appended to, and stored. -/
theorem Bm.readyFin {w wA w2 : World} {bb : Nat} {tag : Nat → Option Bt} {B : Bn} {qs : List Value} {c : Array Value} {F : Nat → Prop} (h : Bm w bb tag B qs c) (hF : ∀ k, F k ↔ tag k ≠ none) {k : Nat} (hk : k < 9) {u v v' : Value} {l : List Int}
    (hv : c[1 + k]? = some v) (hA : Chg (fun _ => False) w wA) (hu : ∀ g, u.ownBlock = some g → v.ownBlock = some g ∨ w.heap.size ≤ g) (hne : u.ownBlock ≠ some bb) (hC : Chg (fun b => some b = u.ownBlock) wA w2)
    (hb : w2.heap[bb]? = some (.cells c 32 (0, 0))) (hS : Sl w2 3 v' (ints l)) (hl : ∀ g, v'.ownBlock = some g → u.ownBlock = some g ∨ g = wA.heap.size) :
    BMakes w bb F (B.rdy k l) (w2.setCell ⟨bb, 1 + k, none⟩ v') := by
  have hbl := lt_of_block h.hdr
  have hsz := hA.size
  refine h.updReady hF hk hv (heap_setCell_at hb) (hS.kept fun g hg => heap_setCell_ne ?_) ?_ fun g hg => ?_
  · show g ≠ bb
    rcases hl g hg with e | e
    · rintro rfl; exact hne e
    · omega
  · refine Chg.setCell ((hA.mono (fun _ _ x => x.elim)).trans hC fun i hi e => ?_) (fun _ => .inl rfl) _
    rcases hu i e.symm with e | e
    · exact .inr e.symm
    · omega
  · rcases hl g hg with e | e
    · exact hu g e
    · exact .inr (by omega)
/-- A process' state is another one. -/
theorem Bm.setState {w : World} {bb : Nat} {tag : Nat → Option Bt} {B : Bn} {qs : List Value} {c : Array Value} (h : Bm w bb tag B qs c) {g n cap k : Nat} (hv : c[0]? = some (.slice (some ⟨g, 0, none⟩) n cap)) {x : Pr} (hx : B.l[k]? = some x) (s : Int) :
    Bm (w.setCell ⟨g, k * 3 + 1, none⟩ (.int .i64 s)) bb tag { B with l := B.l.set k ⟨x.prior, s, x.sem⟩ } qs c :=
  h.setElem (B' := { B with l := B.l.set k ⟨x.prior, s, x.sem⟩ }) (j := 0) (by omega) (by omega) hv _ _ (pcells_state hx s).symm (fun i _ _ hne => by unfold Bn.fld; rw [if_neg hne, if_neg hne]) rfl rfl
theorem Bm.setSem {w : World} {bb : Nat} {tag : Nat → Option Bt} {B : Bn} {qs : List Value} {c : Array Value} (h : Bm w bb tag B qs c) {g n cap k : Nat} (hv : c[0]? = some (.slice (some ⟨g, 0, none⟩) n cap)) {x : Pr} (hx : B.l[k]? = some x) (s : Int) :
    Bm (w.setCell ⟨g, k * 3 + 2, none⟩ (.int .i64 s)) bb tag { B with l := B.l.set k ⟨x.prior, x.state, s⟩ } qs c :=
  h.setElem (B' := { B with l := B.l.set k ⟨x.prior, x.state, s⟩ }) (j := 0) (by omega) (by omega) hv _ _ (pcells_sem hx s).symm (fun i _ _ hne => by unfold Bn.fld; rw [if_neg hne, if_neg hne]) rfl rfl
/-- The processes' row. -/
theorem Bm.procs {w : World} {bb : Nat} {tag : Nat → Option Bt} {B : Bn} {qs : List Value} {c : Array Value} (h : Bm w bb tag B qs c) {k : Nat} {x : Pr} (hx : B.l[k]? = some x) :
    ∃ g cap, c[0]? = some (.slice (some ⟨g, 0, none⟩) B.l.length cap) ∧ w.cell? ⟨bb, 0, none⟩ = some (.slice (some ⟨g, 0, none⟩) B.l.length cap) ∧ tag g = some (.fld 0) ∧ g ≠ bb ∧ (∀ i, w.frozen? ⟨g, i, none⟩ = false) ∧
      w.cell? ⟨g, k * 3, none⟩ = some (.int .i64 x.prior) ∧ w.cell? ⟨g, k * 3 + 1, none⟩ = some (.int .i64 x.state) ∧ w.cell? ⟨g, k * 3 + 2, none⟩ = some (.int .i64 x.sem) := by
  obtain ⟨v, h1, h2, h3⟩ := h.fld 0 (by omega) (by omega)
  have hk : k < B.l.length := (List.getElem?_eq_some_iff.1 hx).1
  have e0 : B.fld qs 0 = pcells B.l := rfl
  have e1 : (pcells B.l).length / bsz 0 = B.l.length := by rw [length_pcells]; unfold bsz; rw [if_pos rfl]; omega
  unfold Own at h2
  rw [e0, e1] at h2
  rcases h2.2 with ⟨_, hn⟩ | ⟨g, cap, cur, rfl, _, hg, c1, c2, c3, c4⟩
  · omega
  · have hgt := h3 g rfl
    have hat : ∀ i u, (pcells B.l)[i]? = some u → w.cell? ⟨g, i, none⟩ = some u := fun i u hu => by
      refine cell_of_block hg ?_
      rw [← c4, List.getElem?_take] at hu
      split at hu
      · simpa using hu
      · cases hu
    refine ⟨g, cap, h1, cell_of_block h.hdr h1, hgt, fun e => ?_, fun i => free_of_block hg i, hat _ _ ?_, hat _ _ ?_, hat _ _ ?_⟩
    · rw [e, h.htag] at hgt; cases hgt
    · have a1 : k * 3 / 3 = k := by omega
      have a2 : k * 3 % 3 = 0 := by omega
      rw [pcells_get, a1, a2, hx]; rfl
    · have a1 : (k * 3 + 1) / 3 = k := by omega
      have a2 : (k * 3 + 1) % 3 = 1 := by omega
      rw [pcells_get, a1, a2, hx]; rfl
    · have a1 : (k * 3 + 2) / 3 = k := by omega
      have a2 : (k * 3 + 2) % 3 = 2 := by omega
      rw [pcells_get, a1, a2, hx]; rfl

set_option maxRecDepth 100000 in
set_option maxHeartbeats 4000000 in
theorem bnext_calls {w : World} {bb : Nat} {F : Nat → Prop} {B : Bn} {M : Nat} (hA : BenAt w bb F B) (hW : BW M B) (hM : M < 1000000) :
    Calls Tryz.prog 64 #[.pointer (some ⟨bb, 0, none⟩)] w fun e w' => e = .returned (.tuple #[]) ∧ BMakes w bb F B.next w' := by
  have hc := hA.actCell.1
  have hf := hA.actCell.2
  go_enter Tryz.func64, Tryz.ntmps64
  go_wp2
  go_loopw [2] (fun i wr => ∃ k : Nat, k ≤ 8 ∧ i = .int .i64 k ∧ wr = w.setCell ⟨bb, 10, none⟩ (.int .i64 0) ∧ ({ B with active := 0 } : Bn).nextFrom k = B.next) (fun i _ => (intOf i).toNat)
  case atStart => exact ⟨8, by omega, rfl, rfl, rfl⟩
  case round =>
    obtain ⟨k, hk, rfl, hwr, hnext⟩ := hrel
    have HN := Lib.hid hnext
    have hA' : BenAt wr bb F { B with active := 0 } := by rw [hwr]; exact hA.setAct 0
    have hG' : Goes F F w wr := by rw [hwr]; exact hA.goes_set 10 _
    have HG := Lib.hid hG'
    have HWR := Lib.hid hwr
    clear hc hf hnext hwr hG'
    by_cases hk0 : k = 0
    · subst hk0
      go_wp2
      go_end0
      exact ⟨rfl, F, by rw [← HN.out]; exact hA', HG.out⟩
    · have hk1 : (0 : Int) < k := by omega
      obtain ⟨tag, qs, c, h, hF⟩ := id hA'
      obtain ⟨v, h1, h2, h3, h4⟩ := h.ready (k := k) (by omega)
      obtain ⟨a, cap, rfl⟩ := h2.shape
      rw [length_ints] at h1 h2 h3 h4
      have e0 : ({ B with active := 0 } : Bn).ready k = B.ready k := rfl
      rw [e0] at h1 h2 h3 h4
      cases er : B.ready k with
      | nil =>
        rw [er] at h4
        rw [List.length_nil] at h4
        have HER := Lib.hid er
        clear h1 h2 h3 er e0
        go_wp2
        go_roundw
        case rel =>
          obtain ⟨j, rfl⟩ : ∃ j, k = j + 1 := ⟨k - 1, by omega⟩
          refine ⟨j, by omega, by go_num, HWR.out, ?_⟩
          rw [← HN.out]
          show _ = (match B.ready (j + 1) with | [] => Bn.nextFrom j { B with active := 0 } | k :: t => _ : Bn)
          rw [HER.out]
        case measure => simp [intOf]; omega
      | cons x t =>
        rw [er] at h1 h2 h3 h4
        rw [List.length_cons] at h1 h2 h3 h4
        have hcA := hA'.actCell.1
        have hfA := hA'.actCell.2
        obtain ⟨g, ea, hx⟩ := Sl.int_at (l := x :: t) h2 (i := 0) (by simp)
        subst ea
        have hx0 : wr.cell? ⟨g, 0, none⟩ = some (.int .i64 x) := hx
        have hgb : g ≠ bb := fun e => h3 (by rw [e]; rfl)
        have h1A := h.setAct x
        have hgA := hA'.goes_set 10 (.int .i64 x)
        have hcA2 := hA'.setAct x
        have HE := Lib.hid er
        clear hx h1 h2 h3 er
        go_wp2_with fail
        clear hcA hfA h4 hx0 hgb
        generalize wr.setCell ⟨bb, 10, none⟩ (.int .i64 x) = w1 at h1A hgA hcA2 ⊢
        obtain ⟨v, h1, h2, h3, h4⟩ := h1A.ready (k := k) (by omega)
        obtain ⟨a, cap, rfl⟩ := h2.shape
        rw [length_ints] at h1 h2 h3 h4
        have e0 : ({ B with active := x } : Bn).ready k = x :: t := HE.out
        dsimp only at h1 h2 h3 h4
        rw [HE.out] at h1 h2 h3 h4
        rw [List.length_cons] at h1 h2 h3 h4
        obtain ⟨g1, cap1, ea, hcl, hcm, hcs, hfs⟩ := h2.at (by simp)
        simp only [Value.slice.injEq] at ea
        obtain ⟨rfl, -, rfl⟩ := ea
        have hgb : g1 ≠ bb := fun e => h3 (by rw [e]; rfl)
        have hf := free_of_block h1A.hdr (1 + k)
        have hbl := lt_of_block h1A.hdr
        have H1A := Lib.hid h1A
        have H1 := Lib.hid h1
        have H2 := Lib.hid h2
        have HC := Lib.hid hcs
        clear h1A h1 h2 h3 hcs hfs e0 hA' h
        have hl1 : t.length + 1 ≤ cap := by simpa using hcl
        clear hcl
        have hk9 : (k : Int) < 9 := by omega
        have hb1 : (1 : Int) ≤ (t.length : Int) + 1 := by omega
        obtain ⟨xa, hxa, hxb, hxc⟩ : ∃ xa : Addr, (if cap = 1 then some ⟨g1, 0, none⟩ else some ⟨g1, 1, none⟩ : Option Addr) = some xa ∧ xa.block = g1 ∧ ∀ j u, (ints t)[j]? = some u → w1.cell? (xa.add j) = some u := by
          by_cases hc1 : cap = 1
          · have ht : t = [] := List.eq_nil_of_length_eq_zero (by omega)
            exact ⟨⟨g1, 0, none⟩, by rw [if_pos hc1], rfl, fun j u hj => by rw [ht] at hj; simp [ints] at hj⟩
          · refine ⟨⟨g1, 1, none⟩, by rw [if_neg hc1], rfl, fun j u hj => ?_⟩
            have := HC.out (j + 1) u (by simpa [ints] using hj)
            have e : (⟨g1, 1, none⟩ : Addr).add j = ⟨g1, j + 1, none⟩ := by unfold Addr.add; simp [Nat.add_comm]
            rw [e]; exact this
        have HXB := Lib.hid hxb
        have HXC := Lib.hid hxc
        clear hxb hxc
        have htl : t.length ≤ M := by have := hW.rl k; have := congrArg List.length HE.out; simp at this; omega
        have HTL := Lib.hid htl
        clear htl
        go_cut [] (fun w' => BMakes w1 bb F (({ B with active := x } : Bn).rdy k t) w')
        case first =>
          go_region_law ((refine step_cat (n := 0) (v := .slice (some ⟨w1.heap.size, 0, none⟩) 0 0) rfl (.tmp 31) (.tmp 38) 28 3 rfl (.int .i64 0) 8 Tryz.underlying28 info3 rfl [] rfl rfl (Sl.mk (g := w1.heap.size) (cap := 0) (cur := #[]) ?_ (Nat.le_refl _) (Nat.zero_le _) rfl rfl) xa t.length (cap - 1) (ints t) (length_ints _) rfl ?_ ?_ ?_ ?_); (exact heap_alloc_self); (intro j u hj; have hcj := HXC.out j u hj; exact (World.cell?_alloc_lt _ _ _ (World.block_lt_of_cell? _ _ hcj)).trans hcj); (intro u hu; simp [ints] at hu; obtain ⟨y, _, rfl⟩ := hu; rfl); (have := HTL.out; omega); intro a2 cap2 w2 hS2 hC2 hl2; have hh2 : w2.heap[bb]? = some (.cells (c.setIfInBounds 10 (.int .i64 x)) 32 (0, 0)) := hC2.get (heap_alloc_get H1A.out.hdr) (fun e => by simp [Value.ownBlock] at e; omega); have hc2 := cell_of_block hh2 H1.out; have hf2 := free_of_block hh2 (1 + k); have HB2 := Lib.hid hh2; have HS2 := Lib.hid hS2; have HL2 := Lib.hid hl2; clear hh2 hS2 hl2)
          all_goals go_wp2_with fail
          all_goals go_meet
          all_goals first
            | exact H1A.out.readyFin hF (by omega) H1.out (u := .slice (some ⟨w1.heap.size, 0, none⟩) 0 0) (((Chg.refl _ w1).alloc _).drew) (fun g hg => .inr (by simp [Value.ownBlock] at hg; omega)) (by simp [Value.ownBlock]; omega) hC2 HB2.out (by have := HS2.out; simpa using this) (by have := HL2.out; simpa using this)
            | exact H1A.out.readyFin hF (by omega) H1.out (u := .slice (some ⟨w1.heap.size, 0, none⟩) 0 0) (((Chg.refl _ w1).drew).alloc _) (fun g hg => .inr (by simp [Value.ownBlock] at hg; omega)) (by simp [Value.ownBlock]; omega) hC2 HB2.out (by have := HS2.out; simpa using this) (by have := HL2.out; simpa using this)
        case rest =>
          obtain ⟨F2, hA2, g2⟩ := hcut
          obtain ⟨tag2, qs2, c2, hm2, hF2⟩ := id hA2
          have hr := hW.rd k x (by rw [HE.out]; simp)
          obtain ⟨z, hz⟩ : ∃ z, B.l[x.toNat - 1]? = some z := ⟨_, at_some (B := B) hr.1 hr.2⟩
          obtain ⟨gp, capp, p0, p1, p2, p3, p4, p5, p6, p7⟩ := hm2.procs (k := x.toNat - 1) (x := z) hz
          have hl0 : (({ B with active := x } : Bn).rdy k t).l.length = B.l.length := rfl
          rw [hl0] at p1 p0
          have hact := hA2.actCell.1
          have ha0 : (({ B with active := x } : Bn).rdy k t).active = x := rfl
          rw [ha0] at hact
          have hfz := p4 ((x.toNat - 1) * 3 + 1)
          have hll := hW.ll
          have hw1 : IntKind.i64.wrap (x - 1) = x - 1 := IntWalk.i64_in _ (by omega)
          have hx1 : (0 : Int) ≤ x - 1 := by omega
          have hx2 : x - 1 < (B.l.length : Nat) := by omega
          have HM2 := Lib.hid hm2
          have HP0 := Lib.hid p0
          have HZ := Lib.hid hz
          have hgA' := hgA
          clear hm2 p0 p4 hz hl0 ha0 hA2 hcA2 hgA hf
          go_wp2_with fail
          go_region
          go_wp2
          refine bodyPost_ret (results_none rfl _ _ _) rfl ?_
          refine ⟨rfl, F2, ?_, (HG.out.trans (hgA'.trans g2)).trans ⟨((Chg.refl _ _).setCell (fun _ => (hF2 gp).2 (by rw [p2]; simp)) _).drew, fun _ h => .inl h⟩⟩
          have hk2 : ∃ j, k = j + 1 := ⟨k - 1, by omega⟩
          obtain ⟨j, rfl⟩ := hk2
          have eB : B.next = { (({ B with active := x } : Bn).rdy (j + 1) t) with l := B.l.set (x.toNat - 1) ⟨z.prior, 2, z.sem⟩ } := by
            rw [← HN.out]
            show (match B.ready (j + 1) with | [] => Bn.nextFrom j { B with active := 0 } | k :: t => _ : Bn) = _
            rw [HE.out]
            have ez : B.at_ x = z := Option.some.inj ((at_some (B := B) hr.1 hr.2).symm.trans HZ.out)
            show Bn.put _ x ⟨(B.at_ x).prior, 2, (B.at_ x).sem⟩ = _
            rw [ez]; rfl
          rw [eB]
          exact ⟨tag2, qs2, c2, (HM2.out.setState HP0.out HZ.out 2).kept (fun _ _ => rfl), hF2⟩
end Ben
end Go.Proofs.YtlfbommppenlcaaGreatDoor
