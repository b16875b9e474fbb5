/- The scheduler on paper, a deed at a time: making processes and semaphores. Conditions: it lies in memory; lengths are bounded. -/
import Derived.Test.YtlfbommppenlcaaGreatDoorB2
namespace Go.Proofs.YtlfbommppenlcaaGreatDoor
open Go.RowKit Go.Mem
namespace Ben

/-- append of a row's part to a slice of elements of any size that owns its row, as a step of a region. -/
theorem step_catS {P : Program} {w : World} {ops : Array Oper} {o : Oper} {a : Act} {K : Act → World → Prop} {Q : Exit → Act → World → Prop} {E : Prop} (hgd : o.guard = none) (s x : Operand) (t e : TypeId)
    (ho : o.op = .call { callee := .builtin .append, args := #[s, x], argTypes := #[t, t] })
    (z : Value) (sz bytes : Nat) (ht : P.underlying t = some (.slice e)) (hi : (P.info? e).map (fun i => (i.zero, i.size, i.bytes)) = some (some z, sz, bytes)) (hzs : z.cells.size = sz) (hsz : 0 < sz)
    {v : Value} (l : List Value) {n : Nat} (hs : a.eval s = v) (hS : w.ownsRow 0 e sz v n l) (xa : Addr) (m c : Nat) (ns : List Value) (hm : ns.length = m * sz) (hx : a.eval x = .slice (some xa) m c)
    (hu : ∀ j u, ns[j]? = some u → w.cell? (xa.add j) = some u) (h1 : ∀ u ∈ ns, u.oneCell' = true) (hlen : (n + m) * (bytes + 1) ≤ 140737488355328)
    (h : ∀ a' cap' w', w'.ownsRow 0 e sz (.slice a' (n + m) cap') (n + m) (l ++ ns) → Chg (fun k => some k = v.ownBlock) w w' → (∀ g, (Value.slice a' (n + m) cap').ownBlock = some g → v.ownBlock = some g ∨ g = w.heap.size) → K (a.put o.dst (.slice a' (n + m) cap')) w') :
    if Region.wanted o (yielded ops a.tmps) = true then Oper.wp P o a w K Q else E := by
  have hw : Region.wanted o (yielded ops a.tmps) = true := by simp [Region.wanted, hgd]
  rw [if_pos hw]
  obtain ⟨i0, hi0, hz0, hz1, hz2⟩ := info_parts hi
  have hb : (n + m) * (bytes + 1) = (n + m) * bytes + (n + m) := by rw [Nat.mul_add, Nat.mul_one]
  obtain ⟨v', w', hr, h2, h3, h4, h5⟩ := run_append_own_at (P := P) w 0 t o.type e i0 z sz bytes ht hi0 hz0 hz1 hz2 hzs hsz v n l hS xa m c ns hm hu h1 (by unfold maxLen; omega) (by omega) (Nat.zero_le _)
  unfold Oper.wp execOp
  simp only [ho, resolve, invoke, builtin, Sem.run_bind, Sem.run_pure, Result.andThen_ok, List.map_toArray, List.map_cons, List.map_nil, hs, hx, hr]
  obtain ⟨a', cap', hv'⟩ : ∃ a' cap', v' = .slice a' (n + m) cap' := by
    rcases h2.2 with ⟨e1, e2⟩ | ⟨g, cap, cur, e1, _⟩
    · exact ⟨none, 0, by rw [e1, e2]⟩
    · exact ⟨_, _, e1⟩
  subst hv'
  refine h a' cap' w' h2 (Chg.of_grown h3) fun g hg => ?_
  rcases h5 with h1 | h1
  · exact .inl (h1.symm.trans hg)
  · exact .inr (Option.some.inj (hg.symm.trans h1))

/-- A field's row is built anew, or appended to, and stored. -/
theorem Bm.fin {w wA w2 : World} {bb : Nat} {tag : Nat → Option Bt} {B B' : Bn} {qs qs' : List Value} {c : Array Value} {F : Nat → Prop} (h : Bm w bb tag B qs c) (hF : ∀ k, F k ↔ tag k ≠ none) {j : Nat} (hj : j < 13) (hj2 : j ≠ 10) {u v v' : Value}
    (hv : c[j]? = some v) (hA : Chg (fun _ => False) w wA) (hu : ∀ g, u.ownBlock = some g → v.ownBlock = some g ∨ w.heap.size ≤ g) (hne : u.ownBlock ≠ some bb) (hC : Chg (fun b => some b = u.ownBlock) wA w2)
    (hb : w2.heap[bb]? = some (.cells c 32 (0, 0))) (hS : Own w2 j v' (B'.fld qs' j)) (hl : ∀ g, v'.ownBlock = some g → u.ownBlock = some g ∨ g = wA.heap.size)
    (hfld : ∀ i, i < 13 → i ≠ 10 → i ≠ j → B'.fld qs' i = B.fld qs i) (hact : B'.active = B.active) (hlen : qs'.length = B'.waits.length)
    (hwq : ∀ k q, qs'[k]? = some q → (qs[k]? = some q ∧ B'.waits.getD k [] = B.waits.getD k []) ∨ (q = .slice none 0 0 ∧ B'.waits.getD k [] = [])) :
    BMakes w bb F B' (w2.setCell ⟨bb, j, none⟩ v') := by
  have hbl := lt_of_block h.hdr
  have hsz := hA.size
  obtain ⟨v0, e0, _, t0⟩ := h.fld j hj hj2
  obtain rfl : v0 = v := Option.some.inj (e0.symm.trans hv)
  have hCC : Chg (fun b => b = bb ∨ some b = v0.ownBlock) w (w2.setCell ⟨bb, j, none⟩ v') := by
    refine Chg.setCell ((hA.mono (fun _ _ x => x.elim)).trans hC fun i hi e => ?_) (fun _ => .inl rfl) _
    rcases hu i e.symm with e | e
    · exact .inr e.symm
    · omega
  obtain ⟨tag', h', hold⟩ := h.upd (B' := B') (qs' := qs') hj hj2 hv (heap_setCell_at hb) (hS.kept fun g hg => heap_setCell_ne (by
      show g ≠ bb
      rcases hl g hg with e | e
      · rintro rfl; exact hne e
      · omega)) hCC (fun g hg => by
      rcases hl g hg with e | e
      · exact hu g e
      · exact .inr (by omega)) hfld hact hlen hwq
  refine BMakes.of_bm hF ⟨tag', qs', _, h', hold⟩ (hCC.mono fun b hb hx => (hF b).2 ?_)
  rcases hx with rfl | e
  · rw [h.htag]; simp
  · rw [t0 b e.symm]; simp

theorem cell_two {w : World} {o o' : Obj} {p : Addr} {v : Value} (h : w.cell? p = some v) : ((w.alloc o).alloc o').cell? p = some v :=
  (World.cell?_alloc_lt _ _ _ (World.block_lt_of_cell? _ _ ((World.cell?_alloc_lt _ _ _ (World.block_lt_of_cell? _ _ h)).trans h))).trans ((World.cell?_alloc_lt _ _ _ (World.block_lt_of_cell? _ _ h)).trans h)
theorem BenAt.alloc {w : World} {bb : Nat} {F : Nat → Prop} {B : Bn} (h : BenAt w bb F B) (o : Obj) : BenAt (w.alloc o) bb F B :=
  h.chg (G := fun _ => False) ((Chg.refl _ _).alloc _) (fun _ _ h => h)

/-- State and semaphore of one are others. -/
theorem Bm.setBoth {w : World} {bb : Nat} {tag : Nat → Option Bt} {B : Bn} {qs : List Value} {c : Array Value} (h : Bm w bb tag B qs c) {g n cap k : Nat} (hv : c[0]? = some (.slice (some ⟨g, 0, none⟩) n cap)) {x : Pr} (hx : B.l[k]? = some x) (s m : Int) :
    Bm ((w.setCell ⟨g, k * 3 + 1, none⟩ (.int .i64 s)).setCell ⟨g, k * 3 + 2, none⟩ (.int .i64 m)) bb tag { B with l := B.l.set k ⟨x.prior, s, m⟩ } qs c := by
  have hk : k < B.l.length := (List.getElem?_eq_some_iff.1 hx).1
  have h2 := (h.setState hv hx s).setSem hv (k := k) (x := ⟨x.prior, s, x.sem⟩) (by rw [List.getElem?_set_self hk]) m
  have e : (B.l.set k ⟨x.prior, s, x.sem⟩).set k ⟨x.prior, s, m⟩ = B.l.set k ⟨x.prior, s, m⟩ := List.set_set ..
  dsimp only at h2
  rw [e] at h2
  exact h2
/-- Who waits for a semaphore. -/
theorem Bm.waitsAt {w : World} {bb : Nat} {tag : Nat → Option Bt} {B : Bn} {qs : List Value} {c : Array Value} (h : Bm w bb tag B qs c) {k : Nat} (hk : k < B.waits.length) :
    ∃ g cap cur q, c[11]? = some (.slice (some ⟨g, 0, none⟩) B.waits.length cap) ∧ w.cell? ⟨bb, 11, none⟩ = some (.slice (some ⟨g, 0, none⟩) B.waits.length cap) ∧ w.heap[g]? = some (.cells cur 28 (0, 0)) ∧ tag g = some (.fld 11) ∧ g ≠ bb ∧
      qs[k]? = some q ∧ cur[k]? = some q ∧ w.cell? ⟨g, k, none⟩ = some q ∧ (∀ i, w.frozen? ⟨g, i, none⟩ = false) ∧ Sl w 3 q (ints (B.waits.getD k [])) ∧ q.ownBlock ≠ some g ∧ q.ownBlock ≠ some bb := by
  obtain ⟨v, h1, h2, h3⟩ := h.fld 11 (by omega) (by omega)
  have e0 : B.fld qs 11 = qs := rfl
  have hS := h2.sl (by omega)
  rw [e0] at hS
  have hl := h.len
  obtain ⟨q, hq⟩ : ∃ q, qs[k]? = some q := ⟨_, List.getElem?_eq_getElem (by omega)⟩
  obtain ⟨hq1, hq2⟩ := h.wq k q hq
  rcases hS.cases with ⟨rfl, hn⟩ | ⟨g, cap, cur, rfl, hg, c1, c2, c3, c4⟩
  · rw [hn] at hl; simp at hl; omega
  · have hgt := h3 g rfl
    rw [hl] at h1
    have hcu : cur[k]? = some q := by
      rw [← c4, List.getElem?_take] at hq
      split at hq
      · simpa using hq
      · cases hq
    refine ⟨g, cap, cur, q, h1, cell_of_block h.hdr h1, hg, hgt, fun e => ?_, hq, hcu, cell_of_block hg hcu, fun i => free_of_block hg i, hq1, fun e => ?_, fun e => ?_⟩
    · rw [e, h.htag] at hgt; cases hgt
    · have := hq2 g e; rw [hgt] at this; cases this
    · have := hq2 bb e; rw [h.htag] at this; cases this

/-- The memory when a deed's walk begins: the receiver and the deed in blocks of their own. -/
structure Begun (w w1 : World) (bb : Nat) (x y z : Int) : Prop where
  hp : w1.cell? ⟨w.heap.size, 0, none⟩ = some (.pointer (some ⟨bb, 0, none⟩))
  h0 : w1.cell? ⟨w.heap.size + 1, 0, none⟩ = some (.int .i64 x)
  h1 : w1.cell? ⟨w.heap.size + 1, 1, none⟩ = some (.int .i64 y)
  h2 : w1.cell? ⟨w.heap.size + 1, 2, none⟩ = some (.int .i64 z)
  chg : Chg (fun _ => False) w w1
  size : w1.heap.size = w.heap.size + 2
theorem isBegun (w : World) (bb : Nat) (x y z : Int) : Begun w ((w.alloc (.cells #[.pointer (some ⟨bb, 0, none⟩)] 26)).alloc (.cells #[.int .i64 x, .int .i64 y, .int .i64 z] 36)) bb x y z := by
  have h := @heap_alloc_self (w.alloc (.cells #[.pointer (some ⟨bb, 0, none⟩)] 26)) (.cells #[.int .i64 x, .int .i64 y, .int .i64 z] 36)
  have h' : ((w.alloc (.cells #[.pointer (some ⟨bb, 0, none⟩)] 26)).alloc (.cells #[.int .i64 x, .int .i64 y, .int .i64 z] 36)).heap[w.heap.size + 1]? = some (.cells #[.int .i64 x, .int .i64 y, .int .i64 z] 36 (0, 0)) := by simpa using h
  exact ⟨cell_of_block (heap_alloc_get heap_alloc_self) rfl, cell_of_block h' rfl, cell_of_block h' rfl, cell_of_block h' rfl, ((Chg.refl _ _).alloc _).alloc _, by simp⟩
/-- The cells of Begun stand behind whatever leaves the two blocks alone. -/
theorem Begun.kept {w w1 w2 : World} {bb : Nat} {x y z : Int} {F : Nat → Prop} (h : Begun w w1 bb x y z) (hF : ∀ b, F b → b < w.heap.size) (hc : Chg F w1 w2) :
    w2.cell? ⟨w.heap.size, 0, none⟩ = some (.pointer (some ⟨bb, 0, none⟩)) ∧ w2.cell? ⟨w.heap.size + 1, 0, none⟩ = some (.int .i64 x) ∧ w2.cell? ⟨w.heap.size + 1, 1, none⟩ = some (.int .i64 y) ∧ w2.cell? ⟨w.heap.size + 1, 2, none⟩ = some (.int .i64 z) := by
  have hs := h.size
  have hn : ∀ p : Addr, w.heap.size ≤ p.block → ¬ F p.block := fun p hp hf => by have := hF _ hf; omega
  exact ⟨(hc.cell (p := ⟨w.heap.size, 0, none⟩) (by simp; omega) (hn _ (Nat.le_refl _))).trans h.hp, (hc.cell (p := ⟨w.heap.size + 1, 0, none⟩) (by simp; omega) (hn _ (Nat.le_succ _))).trans h.h0,
    (hc.cell (p := ⟨w.heap.size + 1, 1, none⟩) (by simp; omega) (hn _ (Nat.le_succ _))).trans h.h1, (hc.cell (p := ⟨w.heap.size + 1, 2, none⟩) (by simp; omega) (hn _ (Nat.le_succ _))).trans h.h2⟩
theorem Begun.goes {w w1 : World} {bb : Nat} {x y z : Int} (h : Begun w w1 bb x y z) (F : Nat → Prop) : Goes F F w w1 := ⟨h.chg.mono (fun _ _ h => h.elim), fun _ h => .inl h⟩

set_option maxRecDepth 100000 in
set_option maxHeartbeats 4000000 in
theorem bdoes_0_bad {w : World} {bb : Nat} {F : Nat → Prop} {B : Bn} (hA : BenAt w bb F B) (a b : Int) (ha : a < 1 ∨ a > 8) :
    Calls Tryz.prog 19 #[.pointer (some ⟨bb, 0, none⟩), .agg #[.int .i64 0, .int .i64 a, .int .i64 b]] w fun e w' => e = .returned (.tuple #[.int .i64 0, .int .i64 2]) ∧ BMakes w bb F B w' := by
  have hA1 := (hA.alloc (.cells #[.pointer (some ⟨bb, 0, none⟩)] 26)).alloc (.cells #[.int .i64 0, .int .i64 a, .int .i64 b] 36)
  have HA1 := Lib.hid hA1
  clear hA1 hA
  rcases ha with ha | ha
  · go_enter Tryz.func19, Tryz.ntmps19
    go_wp2_with fail
    go_ret2
    exact ⟨rfl, F, HA1.out, (Goes.alloc _ _).trans (Goes.alloc _ _)⟩
  · have hn : ¬ a < 1 := by omega
    go_enter Tryz.func19, Tryz.ntmps19
    go_wp2_with fail
    go_ret2
    exact ⟨rfl, F, HA1.out, (Goes.alloc _ _).trans (Goes.alloc _ _)⟩

set_option maxRecDepth 100000 in
set_option maxHeartbeats 4000000 in
theorem bdoes_0_full {w : World} {bb : Nat} {F : Nat → Prop} {B : Bn} (hA : BenAt w bb F B) (a b : Int) (h1 : 1 ≤ a) (h8 : a ≤ 8) (hl : B.l.length = 100) :
    Calls Tryz.prog 19 #[.pointer (some ⟨bb, 0, none⟩), .agg #[.int .i64 0, .int .i64 a, .int .i64 b]] w fun e w' => e = .returned (.tuple #[.int .i64 0, .int .i64 3]) ∧ BMakes w bb F B w' := by
  have hA1 := (hA.alloc (.cells #[.pointer (some ⟨bb, 0, none⟩)] 26)).alloc (.cells #[.int .i64 0, .int .i64 a, .int .i64 b] 36)
  have HA1 := Lib.hid hA1
  obtain ⟨tag, qs, c, h, hF⟩ := hA
  obtain ⟨x, cap, hc⟩ := h.lenCell
  rw [hl] at hc
  have hc2 := cell_two (o := .cells #[.pointer (some ⟨bb, 0, none⟩)] 26) (o' := .cells #[.int .i64 0, .int .i64 a, .int .i64 b] 36) hc
  have hn1 : ¬ a < 1 := by omega
  have hn2 : ¬ 8 < a := by omega
  clear hA1 h hF hl
  go_enter Tryz.func19, Tryz.ntmps19
  go_wp2_with fail
  go_ret2
  exact ⟨rfl, F, HA1.out, (Goes.alloc _ _).trans (Goes.alloc _ _)⟩

set_option maxRecDepth 100000 in
set_option maxHeartbeats 4000000 in
theorem bdoes_7_full {w : World} {bb : Nat} {F : Nat → Prop} {B : Bn} (hA : BenAt w bb F B) (k a b : Int) (hk : 7 ≤ k) (hl : B.signs.length = 100) :
    Calls Tryz.prog 19 #[.pointer (some ⟨bb, 0, none⟩), .agg #[.int .i64 k, .int .i64 a, .int .i64 b]] w fun e w' => e = .returned (.tuple #[.int .i64 0, .int .i64 3]) ∧ BMakes w bb F B w' := by
  have hA1 := (hA.alloc (.cells #[.pointer (some ⟨bb, 0, none⟩)] 26)).alloc (.cells #[.int .i64 k, .int .i64 a, .int .i64 b] 36)
  have HA1 := Lib.hid hA1
  obtain ⟨tag, qs, c, h, hF⟩ := hA
  obtain ⟨v, hv, hS, ht⟩ := h.fld 12 (by omega) (by omega)
  have e0 : B.fld qs 12 = ints B.signs := rfl
  have hS' := hS.sl (by omega)
  rw [e0] at hS'
  obtain ⟨x, cap, rfl⟩ := hS'.shape
  rw [length_ints, hl] at hv
  have hc := cell_of_block h.hdr hv
  have hc2 := cell_two (o := .cells #[.pointer (some ⟨bb, 0, none⟩)] 26) (o' := .cells #[.int .i64 k, .int .i64 a, .int .i64 b] 36) hc
  have b0 : (k == 0) = false := by simp; omega
  have b1 : (k == 1) = false := by simp; omega
  have b2 : (k == 2) = false := by simp; omega
  have b3 : (k == 3) = false := by simp; omega
  have b4 : (k == 4) = false := by simp; omega
  have b5 : (k == 5) = false := by simp; omega
  have b6 : (k == 6) = false := by simp; omega
  clear hA1 h hF hl hS hS' ht hv e0 hk
  go_enter Tryz.func19, Tryz.ntmps19
  go_wp2_with fail
  go_ret2
  exact ⟨rfl, F, HA1.out, (Goes.alloc _ _).trans (Goes.alloc _ _)⟩
end Ben
end Go.Proofs.YtlfbommppenlcaaGreatDoor
