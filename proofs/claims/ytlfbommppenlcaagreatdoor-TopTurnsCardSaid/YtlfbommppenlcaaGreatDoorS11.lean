/- The scheduler's call Spawn. Conditions: a scheduler lies there. -/
import Derived.Test.YtlfbommppenlcaaGreatDoorS10
import Derived.Deep.RegionLaw
import Derived.Deep.DeepCutAuto
namespace Go.Proofs.YtlfbommppenlcaaGreatDoor
open Go.RowKit Go.Mem

theorem step_push {P : Program} {w : World} {ops : Array Oper} {o : Oper} {a : Act} {K : Act → World → Prop} {Q : Exit → Act → World → Prop} {E : Prop} (hgd : o.guard = none) (s x : Operand) (t e : TypeId)
    (ho : o.op = .call { callee := .builtin .append, args := #[s, x], argTypes := #[t, t] })
    (z : Value) (bytes : Nat) (ht : P.underlying t = some (.slice e)) (hi : (P.info? e).map (fun i => (i.zero, i.size, i.bytes)) = some (some z, 1, bytes)) (hzs : z.cells.size = 1)
    {v : Value} (l : List Value) {n : Nat} (hn : l.length = n) (hs : a.eval s = v) (hS : Sl w e v l) {g : Nat} (u : Value) (hx : a.eval x = .slice (some ⟨g, 0, none⟩) 1 1)
    (hu : w.cell? ⟨g, 0, none⟩ = some u) (h1 : u.oneCell' = true) (hlen : (n + 1) * (bytes + 1) ≤ 140737488355328)
    (h : ∀ g' cap' w', Sl w' e (.slice (some ⟨g', 0, none⟩) (n + 1) cap') (l ++ [u]) → Chg (fun k => some k = v.ownBlock) w w' → (v.ownBlock = some g' ∨ g' = w.heap.size) → K (a.put o.dst (.slice (some ⟨g', 0, none⟩) (n + 1) cap')) w') :
    if Region.wanted o (yielded ops a.tmps) = true then Oper.wp P o a w K Q else E := by
  subst hn
  have hw : Region.wanted o (yielded ops a.tmps) = true := by simp [Region.wanted, hgd]
  rw [if_pos hw]
  obtain ⟨i0, hi0, hz0, hz1, hz2⟩ := info_parts hi
  have hb : (l.length + 1) * (bytes + 1) = (l.length + 1) * bytes + (l.length + 1) := by rw [Nat.mul_add, Nat.mul_one]
  obtain ⟨v', w', hr, h2, h3, h4, h5⟩ := run_append_own_at (P := P) w 0 t o.type e i0 z 1 bytes ht hi0 hz0 hz1 hz2 hzs (by decide) v l.length l hS ⟨g, 0, none⟩ 1 1 [u] rfl (by
    intro j u' hj
    rcases j with _ | j
    · simp at hj; subst hj; exact hu
    · simp at hj) (by intro u' hu'; simp at hu'; subst hu'; exact h1) (by unfold maxLen; omega) (by omega) (Nat.zero_le _)
  unfold Oper.wp execOp
  simp only [ho, resolve, invoke, builtin, Sem.run_bind, Sem.run_pure, Result.andThen_ok, List.map_toArray, List.map_cons, List.map_nil, hs, hx, hr]
  have hS' : Sl w' e v' (l ++ [u]) := by unfold Sl; simpa using h2
  rcases hS'.cases with ⟨_, hn⟩ | ⟨g', cap', _, hv', _⟩
  · simp at hn
  · rw [List.length_append, List.length_singleton] at hv'
    subst hv'
    refine h g' cap' w' hS' (Chg.of_grown h3) ?_
    rcases h5 with h1 | h1
    · exact .inl h1.symm
    · exact .inr (Option.some.inj h1)

theorem heap_alloc_self' {w : World} {o : Obj} {n : Nat} (h : n = w.heap.size) : (w.alloc o).heap[n]? = some o := by subst h; exact heap_alloc_self

theorem spawn_bad {w : World} {sb : Nat} (p : Int) (hp : p < 1 ∨ p > 8) :
    Calls Tryz.prog 55 #[.pointer (some ⟨sb, 0, none⟩), .int .i64 p] w fun e w' => e = .returned (.tuple #[.int .i64 0, .int .i64 2]) ∧ w = w' := by
  rcases hp with hp | hp
  · go_enter Tryz.func55, Tryz.ntmps55
    go_wp2
    go_ret2
    exact ⟨rfl, rfl⟩
  · have hp' : 1 ≤ p := by omega
    go_enter Tryz.func55, Tryz.ntmps55
    go_wp2
    go_ret2
    exact ⟨rfl, rfl⟩

theorem spawn_full {w : World} {sb : Nat} {F : Nat → Prop} {S : St} (hA : SchAt w sb F S) (p : Int) (hp1 : 1 ≤ p) (hp2 : p ≤ 8) (hl : S.prior.length = 100) :
    Calls Tryz.prog 55 #[.pointer (some ⟨sb, 0, none⟩), .int .i64 p] w fun e w' => e = .returned (.tuple #[.int .i64 0, .int .i64 3]) ∧ w = w' := by
  obtain ⟨a, cap, hc⟩ := hA.lens
  rw [hl] at hc
  clear hl
  go_enter Tryz.func55, Tryz.ntmps55
  go_wp2
  go_ret2
  exact ⟨rfl, rfl⟩

/-- The slice v's row is in W as it was in w. -/
structure Kp (w : World) (v : Value) (W : World) : Prop where
  size : w.heap.size ≤ W.heap.size
  row : ∀ g, v.ownBlock = some g → g < w.heap.size ∧ W.heap[g]? = w.heap[g]?
theorem Kp.refl {w : World} {T : TypeId} {v : Value} {l : List Value} (h : Sl w T v l) : Kp w v w := ⟨Nat.le_refl _, fun _ hg => ⟨h.lt hg, rfl⟩⟩
theorem Kp.drew {w W : World} {v : Value} (h : Kp w v W) : Kp w v W.drew := ⟨h.size, h.row⟩
theorem Kp.alloc {w W : World} {v : Value} (h : Kp w v W) (o : Obj) : Kp w v (W.alloc o) :=
  ⟨Nat.le_trans h.size (by simp), fun g hg => ⟨(h.row g hg).1, (heap_alloc_lt (Nat.lt_of_lt_of_le (h.row g hg).1 h.size)).trans (h.row g hg).2⟩⟩
theorem Kp.chg {w W W' : World} {v : Value} {G : Nat → Prop} (h : Kp w v W) (hc : Chg G W W') (hG : ∀ g, v.ownBlock = some g → ¬ G g) : Kp w v W' :=
  ⟨Nat.le_trans h.size hc.size, fun g hg => ⟨(h.row g hg).1, (hc.block g (Nat.lt_of_lt_of_le (h.row g hg).1 h.size) (hG g hg)).trans (h.row g hg).2⟩⟩
theorem Kp.sl {w W : World} {T : TypeId} {v : Value} {l : List Value} (h : Kp w v W) (hS : Sl w T v l) : Sl W T v l := hS.kept fun g hg => (h.row g hg).2

theorem fld_other (S : St) (p : Int) (ps : List Nat) {i : Nat} (h0 : i ≠ 0) (h1 : i ≠ 1) : ({ S with prior := S.prior ++ [p], idle := S.idle ++ [true] } : St).fld ps i = S.fld ps i := by
  unfold St.fld; rw [if_neg h0, if_neg h0, if_neg h1, if_neg h1]

theorem spawn_fin {w wF : World} {sb : Nat} {tag : Nat → Option Tg} {S : St} {ps : List Nat} {c : Array Value} {F : Nat → Prop} (h : Sch w sb tag S ps c) (hF : ∀ k, F k ↔ tag k ≠ none) (p : Int)
    {v0 v1 v0' v1' : Value} (f0 : c[0]? = some v0) (f1 : c[1]? = some v1)
    (hh : wF.heap[sb]? = some (.cells ((c.setIfInBounds 0 v0').setIfInBounds 1 v1') 116 (0, 0))) (s0 : Sl wF 3 v0' (ints S.prior ++ [.int .i64 p])) (s1 : Sl wF 4 v1' (bools S.idle ++ [.bool true]))
    (hC : Chg (fun b => b = sb ∨ some b = v0.ownBlock ∨ some b = v1.ownBlock) w wF) (n0 : Near w v0 v0') (n1 : Near w v1 v1') (hne : ∀ g, v0'.ownBlock = some g → v1'.ownBlock ≠ some g) :
    Makes w sb F { S with prior := S.prior ++ [p], idle := S.idle ++ [true] } wF := by
  obtain ⟨u0, e0, _, t0⟩ := h.fld 0 (by omega)
  obtain rfl : u0 = v0 := Option.some.inj (e0.symm.trans f0)
  obtain ⟨u1, e1, _, t1⟩ := h.fld 1 (by omega)
  obtain rfl : u1 = v1 := Option.some.inj (e1.symm.trans f1)
  have hlt : ∀ k, tag k ≠ none → k < w.heap.size := h.tlt
  have hk : ∀ b, tag b ≠ none → tag b ≠ some .hdr → tag b ≠ some (.fld 0) → tag b ≠ some (.fld 1) → wF.heap[b]? = w.heap[b]? := fun b hb h1 h2 h3 => hC.block b (hlt b hb) (by
    rintro (rfl | e | e)
    · exact h1 h.htag
    · exact h2 (t0 b e.symm)
    · exact h3 (t1 b e.symm))
  let tag' : Nat → Option Tg := fun k => if w.heap.size ≤ k then (if v0'.ownBlock = some k then some (.fld 0) else if v1'.ownBlock = some k then some (.fld 1) else tag k) else tag k
  have hold : ∀ k, k < w.heap.size → tag' k = tag k := fun k hk => by simp only [tag']; rw [if_neg (by omega)]
  have hof : ∀ k t, tag k = some t → tag' k = some t := fun k t ht => (hold k (hlt k (by rw [ht]; simp))).trans ht
  refine ⟨fun b => tag' b ≠ none, ⟨tag', ps, _, ⟨hh, by simp [h.csz], hof _ _ h.htag, fun k ht => ?_, ?_, fun i hi => ?_, h.len, fun k q hq => ?_⟩, fun _ => Iff.rfl⟩, ⟨hC.mono fun b hb hx => ?_, fun b hb => ?_⟩⟩
  · by_cases hc : w.heap.size ≤ k
    · simp only [tag'] at ht
      rw [if_pos hc] at ht
      by_cases g0 : v0'.ownBlock = some k
      · exact s0.lt g0
      · rw [if_neg g0] at ht
        by_cases g1 : v1'.ownBlock = some k
        · exact s1.lt g1
        · rw [if_neg g1] at ht
          exact Nat.lt_of_lt_of_le (hlt k ht) hC.size
    · exact Nat.lt_of_lt_of_le (Nat.lt_of_not_le hc) hC.size
  · rw [Array.getElem?_setIfInBounds_ne (by omega), Array.getElem?_setIfInBounds_ne (by omega)]; exact h.act
  · by_cases i0 : i = 0
    · subst i0
      refine ⟨v0', by rw [Array.getElem?_setIfInBounds_ne (by omega), Array.getElem?_setIfInBounds_self_of_lt (by rw [h.csz]; omega)], ?_, fun g hg => ?_⟩
      · have : ({ S with prior := S.prior ++ [p], idle := S.idle ++ [true] } : St).fld ps 0 = ints S.prior ++ [.int .i64 p] := by simp [St.fld, ints]
        rw [this]; exact s0
      · rcases n0 with hn | ⟨g', hn, hge⟩
        · exact hof _ _ (t0 g (hn.symm.trans hg))
        · obtain rfl : g' = g := Option.some.inj (hn.symm.trans hg)
          simp only [tag']; rw [if_pos hge, if_pos hg]
    · by_cases i1 : i = 1
      · subst i1
        refine ⟨v1', by rw [Array.getElem?_setIfInBounds_self_of_lt (by simp [h.csz])], ?_, fun g hg => ?_⟩
        · have : ({ S with prior := S.prior ++ [p], idle := S.idle ++ [true] } : St).fld ps 1 = bools S.idle ++ [.bool true] := by simp [St.fld, bools]
          rw [this]; exact s1
        · rcases n1 with hn | ⟨g', hn, hge⟩
          · exact hof _ _ (t1 g (hn.symm.trans hg))
          · obtain rfl : g' = g := Option.some.inj (hn.symm.trans hg)
            simp only [tag']; rw [if_pos hge, if_neg (fun e => hne _ e hg), if_pos hg]
      · obtain ⟨u, h1, h2, h3⟩ := h.fld i hi
        refine ⟨u, by rw [Array.getElem?_setIfInBounds_ne (by omega), Array.getElem?_setIfInBounds_ne (by omega)]; exact h1, ?_, fun g hg => hof _ _ (h3 g hg)⟩
        rw [fld_other S p ps i0 i1]
        exact h2.kept fun g hg => hk g (by rw [h3 g hg]; simp) (by rw [h3 g hg]; simp) (by rw [h3 g hg]; simp; omega) (by rw [h3 g hg]; simp; omega)
  · obtain ⟨r, h1, h2, h3, h4⟩ := h.sem k q hq
    exact ⟨r, (hk q (by rw [h3]; simp) (by rw [h3]; simp) (by rw [h3]; simp) (by rw [h3]; simp)).trans h1, h2.kept fun g hg => hk g (by rw [h4 g hg]; simp) (by rw [h4 g hg]; simp) (by rw [h4 g hg]; simp) (by rw [h4 g hg]; simp), hof _ _ h3, fun g hg => hof _ _ (h4 g hg)⟩
  · rw [hF]
    rcases hx with rfl | e | e
    · rw [h.htag]; simp
    · rw [t0 b e.symm]; simp
    · rw [t1 b e.symm]; simp
  · by_cases hb' : w.heap.size ≤ b
    · exact .inr hb'
    · rw [hold b (by omega)] at hb
      exact .inl ((hF b).2 hb)

/-- The two stores at the end. A: what was appended to first; B: to second. -/
theorem spawn_ab {w WA wA WB wB : World} {sb : Nat} {c : Array Value} {v0 v1 : Value} {T0 T1 : TypeId} {l0 l1 m0 m1 : List Value} {gA nA capA gB nB capB : Nat}
    (G0 : Sl w T0 v0 m0) (G1 : Sl w T1 v1 m1) (hE : ∀ g, v0.ownBlock = some g → v1.ownBlock ≠ some g)
    (a0 : Chg (fun _ => False) w WA) (hSA : Sl wA T0 (.slice (some ⟨gA, 0, none⟩) nA capA) l0) (hCA : Chg (fun k => some k = v0.ownBlock) WA wA) (hLA : v0.ownBlock = some gA ∨ gA = WA.heap.size)
    (b0 : Chg (fun _ => False) wA WB) (hSB : Sl wB T1 (.slice (some ⟨gB, 0, none⟩) nB capB) l1) (hCB : Chg (fun k => some k = v1.ownBlock) WB wB) (hLB : v1.ownBlock = some gB ∨ gB = WB.heap.size)
    (hs0 : v0.ownBlock ≠ some sb) (hs1 : v1.ownBlock ≠ some sb) (hsb : sb < w.heap.size) (h0 : w.heap[sb]? = some (.cells c 116 (0, 0))) :
    wB.heap[sb]? = some (.cells c 116 (0, 0)) ∧ Sl wB T0 (.slice (some ⟨gA, 0, none⟩) nA capA) l0 ∧ Chg (fun b => some b = v0.ownBlock ∨ some b = v1.ownBlock) w wB ∧
      Near w v0 (.slice (some ⟨gA, 0, none⟩) nA capA) ∧ Near w v1 (.slice (some ⟨gB, 0, none⟩) nB capB) ∧ gA ≠ gB ∧ gA ≠ sb ∧ gB ≠ sb := by
  have z1 := a0.size
  have z2 := hCA.size
  have z3 := b0.size
  have z4 := hCB.size
  have lt0 : ∀ g, v0.ownBlock = some g → g < w.heap.size := fun g hg => G0.lt hg
  have lt1 : ∀ g, v1.ownBlock = some g → g < w.heap.size := fun g hg => G1.lt hg
  have ltA : gA < wA.heap.size := hSA.lt rfl
  have hgA : v1.ownBlock ≠ some gA := by
    intro e
    rcases hLA with h | h
    · exact hE _ h e
    · have := lt1 _ e; omega
  have hab : gA ≠ gB := by
    rintro rfl
    rcases hLB with h | h
    · exact hgA h
    · omega
  have hA : Chg (fun b => some b = v0.ownBlock ∨ some b = v1.ownBlock) w wA := (a0.mono (fun _ _ h => h.elim)).trans hCA (fun i _ h => .inl h)
  have hB : Chg (fun b => some b = v0.ownBlock ∨ some b = v1.ownBlock) w wB := (hA.trans b0 (fun _ _ h => h.elim)).trans hCB (fun i _ h => .inr h)
  refine ⟨hB.get h0 ?_, ?_, hB, ?_, ?_, hab, ?_, ?_⟩
  · rintro (e | e)
    · exact hs0 e.symm
    · exact hs1 e.symm
  · refine (hSA.chg b0 (fun _ _ h => h)).chg hCB fun g hg e => ?_
    simp only [Value.ownBlock, Option.some.injEq] at hg
    subst hg
    exact hgA e.symm
  · rcases hLA with h | h
    · exact .inl h.symm
    · exact .inr ⟨gA, rfl, by omega⟩
  · rcases hLB with h | h
    · exact .inl h.symm
    · exact .inr ⟨gB, rfl, by omega⟩
  · rintro rfl
    rcases hLA with h | h
    · exact hs0 h
    · omega
  · rintro rfl
    rcases hLB with h | h
    · exact hs1 h
    · omega

theorem Sl.two_stores {w : World} {T : TypeId} {sb g n cap : Nat} {l : List Value} (h : Sl w T (.slice (some ⟨g, 0, none⟩) n cap) l) (hg : g ≠ sb) (a b : Nat) (u v : Value) : Sl ((w.setCell ⟨sb, a, none⟩ u).setCell ⟨sb, b, none⟩ v) T (.slice (some ⟨g, 0, none⟩) n cap) l :=
  h.kept fun g' hg' => by
    simp only [Value.ownBlock, Option.some.injEq] at hg'
    subst hg'
    rw [heap_setCell_ne hg, heap_setCell_ne hg]

theorem spawn_end {w wB : World} {sb : Nat} {tag : Nat → Option Tg} {S : St} {ps : List Nat} {c : Array Value} {F : Nat → Prop} (h : Sch w sb tag S ps c) (hF : ∀ k, F k ↔ tag k ≠ none) (p : Int)
    {v0 v1 : Value} {gA nA capA gB nB capB : Nat} (f0 : c[0]? = some v0) (f1 : c[1]? = some v1)
    (hb : wB.heap[sb]? = some (.cells c 116 (0, 0))) (s0 : Sl wB 3 (.slice (some ⟨gA, 0, none⟩) nA capA) (ints S.prior ++ [.int .i64 p])) (s1 : Sl wB 4 (.slice (some ⟨gB, 0, none⟩) nB capB) (bools S.idle ++ [.bool true]))
    (hC : Chg (fun b => some b = v0.ownBlock ∨ some b = v1.ownBlock) w wB) (n0 : Near w v0 (.slice (some ⟨gA, 0, none⟩) nA capA)) (n1 : Near w v1 (.slice (some ⟨gB, 0, none⟩) nB capB)) (e1 : gA ≠ gB) (e2 : gA ≠ sb) (e3 : gB ≠ sb) :
    Makes w sb F { S with prior := S.prior ++ [p], idle := S.idle ++ [true] } ((wB.setCell ⟨sb, 0, none⟩ (.slice (some ⟨gA, 0, none⟩) nA capA)).setCell ⟨sb, 1, none⟩ (.slice (some ⟨gB, 0, none⟩) nB capB)) := by
  refine spawn_fin h hF p f0 f1 (heap_setCell_at (heap_setCell_at hb)) (Sl.two_stores s0 e2 _ _ _ _) (Sl.two_stores s1 e3 _ _ _ _) (((hC.mono fun _ _ h => .inr h).setCell (fun _ => .inl rfl) _).setCell (fun _ => .inl rfl) _) n0 n1 fun g hg e => ?_
  simp only [Value.ownBlock, Option.some.injEq] at hg e
  subst hg
  exact e1 e.symm

theorem spawn_endAB {w wB : World} {sb : Nat} {tag : Nat → Option Tg} {S : St} {ps : List Nat} {c : Array Value} {F : Nat → Prop} (h : Sch w sb tag S ps c) (hF : ∀ k, F k ↔ tag k ≠ none) (p : Int)
    {v0 v1 : Value} {gA nA capA gB nB capB : Nat} (f0 : c[0]? = some v0) (f1 : c[1]? = some v1) (s1 : Sl wB 4 (.slice (some ⟨gB, 0, none⟩) nB capB) (bools S.idle ++ [.bool true]))
    (hx : wB.heap[sb]? = some (.cells c 116 (0, 0)) ∧ Sl wB 3 (.slice (some ⟨gA, 0, none⟩) nA capA) (ints S.prior ++ [.int .i64 p]) ∧ Chg (fun b => some b = v0.ownBlock ∨ some b = v1.ownBlock) w wB ∧
      Near w v0 (.slice (some ⟨gA, 0, none⟩) nA capA) ∧ Near w v1 (.slice (some ⟨gB, 0, none⟩) nB capB) ∧ gA ≠ gB ∧ gA ≠ sb ∧ gB ≠ sb) :
    Makes w sb F { S with prior := S.prior ++ [p], idle := S.idle ++ [true] } ((wB.setCell ⟨sb, 0, none⟩ (.slice (some ⟨gA, 0, none⟩) nA capA)).setCell ⟨sb, 1, none⟩ (.slice (some ⟨gB, 0, none⟩) nB capB)) :=
  spawn_end h hF p f0 f1 hx.1 hx.2.1 s1 hx.2.2.1 hx.2.2.2.1 hx.2.2.2.2.1 hx.2.2.2.2.2.1 hx.2.2.2.2.2.2.1 hx.2.2.2.2.2.2.2

theorem spawn_endBA {w wB : World} {sb : Nat} {tag : Nat → Option Tg} {S : St} {ps : List Nat} {c : Array Value} {F : Nat → Prop} (h : Sch w sb tag S ps c) (hF : ∀ k, F k ↔ tag k ≠ none) (p : Int)
    {v0 v1 : Value} {gA nA capA gB nB capB : Nat} (f0 : c[0]? = some v0) (f1 : c[1]? = some v1) (s0 : Sl wB 3 (.slice (some ⟨gA, 0, none⟩) nA capA) (ints S.prior ++ [.int .i64 p]))
    (hx : wB.heap[sb]? = some (.cells c 116 (0, 0)) ∧ Sl wB 4 (.slice (some ⟨gB, 0, none⟩) nB capB) (bools S.idle ++ [.bool true]) ∧ Chg (fun b => some b = v1.ownBlock ∨ some b = v0.ownBlock) w wB ∧
      Near w v1 (.slice (some ⟨gB, 0, none⟩) nB capB) ∧ Near w v0 (.slice (some ⟨gA, 0, none⟩) nA capA) ∧ gB ≠ gA ∧ gB ≠ sb ∧ gA ≠ sb) :
    Makes w sb F { S with prior := S.prior ++ [p], idle := S.idle ++ [true] } ((wB.setCell ⟨sb, 0, none⟩ (.slice (some ⟨gA, 0, none⟩) nA capA)).setCell ⟨sb, 1, none⟩ (.slice (some ⟨gB, 0, none⟩) nB capB)) :=
  spawn_end h hF p f0 f1 hx.1 s0 hx.2.1 (hx.2.2.1.mono fun _ _ h => h.symm) hx.2.2.2.2.1 hx.2.2.2.1 (Ne.symm hx.2.2.2.2.2.1) hx.2.2.2.2.2.2.2 hx.2.2.2.2.2.2.1

set_option maxRecDepth 100000 in
set_option maxHeartbeats 2000000 in
theorem spawn_good {w : World} {sb : Nat} {F : Nat → Prop} {S : St} {N : Nat} (hA : SchAt w sb F S) (hW : S.WF N) (p : Int) (hp1 : 1 ≤ p) (hp2 : p ≤ 8) (hl : S.prior.length ≠ 100) :
    Calls Tryz.prog 55 #[.pointer (some ⟨sb, 0, none⟩), .int .i64 p] w fun e w' => e = .returned (.tuple #[.int .i64 (S.prior.length + 1), .int .i64 0]) ∧ Makes w sb F { S with prior := S.prior ++ [p], idle := S.idle ++ [true] } w' := by
  obtain ⟨tag, ps, c, h, hF⟩ := id hA
  have hil := hW.il
  have hpl := hW.pl
  obtain ⟨v0, f0, g0, t0⟩ := h.fld 0 (by omega)
  obtain ⟨v1, f1, g1, t1⟩ := h.fld 1 (by omega)
  have e0 : S.fld ps 0 = ints S.prior := rfl
  have e1 : S.fld ps 1 = bools S.idle := rfl
  rw [e0] at g0
  rw [e1] at g1
  obtain ⟨a0, cap0, rfl⟩ := g0.shape
  obtain ⟨a1, cap1, rfl⟩ := g1.shape
  rw [length_ints] at f0 g0 t0
  rw [length_bools] at f1 g1 t1
  have hc0 : w.cell? ⟨sb, 0, none⟩ = some _ := cell_of_block h.hdr f0
  have hc1 : w.cell? ⟨sb, 1, none⟩ = some _ := cell_of_block h.hdr f1
  have hd : ((S.prior.length : Int) == 100) = false := by simp; omega
  have hbl := lt_of_block h.hdr
  have hil2 : S.idle.length ≤ 100 := by omega
  have hf0 := free_of_block h.hdr 0
  have hf1 := free_of_block h.hdr 1
  have hsep : ∀ g, (Value.slice a0 S.prior.length cap0).ownBlock = some g → (Value.slice a1 S.idle.length cap1).ownBlock ≠ some g := fun g e e' => by
    have := (t0 g e).symm.trans (t1 g e'); simp at this
  have hsb0 : (Value.slice a0 S.prior.length cap0).ownBlock ≠ some sb := fun e => by have := t0 sb e; rw [h.htag] at this; cases this
  have hsb1 : (Value.slice a1 S.idle.length cap1).ownBlock ≠ some sb := fun e => by have := t1 sb e; rw [h.htag] at this; cases this
  have hb0 : w.heap[sb]? = some (.cells c 116 (0,0)) := h.hdr
  have HB0 := Lib.hid hb0
  have F0 := Lib.hid f0
  have F1 := Lib.hid f1
  have T0 := Lib.hid t0
  have T1 := Lib.hid t1
  have HL := Lib.hid hl
  have HI := Lib.hid hil
  have HE := Lib.hid hsep
  have HS0 := Lib.hid hsb0
  have HS1 := Lib.hid hsb1
  have K0 := Kp.refl g0
  have K1 := Kp.refl g1
  have G0 := Lib.hid g0
  have G1 := Lib.hid g1
  clear f0 f1 t0 t1 hl hil e0 e1 hb0 hsep hsb0 hsb1 g0 g1
  go_enter Tryz.func55, Tryz.ntmps55
  go_upto_region 7 with (fail)
  go_cut [] (fun w' => Makes w sb F { S with prior := S.prior ++ [p], idle := S.idle ++ [true] } w')
  case first =>
    go_region_law
      (first
        | (refine step_push (v := .slice a0 S.prior.length cap0) rfl (.tmp 28) (.tmp 30) 28 3 rfl (.int .i64 0) 8 Tryz.underlying28 info3 rfl (ints S.prior) (length_ints _) rfl ?_ (.int .i64 p) rfl ?_ rfl ?_ ?_; ((first | exact (K0.alloc _).drew.sl G0.out | exact ((K0.alloc _).alloc _).drew.sl G0.out | exact KA0.out.sl G0.out | exact (KA0.out.alloc _).sl G0.out)); ((first | exact cell_of_block (heap_alloc_self' (by simp)) rfl | exact cell_of_block (heap_alloc_get (heap_alloc_self' (by simp))) rfl | exact cell_of_block (hCB.get (heap_alloc_self' (by simp)) HXB.out) rfl | exact cell_of_block (hCB.get (heap_alloc_get (heap_alloc_self' (by simp))) HXB.out) rfl | exact cell_of_block (hCB.get (heap_alloc_self' (by simp)) HYB.out) rfl | exact cell_of_block (hCB.get (heap_alloc_get (heap_alloc_self' (by simp))) HYB.out) rfl)); (omega); intro gA capA' wA hSA hCA hLA; (have HBA : Hid (wA.heap[sb]? = some (.cells c 116 (0,0))) := hCA.get (by (first | exact HB0.out | exact heap_alloc_get HB0.out | exact heap_alloc_get (heap_alloc_get HB0.out) | exact HBA.out | exact heap_alloc_get HBA.out | exact HBB.out | exact heap_alloc_get HBB.out)) (fun e => HS0.out e.symm)); (first | (have KA1 := Lib.hid (Kp.chg (K1.alloc _).drew hCA (fun g hg e => HE.out g e.symm hg))) | (have KA1 := Lib.hid (Kp.chg ((K1.alloc _).alloc _).drew hCA (fun g hg e => HE.out g e.symm hg))) | skip); (have HXA : Hid (¬ (some w.heap.size = (Value.slice a0 S.prior.length cap0).ownBlock)) := fun e => by have := (K0.row _ e.symm).1; omega); (have HYA : Hid (¬ (some (w.heap.size + 1) = (Value.slice a0 S.prior.length cap0).ownBlock)) := fun e => by have := (K0.row _ e.symm).1; omega); have cA0 : wA.cell? ⟨sb, 0, none⟩ = some (.slice a0 S.prior.length cap0) := cell_of_block HBA.out F0.out; have fA0 := free_of_block HBA.out 0; have cA1 : wA.cell? ⟨sb, 1, none⟩ = some (.slice a1 S.idle.length cap1) := cell_of_block HBA.out F1.out; have fA1 := free_of_block HBA.out 1; have lA := lt_of_block HBA.out)
        | (refine step_push (v := .slice a1 S.idle.length cap1) rfl (.tmp 35) (.tmp 36) 110 4 rfl (.bool false) 1 Tryz.underlying110 info4 rfl (bools S.idle) (length_bools _) rfl ?_ (.bool true) rfl ?_ rfl ?_ ?_; ((first | exact (K1.alloc _).drew.sl G1.out | exact ((K1.alloc _).alloc _).drew.sl G1.out | exact KA1.out.sl G1.out | exact (KA1.out.alloc _).sl G1.out)); ((first | exact cell_of_block (heap_alloc_self' (by simp)) rfl | exact cell_of_block (heap_alloc_get (heap_alloc_self' (by simp))) rfl | exact cell_of_block (hCA.get (heap_alloc_self' (by simp)) HXA.out) rfl | exact cell_of_block (hCA.get (heap_alloc_get (heap_alloc_self' (by simp))) HXA.out) rfl | exact cell_of_block (hCA.get (heap_alloc_self' (by simp)) HYA.out) rfl | exact cell_of_block (hCA.get (heap_alloc_get (heap_alloc_self' (by simp))) HYA.out) rfl)); (omega); intro gB capB' wB hSB hCB hLB; (have HBB : Hid (wB.heap[sb]? = some (.cells c 116 (0,0))) := hCB.get (by (first | exact HB0.out | exact heap_alloc_get HB0.out | exact heap_alloc_get (heap_alloc_get HB0.out) | exact HBA.out | exact heap_alloc_get HBA.out | exact HBB.out | exact heap_alloc_get HBB.out)) (fun e => HS1.out e.symm)); (first | (have KA0 := Lib.hid (Kp.chg (K0.alloc _).drew hCB (fun g hg e => HE.out g hg e.symm))) | (have KA0 := Lib.hid (Kp.chg ((K0.alloc _).alloc _).drew hCB (fun g hg e => HE.out g hg e.symm))) | skip); (have HXB : Hid (¬ (some w.heap.size = (Value.slice a1 S.idle.length cap1).ownBlock)) := fun e => by have := (K1.row _ e.symm).1; omega); (have HYB : Hid (¬ (some (w.heap.size + 1) = (Value.slice a1 S.idle.length cap1).ownBlock)) := fun e => by have := (K1.row _ e.symm).1; omega); have cB0 : wB.cell? ⟨sb, 0, none⟩ = some (.slice a0 S.prior.length cap0) := cell_of_block HBB.out F0.out; have fB0 := free_of_block HBB.out 0; have cB1 : wB.cell? ⟨sb, 1, none⟩ = some (.slice a1 S.idle.length cap1) := cell_of_block HBB.out F1.out; have fB1 := free_of_block HBB.out 1; have lB := lt_of_block HBB.out))
    all_goals go_wp2_with fail
    all_goals go_meet
    all_goals first | exact spawn_endAB h hF p F0.out F1.out hSB (spawn_ab G0.out G1.out HE.out (((Chg.refl _ w).alloc _).drew) hSA hCA hLA ((Chg.refl _ _)) hSB hCB hLB HS0.out HS1.out hbl HB0.out) | exact spawn_endAB h hF p F0.out F1.out hSB (spawn_ab G0.out G1.out HE.out (((Chg.refl _ w).alloc _).drew) hSA hCA hLA ((Chg.refl _ _).alloc _) hSB hCB hLB HS0.out HS1.out hbl HB0.out) | exact spawn_endAB h hF p F0.out F1.out hSB (spawn_ab G0.out G1.out HE.out ((((Chg.refl _ w).alloc _).alloc _).drew) hSA hCA hLA ((Chg.refl _ _)) hSB hCB hLB HS0.out HS1.out hbl HB0.out) | exact spawn_endAB h hF p F0.out F1.out hSB (spawn_ab G0.out G1.out HE.out ((((Chg.refl _ w).alloc _).alloc _).drew) hSA hCA hLA ((Chg.refl _ _).alloc _) hSB hCB hLB HS0.out HS1.out hbl HB0.out) | exact spawn_endBA h hF p F0.out F1.out hSA (spawn_ab G1.out G0.out (fun g e e' => HE.out g e' e) (((Chg.refl _ w).alloc _).drew) hSB hCB hLB ((Chg.refl _ _)) hSA hCA hLA HS1.out HS0.out hbl HB0.out) | exact spawn_endBA h hF p F0.out F1.out hSA (spawn_ab G1.out G0.out (fun g e e' => HE.out g e' e) (((Chg.refl _ w).alloc _).drew) hSB hCB hLB ((Chg.refl _ _).alloc _) hSA hCA hLA HS1.out HS0.out hbl HB0.out) | exact spawn_endBA h hF p F0.out F1.out hSA (spawn_ab G1.out G0.out (fun g e e' => HE.out g e' e) ((((Chg.refl _ w).alloc _).alloc _).drew) hSB hCB hLB ((Chg.refl _ _)) hSA hCA hLA HS1.out HS0.out hbl HB0.out) | exact spawn_endBA h hF p F0.out F1.out hSA (spawn_ab G1.out G0.out (fun g e e' => HE.out g e' e) ((((Chg.refl _ w).alloc _).alloc _).drew) hSB hCB hLB ((Chg.refl _ _).alloc _) hSA hCA hLA HS1.out HS0.out hbl HB0.out)
  case rest =>
    obtain ⟨F', hA', hG'⟩ := hcut
    obtain ⟨a, cap, hl'⟩ := hA'.lens
    have e : ((S.prior ++ [p]).length) = S.prior.length + 1 := by simp
    dsimp only at hl'
    rw [e] at hl'
    clear e
    go_wp2
    go_ret2
    exact ⟨rfl, F', hA', hG'⟩
end Go.Proofs.YtlfbommppenlcaaGreatDoor
