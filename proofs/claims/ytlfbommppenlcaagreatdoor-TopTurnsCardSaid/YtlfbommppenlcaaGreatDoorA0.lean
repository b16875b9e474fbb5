/- Plain lemmas on the model's memory: what a call may change ('Chg'), a slice that owns its row ('Sl'), and append by these words. Conditions: none. -/
import Derived.WalkKit
import Derived.WalkSpells
import Derived.WalkLawsBesides
import Derived.Maps.AppendAt
import Derived.Deep.DeepMust
import Derived.Lib.Hide
namespace Go.Mem
open Go.RowKit

/-- But for the blocks in F, and new ones, w' is as w was. -/
structure Chg (F : Nat → Prop) (w w' : World) : Prop where
  os : w'.os = w.os
  tape : w'.tape = w.tape
  output : w'.output = w.output
  size : w.heap.size ≤ w'.heap.size
  block : ∀ k, k < w.heap.size → ¬ F k → w'.heap[k]? = w.heap[k]?

theorem Chg.refl (F : Nat → Prop) (w : World) : Chg F w w := ⟨rfl, rfl, rfl, Nat.le_refl _, fun _ _ _ => rfl⟩
theorem Chg.mono {F G : Nat → Prop} {w w' : World} (h : Chg F w w') (hFG : ∀ k, k < w.heap.size → F k → G k) : Chg G w w' :=
  ⟨h.os, h.tape, h.output, h.size, fun k hk hg => h.block k hk fun hf => hg (hFG k hk hf)⟩
/-- One change behind another: the second may touch what the first may, and what is new. -/
theorem Chg.trans {F G : Nat → Prop} {a b c : World} (h : Chg F a b) (k : Chg G b c) (hG : ∀ i, i < a.heap.size → G i → F i) : Chg F a c :=
  ⟨k.os.trans h.os, k.tape.trans h.tape, k.output.trans h.output, Nat.le_trans h.size k.size,
   fun i hi hf => (k.block i (Nat.lt_of_lt_of_le hi h.size) fun hg => hf (hG i hi hg)).trans (h.block i hi hf)⟩
theorem Chg.drew {F : Nat → Prop} {a w : World} (h : Chg F a w) : Chg F a w.drew := ⟨h.os, h.tape, h.output, h.size, h.block⟩
theorem Chg.drewN {F : Nat → Prop} {a w : World} (h : Chg F a w) (n : Nat) : Chg F a (w.drewN n) := ⟨h.os, h.tape, h.output, h.size, h.block⟩
theorem Chg.alloc {F : Nat → Prop} {a w : World} (h : Chg F a w) (o : Obj) : Chg F a (w.alloc o) :=
  h.trans (G := fun _ => False) ⟨rfl, rfl, rfl, by simp, fun k hk _ => Below.heap_alloc _ _ _ hk⟩ (fun _ _ h => h.elim)
theorem Chg.setCell {F : Nat → Prop} {a w : World} (h : Chg F a w) {p : Addr} (hp : p.block < a.heap.size → F p.block) (u : Value) : Chg F a (w.setCell p u) :=
  h.trans (G := fun k => k = p.block) ⟨rfl, rfl, rfl, by simp [World.setCell], fun k _ hk => Below.heap_setCell _ _ _ _ hk⟩ (fun i hi e => by subst e; exact hp hi)
theorem Chg.grown {F : Nat → Prop} {a w w' : World} {row : Option Nat} (h : Chg F a w) (hg : w.grownBy w' row) (hr : ∀ k, row = some k → k < a.heap.size → F k) : Chg F a w' :=
  h.trans (G := fun k => some k = row) ⟨hg.os, hg.tape, hg.output, hg.size, fun k hk hn => hg.block k hk hn⟩ (fun i hi e => hr i e.symm hi)
theorem Chg.of_grown {w w' : World} {row : Option Nat} (hg : w.grownBy w' row) : Chg (fun k => some k = row) w w' :=
  ⟨hg.os, hg.tape, hg.output, hg.size, fun k hk hn => hg.block k hk hn⟩
theorem Chg.of_below {B : Nat} {w w' : World} (h : Below B w w') : Chg (fun k => B ≤ k) w w' :=
  ⟨h.os, h.tape, h.output, h.size, fun k _ hn => h.block k (by omega)⟩
theorem Chg.of_below' {F : Nat → Prop} {w w' : World} (h : Below w.heap.size w w') : Chg F w w' :=
  ⟨h.os, h.tape, h.output, h.size, fun k hk _ => h.block k hk⟩
theorem Chg.below {F : Nat → Prop} {B : Nat} {w w' : World} (h : Chg F w w') (hB : B ≤ w.heap.size) (hF : ∀ k, k < B → ¬ F k) : Below B w w' :=
  ⟨h.os, h.tape, h.output, h.size, fun k hk => h.block k (by omega) (hF k hk)⟩
theorem Chg.cell {F : Nat → Prop} {w w' : World} (h : Chg F w w') {p : Addr} (hp : p.block < w.heap.size) (hF : ¬ F p.block) : w'.cell? p = w.cell? p :=
  World.cell?_of_block (w := w) (h.block p.block hp hF)
theorem Chg.get {F : Nat → Prop} {w w' : World} (h : Chg F w w') {k : Nat} {o : Obj} (hk : w.heap[k]? = some o) (hF : ¬ F k) : w'.heap[k]? = some o :=
  (h.block k (Array.getElem?_eq_some_iff.1 hk).1 hF).trans hk

/-! ### blocks behind the steps of a walk -/
theorem lt_of_block {w : World} {k : Nat} {o : Obj} (h : w.heap[k]? = some o) : k < w.heap.size := (Array.getElem?_eq_some_iff.1 h).1
theorem heap_setCell_at {w : World} {b o : Nat} {v : Value} {c : Array Value} {T : TypeId} {fz : Nat × Nat} (h : w.heap[b]? = some (.cells c T fz)) :
    (w.setCell ⟨b, o, none⟩ v).heap[b]? = some (.cells (c.setIfInBounds o v) T fz) := by
  simp [World.setCell, Array.getElem?_modify, h]
theorem heap_setCell_ne {w : World} {a : Addr} {v : Value} {k : Nat} (h : k ≠ a.block) : (w.setCell a v).heap[k]? = w.heap[k]? := Below.heap_setCell _ _ _ _ h
theorem heap_alloc_lt {w : World} {o : Obj} {k : Nat} (h : k < w.heap.size) : (w.alloc o).heap[k]? = w.heap[k]? := Below.heap_alloc _ _ _ h
theorem heap_alloc_get {w : World} {o x : Obj} {k : Nat} (h : w.heap[k]? = some x) : (w.alloc o).heap[k]? = some x := (heap_alloc_lt (lt_of_block h)).trans h
theorem heap_alloc_self {w : World} {o : Obj} : (w.alloc o).heap[w.heap.size]? = some o := Go.heap_alloc_new w o
theorem cell_of_block {w : World} {b o : Nat} {v : Value} {c : Array Value} {T : TypeId} {fz : Nat × Nat} (h : w.heap[b]? = some (.cells c T fz)) (hv : c[o]? = some v) :
    w.cell? ⟨b, o, none⟩ = some v := by simp [World.cell?, h, hv]
theorem free_of_block {w : World} {b : Nat} {c : Array Value} {T : TypeId} (h : w.heap[b]? = some (.cells c T (0, 0))) (o : Nat) :
    w.frozen? ⟨b, o, none⟩ = false := by simp [World.frozen?, h]

/-! ### slices of one-cell elements that own their row from its head -/
def Sl (w : World) (T : TypeId) (v : Value) (l : List Value) : Prop := w.ownsRow 0 T 1 v l.length l

theorem Sl.nil (w : World) (T : TypeId) : Sl w T (.slice none 0 0) [] := World.ownsRow_nil w 0 T 1
theorem Sl.kept {w w' : World} {T : TypeId} {v : Value} {l : List Value} (h : Sl w T v l) (hk : ∀ g, v.ownBlock = some g → w'.heap[g]? = w.heap[g]?) : Sl w' T v l := by
  refine ⟨h.1, ?_⟩
  rcases h.2 with hn | ⟨g, cap, cur, rfl, hb, hg, r⟩
  · exact .inl hn
  · exact .inr ⟨g, cap, cur, rfl, hb, (hk g rfl).trans hg, r⟩
theorem Sl.chg {F : Nat → Prop} {w w' : World} {T : TypeId} {v : Value} {l : List Value} (h : Sl w T v l) (hc : Chg F w w') (hF : ∀ g, v.ownBlock = some g → ¬ F g) : Sl w' T v l :=
  h.kept fun g hg => hc.block g (World.ownsRow.lt h g hg).2 (hF g hg)
theorem Sl.lt {w : World} {T : TypeId} {v : Value} {l : List Value} (h : Sl w T v l) {g : Nat} (hg : v.ownBlock = some g) : g < w.heap.size := (World.ownsRow.lt h g hg).2
/-- The two shapes. -/
theorem Sl.cases {w : World} {T : TypeId} {v : Value} {l : List Value} (h : Sl w T v l) :
    (v = .slice none 0 0 ∧ l = []) ∨ ∃ g cap cur, v = .slice (some ⟨g, 0, none⟩) l.length cap ∧ w.heap[g]? = some (.cells cur T (0, 0)) ∧ l.length ≤ cap ∧ cap ≤ maxLen ∧ cur.size = cap ∧ cur.toList.take l.length = l := by
  rcases h.2 with ⟨hn, hl⟩ | ⟨g, cap, cur, hv, _, hg, h1, h2, h3, h4⟩
  · exact .inl ⟨hn, List.eq_nil_of_length_eq_zero hl⟩
  · exact .inr ⟨g, cap, cur, hv, hg, h1, h2, by simpa using h3, by simpa using h4⟩
theorem Sl.mk {w : World} {T : TypeId} {g cap : Nat} {cur : Array Value} {l : List Value} (hg : w.heap[g]? = some (.cells cur T (0, 0))) (h1 : l.length ≤ cap) (h2 : cap ≤ maxLen) (h3 : cur.size = cap)
    (h4 : cur.toList.take l.length = l) : Sl w T (.slice (some ⟨g, 0, none⟩) l.length cap) l :=
  ⟨by simp, .inr ⟨g, cap, cur, rfl, Nat.zero_le _, hg, h1, h2, by simpa using h3, by simpa using h4⟩⟩
/-- Its shape as far as len goes. -/
theorem Sl.shape {w : World} {T : TypeId} {v : Value} {l : List Value} (h : Sl w T v l) : ∃ a cap, v = .slice a l.length cap := by
  rcases h.cases with ⟨rfl, rfl⟩ | ⟨g, cap, cur, hv, _⟩
  · exact ⟨_, _, rfl⟩
  · exact ⟨_, _, hv⟩
/-- An element's cell. -/
theorem Sl.at {w : World} {T : TypeId} {v : Value} {l : List Value} (h : Sl w T v l) (hl : 0 < l.length) :
    ∃ g cap, v = .slice (some ⟨g, 0, none⟩) l.length cap ∧ l.length ≤ cap ∧ cap ≤ maxLen ∧ (∀ i u, l[i]? = some u → w.cell? ⟨g, i, none⟩ = some u) ∧ ∀ i, w.frozen? ⟨g, i, none⟩ = false := by
  rcases h.cases with ⟨rfl, rfl⟩ | ⟨g, cap, cur, hv, hg, h1, h2, h3, h4⟩
  · simp at hl
  · refine ⟨g, cap, hv, h1, h2, fun i u hu => cell_of_block hg ?_, fun i => free_of_block hg i⟩
    rw [← h4, List.getElem?_take] at hu
    split at hu
    · simpa using hu
    · cases hu
/-- A store at an index. -/
theorem Sl.set {w : World} {T : TypeId} {g n cap : Nat} {l : List Value} (h : Sl w T (.slice (some ⟨g, 0, none⟩) n cap) l) (i : Nat) (u : Value) :
    Sl (w.setCell ⟨g, i, none⟩ u) T (.slice (some ⟨g, 0, none⟩) n cap) (l.set i u) ∨ l.length ≤ i := by
  by_cases hi : l.length ≤ i
  · exact .inr hi
  refine .inl ?_
  rcases h.cases with ⟨hv, _⟩ | ⟨g', cap', cur, hv, hg, h1, h2, h3, h4⟩
  · cases hv
  · cases hv
    have := Sl.mk (l := l.set i u) (cur := cur.setIfInBounds i u) (cap := cap) (T := T) (heap_setCell_at (o := i) (v := u) hg) (by simpa using h1) h2 (by simpa using h3) (by
      rw [List.length_set, Array.toList_setIfInBounds, List.take_set]; rw [h4])
    simpa using this

/-! ### append -/
section
variable {P : Program}
theorem wpList_push {w : World} {ops : Array Oper} {rest : List Oper} {o : Oper} {a : Act} {Q : Exit → Act → World → Prop} (hgd : o.guard = none) (s x : Operand) (t e : TypeId)
    (ho : o.op = .call { callee := .builtin .append, args := #[s, x], argTypes := #[t, t] })
    (z : Value) (bytes : Nat) (ht : P.underlying t = some (.slice e)) (hi : (P.info? e).map (fun i => (i.zero, i.size, i.bytes)) = some (some z, 1, bytes)) (hzs : z.cells.size = 1)
    (v : Value) (l : List Value) (hs : a.eval s = v) (hS : Sl w e v l) (g : Nat) (u : Value) (hx : a.eval x = .slice (some ⟨g, 0, none⟩) 1 1)
    (hu : w.cell? ⟨g, 0, none⟩ = some u) (h1 : u.oneCell' = true) (hlen : (l.length + 1) * (bytes + 1) ≤ 140737488355328)
    (h : ∀ g' cap' w', Sl w' e (.slice (some ⟨g', 0, none⟩) (l.length + 1) cap') (l ++ [u]) → Chg (fun k => some k = v.ownBlock) w w' → (v.ownBlock = some g' ∨ g' = w.heap.size) → wpList P ops Q rest (a.put o.dst (.slice (some ⟨g', 0, none⟩) (l.length + 1) cap')) w') :
    wpList P ops Q (o :: rest) a w := by
  obtain ⟨i0, hi0, hz0, hz1, hz2⟩ := info_parts hi
  have hb : (l.length + 1) * (bytes + 1) = (l.length + 1) * bytes + (l.length + 1) := by rw [Nat.mul_add, Nat.mul_one]
  refine wpList_append_own_at w hgd s x t ho 0 e i0 z 1 bytes ht hi0 hz0 hz1 hz2 hzs (by decide) v l.length l hs hS ⟨g, 0, none⟩ 1 1 [u] hx rfl ?_ ?_ ?_ ?_ (Nat.zero_le _) ?_
  · intro j u' hj
    rcases j with _ | j
    · simp at hj; subst hj; exact hu
    · simp at hj
  · intro u' hu'; simp at hu'; subst hu'; exact h1
  · unfold maxLen; omega
  · omega
  · intro v' w' hown hg _ hloc
    have hS' : Sl w' e v' (l ++ [u]) := by unfold Sl; simpa using hown
    rcases hS'.cases with ⟨_, hn⟩ | ⟨g', cap', _, hv', _⟩
    · simp at hn
    · rw [List.length_append, List.length_singleton] at hv'
      subst hv'
      refine h g' cap' w' hS' (Chg.of_grown hg) ?_
      rcases hloc with h1 | h1
      · exact .inl h1.symm
      · exact .inr (Option.some.inj h1)
end

def ints (l : List Int) : List Value := l.map (Value.int .i64)
@[simp] theorem length_ints (l : List Int) : (ints l).length = l.length := by simp [ints]
theorem ints_get {l : List Int} {i : Nat} (h : i < l.length) : (ints l)[i]? = some (.int .i64 (l.getD i 0)) := by simp [ints, List.getD, h]
theorem ints_append (l m : List Int) : ints (l ++ m) = ints l ++ ints m := by simp [ints]
theorem ints_set (l : List Int) (i : Nat) (x : Int) : ints (l.set i x) = (ints l).set i (.int .i64 x) := by simp [ints, List.map_set]
end Go.Mem
