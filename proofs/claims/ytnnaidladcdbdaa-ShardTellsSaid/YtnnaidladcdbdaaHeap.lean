/- Plain lemmas, without a program in sight: rings of nodes in memory, maps in memory as lists of pairs, and what a call leaves as it was. -/
import Derived.WalkKit
import Derived.WalkSpells
import Derived.WalkLawsBesides
import Derived.Maps.OwnSet
import Derived.Lib.Hide
import Derived.BigRegion
import Derived.Deep.RegionWith
import Derived.Deep.QuietTactic
import Derived.BigQuiet
namespace Go.Proofs.Ytnnaidladcdbdaa
open Go.RowKit Go.ChangeMaps Go.MapKept
open Go.Maps (Keyed)

/-! ### 1. What a call leaves as it was: only blocks of F, and new ones, may differ -/

structure Ch (F : Nat → Prop) (w w' : World) : Prop where
  os : w'.os = w.os
  tape : w'.tape = w.tape
  output : w'.output = w.output
  size : w.heap.size ≤ w'.heap.size
  block : ∀ b, b < w.heap.size → ¬ F b → w'.heap[b]? = w.heap[b]?

theorem Ch.refl (F : Nat → Prop) (w : World) : Ch F w w := ⟨rfl, rfl, rfl, Nat.le_refl _, fun _ _ _ => rfl⟩

theorem Ch.mono {F G : Nat → Prop} {w w' : World} (h : Ch F w w') (hFG : ∀ b, b < w.heap.size → F b → G b) : Ch G w w' :=
  ⟨h.os, h.tape, h.output, h.size, fun b hb hG => h.block b hb (fun hF => hG (hFG b hb hF))⟩

/-- Two steps; the second's F may hold what the first has made. -/
theorem Ch.trans {F G : Nat → Prop} {a b c : World} (h : Ch F a b) (k : Ch G b c) (hG : ∀ x, x < a.heap.size → G x → F x) : Ch F a c :=
  ⟨k.os.trans h.os, k.tape.trans h.tape, k.output.trans h.output, Nat.le_trans h.size k.size,
    fun x hx hF => (k.block x (Nat.lt_of_lt_of_le hx h.size) (fun hg => hF (hG x hx hg))).trans (h.block x hx hF)⟩

theorem Ch.drew {F : Nat → Prop} {a w : World} (h : Ch F a w) : Ch F a w.drew := ⟨h.os, h.tape, h.output, h.size, h.block⟩
theorem Ch.drewN {F : Nat → Prop} {a w : World} (h : Ch F a w) (n : Nat) : Ch F a (w.drewN n) := ⟨h.os, h.tape, h.output, h.size, h.block⟩

theorem Ch.alloc {F : Nat → Prop} {a w : World} (h : Ch F a w) (o : Obj) : Ch F a (w.alloc o) :=
  ⟨h.os, h.tape, h.output, Nat.le_trans h.size (by simp), fun b hb hF => by
    rw [Below.heap_alloc _ _ _ (Nat.lt_of_lt_of_le hb h.size)]; exact h.block b hb hF⟩

theorem Ch.setCell {F : Nat → Prop} {a w : World} (h : Ch F a w) {p : Addr} (hp : p.block < a.heap.size → F p.block) (u : Value) : Ch F a (w.setCell p u) :=
  ⟨h.os, h.tape, h.output, by simpa using h.size, fun b hb hF => by
    rw [Below.heap_setCell _ _ _ _ (fun e => by subst e; exact hF (hp hb))]; exact h.block b hb hF⟩

theorem Ch.setBlock {F : Nat → Prop} {a w : World} (h : Ch F a w) {m : Nat} (hm : m < a.heap.size → F m) (o : Obj) : Ch F a (setBlock w m o) :=
  ⟨h.os, h.tape, h.output, by simpa [ChangeMaps.setBlock] using h.size, fun b hb hF => by
    have hne : b ≠ m := fun e => by subst e; exact hF (hm hb)
    have : (ChangeMaps.setBlock w m o).heap[b]? = w.heap[b]? := by
      simp only [ChangeMaps.setBlock, Array.getElem?_setIfInBounds]
      rw [if_neg (fun e => hne e.symm)]
    rw [this]; exact h.block b hb hF⟩

theorem Ch.grown {F : Nat → Prop} {a w w' : World} {row : Option Nat} (h : Ch F a w) (hg : w.grownBy w' row) (hr : ∀ k, row = some k → k < a.heap.size → F k) : Ch F a w' :=
  ⟨hg.os.trans h.os, hg.tape.trans h.tape, hg.output.trans h.output, Nat.le_trans h.size hg.size, fun b hb hF => by
    rw [hg.block b (Nat.lt_of_lt_of_le hb h.size) (fun e => hF (hr b e.symm hb))]; exact h.block b hb hF⟩

theorem Ch.cell {F : Nat → Prop} {w w' : World} (h : Ch F w w') {p : Addr} (hp : p.block < w.heap.size) (hF : ¬ F p.block) : w'.cell? p = w.cell? p :=
  World.cell?_of_block (w := w) (h.block p.block hp hF)

theorem Ch.frozen {F : Nat → Prop} {w w' : World} (h : Ch F w w') {p : Addr} (hp : p.block < w.heap.size) (hF : ¬ F p.block) : w'.frozen? p = w.frozen? p :=
  World.frozen?_of_block (w := w) (h.block p.block hp hF)

theorem Ch.below {F : Nat → Prop} {B : Nat} {w w' : World} (h : Ch F w w') (hB : B ≤ w.heap.size) (hF : ∀ b, b < B → ¬ F b) : Below B w w' :=
  ⟨h.os, h.tape, h.output, h.size, fun b hb => h.block b (Nat.lt_of_lt_of_le hb hB) (hF b hb)⟩

theorem Ch.of_below {B : Nat} {w w' : World} (h : Below B w w') : Ch (fun b => B ≤ b) w w' :=
  ⟨h.os, h.tape, h.output, h.size, fun b _ hb => h.block b (by omega)⟩

theorem Ch.of_none {w w' : World} (h : Below w.heap.size w w') (F : Nat → Prop) : Ch F w w' :=
  ⟨h.os, h.tape, h.output, h.size, fun b hb _ => h.block b hb⟩

theorem Ch.of_drewN {F : Nat → Prop} {w w' : World} {n : Nat} (h : Ch F (w.drewN n) w') : Ch F w w' := ⟨h.os, h.tape, h.output, h.size, h.block⟩
theorem Ch.of_drew {F : Nat → Prop} {w w' : World} (h : Ch F w.drew w') : Ch F w w' := ⟨h.os, h.tape, h.output, h.size, h.block⟩

theorem quiet_same {P : Program} {f : FuncId} {args : Array Value} {w : World} {n : Nat} {v : Value}
    (h : Calls P f args (w.drewN n) fun e w' => e = .returned v ∧ w.drewN n = w') : Calls P f args (w.drewN n) fun e w'' => e = .returned v ∧ ∃ m, w'' = w.drewN m :=
  h.mono fun _ _ ⟨he, hm⟩ => ⟨he, n, hm.symm⟩

/-- Behind the one operation of a region that writes, the rest only reads: one walk in the order of the text. -/
theorem wpAny_rest {P : Program} {md : Region.Mode} {ops : Array Oper} {Q : Exit → Act → World → Prop} {fuel : Nat} {listed : Array Bool} {a : Act} {w : World} (k : Nat) (hs : Region.noSelect ops = true)
    (hf : fuel = (ops.toList.drop k).length) (hB : Region.lexFrom md ops (ops.toList.drop k).length k listed = true)
    (h : wpQuiet P ops (fun w' => ∃ n, w' = w.drewN n) (fun a' => ∀ w', (∃ n, w' = w.drewN n) → Q .normal a' w') (ops.toList.drop k) a) : wpAny P md ops Q fuel listed a w := by
  subst hf
  exact wpAny_of_quiet (C := fun w' => ∃ n, w' = w.drewN n) (Q := fun a' => ∀ w', (∃ n, w' = w.drewN n) → Q .normal a' w') (fun _ w' hw' h => h w' hw') _ _ _ _ ⟨0, rfl⟩
    (wpAnyQ_lex hs (ops.toList.drop k) k listed a (fun j => by simp) hB h)

/-! ### 2. Rings -/

/-- The address of a field of the node at x. -/
abbrev fld (x : Nat × Nat) (o : Nat) : Addr := ⟨x.1, x.2 + o, none⟩
abbrev pt (x : Nat × Nat) : Value := .pointer (some ⟨x.1, x.2, none⟩)

/-- y stands behind x: x's next is y, y's prev is x (prev at d, next at d + 1). -/
structure Link (w : World) (d : Nat) (x y : Nat × Nat) : Prop where
  next : w.cell? (fld x (d + 1)) = some (pt y)
  prev : w.cell? (fld y d) = some (pt x)

def Chain (w : World) (d : Nat) : List (Nat × Nat) → Prop
  | x :: y :: r => Link w d x y ∧ Chain w d (y :: r)
  | _ => True

theorem chain_one (w : World) (d : Nat) (x : Nat × Nat) : Chain w d [x] := trivial

theorem chain_mid {w : World} {d : Nat} (x : Nat × Nat) (l2 : List (Nat × Nat)) : ∀ l1, Chain w d (l1 ++ x :: l2) ↔ Chain w d (l1 ++ [x]) ∧ Chain w d (x :: l2)
  | [] => by simp [Chain]
  | [a] => by simp [Chain]
  | a :: b :: r => by
    have ih := chain_mid (w := w) (d := d) x l2 (b :: r)
    simp only [List.cons_append] at ih ⊢
    simp only [Chain]
    rw [ih, and_assoc]

theorem chain_congr {w w' : World} {d : Nat} : ∀ {l : List (Nat × Nat)}, (∀ x ∈ l.dropLast, w'.cell? (fld x (d + 1)) = w.cell? (fld x (d + 1))) → (∀ y ∈ l.tail, w'.cell? (fld y d) = w.cell? (fld y d)) → Chain w d l → Chain w' d l
  | [], _, _, _ => trivial
  | [_], _, _, _ => trivial
  | x :: y :: r, h1, h2, h => by
    refine ⟨⟨(h1 x (by simp)).trans h.1.next, (h2 y (by simp)).trans h.1.prev⟩, chain_congr (fun a ha => h1 a ?_) (fun a ha => h2 a ?_) h.2⟩
    · simp only [List.dropLast_cons_cons, List.mem_cons]; exact Or.inr ha
    · simp only [List.tail_cons] at ha ⊢; exact List.mem_cons_of_mem _ ha

/-- What the world must be behind the two stores of 'out'. -/
theorem ring_out {w : World} {d : Nat} {r x : Nat × Nat} {a b : List (Nat × Nat)} (h : Chain w d (r :: (a ++ x :: b) ++ [r])) (hn : ((r :: (a ++ x :: b)).map Prod.fst).Nodup) :
    ∃ u v : Nat × Nat, u ∈ r :: (a ++ b) ∧ v ∈ r :: (a ++ b) ∧ w.cell? (fld x d) = some (pt u) ∧ w.cell? (fld x (d + 1)) = some (pt v) ∧
      w.cell? (fld u (d + 1)) = some (pt x) ∧ w.cell? (fld v d) = some (pt x) ∧ fld u (d + 1) ≠ fld v d ∧ u.1 ≠ x.1 ∧ v.1 ≠ x.1 ∧
      Chain ((w.setCell (fld u (d + 1)) (pt v)).setCell (fld v d) (pt u)) d (r :: (a ++ b) ++ [r]) := by
  -- u: the last of r :: a; v: the head of b ++ [r]
  obtain ⟨la, u, hu⟩ : ∃ la u, r :: a = la ++ [u] := ⟨(r :: a).dropLast, (r :: a).getLast (by simp), (List.dropLast_concat_getLast (by simp)).symm⟩
  obtain ⟨v, lb, hv⟩ : ∃ v lb, b ++ [r] = v :: lb := by
    cases b with
    | nil => exact ⟨r, [], rfl⟩
    | cons c t => exact ⟨c, t ++ [r], rfl⟩
  have e1 : r :: (a ++ x :: b) ++ [r] = la ++ u :: x :: v :: lb := by
    have : r :: (a ++ x :: b) ++ [r] = (r :: a) ++ x :: (b ++ [r]) := by simp
    rw [this, hu, hv]; simp
  have e2 : r :: (a ++ b) ++ [r] = la ++ u :: v :: lb := by
    have : r :: (a ++ b) ++ [r] = (r :: a) ++ (b ++ [r]) := by simp
    rw [this, hu, hv]; simp
  rw [e1] at h
  obtain ⟨h1, h2⟩ := (chain_mid u (x :: v :: lb) la).1 h
  obtain ⟨k1, h3⟩ := h2
  obtain ⟨k2, h4⟩ := h3
  -- blocks apart
  have hn1 : ((r :: a).map Prod.fst ++ x.1 :: b.map Prod.fst).Nodup := by simpa using hn
  rw [hu] at hn1
  simp only [List.map_append, List.map_cons, List.map_nil, List.append_assoc, List.singleton_append] at hn1
  obtain ⟨na, nb, nab⟩ := List.nodup_append.1 hn1
  obtain ⟨nu, nb'⟩ := List.nodup_cons.1 nb
  obtain ⟨nx, nbb⟩ := List.nodup_cons.1 nb'
  have hux : u.1 ≠ x.1 := fun e => nu (by rw [e]; simp)
  have hrin : r ∈ la ++ [u] := by rw [← hu]; simp
  have hvin : v ∈ b ++ [r] := by rw [hv]; simp
  have hrx : r.1 ≠ x.1 := by
    rcases List.mem_append.1 hrin with hr | hr
    · exact nab _ (List.mem_map_of_mem hr) _ (by simp)
    · simp only [List.mem_singleton] at hr; rw [hr]; exact hux
  have hvx : v.1 ≠ x.1 := by
    rcases List.mem_append.1 hvin with hb | hb
    · exact fun e => nx (by rw [← e]; exact List.mem_map_of_mem hb)
    · simp only [List.mem_singleton] at hb; rw [hb]; exact hrx
  have humem : u ∈ r :: a := by rw [hu]; simp
  have hne : fld u (d + 1) ≠ fld v d := by
    intro e
    simp only [fld, Addr.mk.injEq, and_true] at e
    obtain ⟨eb, eo⟩ := e
    rcases List.mem_append.1 hvin with hb | hb
    · exact nu (by rw [eb]; exact List.mem_cons_of_mem _ (List.mem_map_of_mem hb))
    · simp only [List.mem_singleton] at hb
      subst hb
      -- u and the ring lie in one block: they are one
      rw [hu] at humem
      rcases List.mem_append.1 hrin with hr | hr
      · exact nab _ (List.mem_map_of_mem hr) u.1 (by simp) eb.symm
      · simp only [List.mem_singleton] at hr
        subst hr
        omega
  refine ⟨u, v, ?_, ?_, k1.prev, k2.next, k1.next, k2.prev, hne, hux, hvx, ?_⟩
  · have : u ∈ r :: a := humem
    simp only [List.mem_cons, List.mem_append] at this ⊢
    rcases this with h | h
    · exact Or.inl h
    · exact Or.inr (Or.inl h)
  · rcases List.mem_append.1 hvin with h | h
    · simp [h]
    · simp at h; simp [h]
  · rw [e2]
    refine (chain_mid u (v :: lb) la).2 ⟨?_, ⟨?_, ?_⟩, ?_⟩
    · refine chain_congr (fun y hy => ?_) (fun y hy => ?_) h1
      · rw [List.dropLast_concat] at hy
        have hyu : y.1 ≠ u.1 := nab _ (List.mem_map_of_mem hy) _ (by simp)
        rw [World.cell?_setCell_other, World.cell?_setCell_other]
        · intro e; simp only [fld, Addr.mk.injEq] at e; exact hyu e.1.symm
        · intro e; simp only [fld, Addr.mk.injEq, and_true] at e
          -- v's prev is not y's next: y among la; v in b, or the ring
          rcases List.mem_append.1 hvin with hb | hb
          · exact nab _ (List.mem_map_of_mem hy) v.1 (by simp; exact Or.inr (Or.inr ⟨_, hb⟩)) e.1.symm
          · simp only [List.mem_singleton] at hb
            subst hb
            cases la with
            | nil => simp at hy
            | cons c t =>
              simp only [List.cons_append, List.cons.injEq] at hu
              obtain ⟨rfl, _⟩ := hu
              rcases List.mem_cons.1 hy with rfl | hy
              · omega
              · simp only [List.map_cons, List.nodup_cons] at na
                exact na.1 (by rw [e.1]; exact List.mem_map_of_mem hy)
      · -- y in the tail of la ++ [u]: its prev is neither of the two cells
        have hyin : y ∈ la ++ [u] := List.mem_of_mem_tail hy
        have hyv : fld v d ≠ fld y d := by
          intro e; simp only [fld, Addr.mk.injEq, and_true] at e
          rcases List.mem_append.1 hvin with hb | hb
          · rcases List.mem_append.1 hyin with hy' | hy'
            · exact nab _ (List.mem_map_of_mem hy') v.1 (by simp; exact Or.inr (Or.inr ⟨_, hb⟩)) e.1.symm
            · simp only [List.mem_singleton] at hy'; subst hy'
              exact nu (by rw [← e.1]; exact List.mem_cons_of_mem _ (List.mem_map_of_mem hb))
          · simp only [List.mem_singleton] at hb
            subst hb
            have hnd : ((la ++ [u]).map Prod.fst).Nodup := by
              rw [List.map_append]
              exact List.nodup_append.2 ⟨na, by simp, fun a' ha' b' hb' => nab a' ha' b' (by simp at hb'; simp [hb'])⟩
            rw [← hu] at hnd hy
            simp only [List.map_cons, List.nodup_cons] at hnd
            simp only [List.tail_cons] at hy
            exact hnd.1 (by rw [e.1]; exact List.mem_map_of_mem hy)
        have hyu : fld u (d + 1) ≠ fld y d := by
          intro e; simp only [fld, Addr.mk.injEq, and_true] at e
          rcases List.mem_append.1 hyin with hy' | hy'
          · exact nab _ (List.mem_map_of_mem hy') u.1 (by simp) e.1.symm
          · simp only [List.mem_singleton] at hy'; subst hy'; omega
        rw [World.cell?_setCell_other _ _ _ _ hyv, World.cell?_setCell_other _ _ _ _ hyu]
    · rw [World.cell?_setCell_other _ _ _ _ (Ne.symm hne)]
      exact World.cell?_setCell_same _ _ _ k1.next
    · refine World.cell?_setCell_same _ _ _ (u := pt x) ?_
      rw [World.cell?_setCell_other _ _ _ _ hne]
      exact k2.prev
    · -- behind v: nexts of v .. , prevs of lb
      refine chain_congr (fun y hy => ?_) (fun y hy => ?_) h4
      · -- y in the front of b ++ [r]: y is in b
        rw [← hv, List.dropLast_concat] at hy
        have h1' : fld v d ≠ fld y (d + 1) := by
          intro e; simp only [fld, Addr.mk.injEq, and_true] at e
          rcases List.mem_append.1 hvin with hb | hb
          · cases b with
            | nil => simp at hb
            | cons c t =>
              simp only [List.cons_append, List.cons.injEq] at hv
              obtain ⟨rfl, _⟩ := hv
              rcases List.mem_cons.1 hy with rfl | hy
              · omega
              · simp only [List.map_cons, List.nodup_cons] at nbb
                exact nbb.1 (by rw [e.1]; exact List.mem_map_of_mem hy)
          · simp only [List.mem_singleton] at hb
            rw [hb] at e
            rcases List.mem_append.1 hrin with hr | hr
            · exact nab _ (List.mem_map_of_mem hr) y.1 (by simp; exact Or.inr (Or.inr ⟨_, hy⟩)) e.1
            · simp only [List.mem_singleton] at hr
              rw [hr] at e
              exact nu (by rw [e.1]; exact List.mem_cons_of_mem _ (List.mem_map_of_mem hy))
        have h2' : fld u (d + 1) ≠ fld y (d + 1) := by
          intro e; simp only [fld, Addr.mk.injEq, and_true] at e
          exact nu (by rw [e.1]; exact List.mem_cons_of_mem _ (List.mem_map_of_mem hy))
        rw [World.cell?_setCell_other _ _ _ _ h1', World.cell?_setCell_other _ _ _ _ h2']
      · -- y in lb
        simp only [List.tail_cons] at hy
        have hyb : y ∈ b ++ [r] := by rw [hv]; exact List.mem_cons_of_mem _ hy
        have hvb : v ∈ b := by
          cases b with
          | nil => simp only [List.nil_append, List.cons.injEq] at hv; rw [← hv.2] at hy; simp at hy
          | cons c t => simp only [List.cons_append, List.cons.injEq] at hv; rw [← hv.1]; simp
        have h1' : fld v d ≠ fld y d := by
          intro e; simp only [fld, Addr.mk.injEq, and_true] at e
          cases b with
          | nil => simp at hvb
          | cons c t =>
            simp only [List.cons_append, List.cons.injEq] at hv
            obtain ⟨rfl, hv2⟩ := hv
            rw [← hv2] at hy
            rcases List.mem_append.1 hy with hy | hy
            · simp only [List.map_cons, List.nodup_cons] at nbb
              exact nbb.1 (by rw [e.1]; exact List.mem_map_of_mem hy)
            · simp only [List.mem_singleton] at hy
              subst hy
              rcases List.mem_append.1 hrin with hr | hr
              · exact nab _ (List.mem_map_of_mem hr) c.1 (by simp) e.1.symm
              · simp only [List.mem_singleton] at hr
                subst hr
                exact nu (by rw [← e.1]; simp)
        have h2' : fld u (d + 1) ≠ fld y d := by
          intro e; simp only [fld, Addr.mk.injEq, and_true] at e
          rcases List.mem_append.1 hyb with hy | hy
          · exact nu (by rw [e.1]; exact List.mem_cons_of_mem _ (List.mem_map_of_mem hy))
          · simp only [List.mem_singleton] at hy
            subst hy
            rcases List.mem_append.1 hrin with hr | hr
            · exact nab _ (List.mem_map_of_mem hr) u.1 (by simp) e.1.symm
            · simp only [List.mem_singleton] at hr
              subst hr
              omega
        rw [World.cell?_setCell_other _ _ _ _ h1', World.cell?_setCell_other _ _ _ _ h2']

/-- What the world is behind the four stores of 'last'. -/
theorem ring_in {w : World} {d : Nat} {r n : Nat × Nat} {ns : List (Nat × Nat)} (h : Chain w d (r :: ns ++ [r])) (hn : ((r :: ns).map Prod.fst).Nodup) (hb : n.1 ∉ (r :: ns).map Prod.fst)
    {x y : Value} (n2 : w.cell? (fld n d) = some x) (n3 : w.cell? (fld n (d + 1)) = some y) :
    ∃ u : Nat × Nat, u ∈ r :: ns ∧ w.cell? (fld r d) = some (pt u) ∧ w.cell? (fld u (d + 1)) = some (pt r) ∧ u.1 ≠ n.1 ∧ r.1 ≠ n.1 ∧ fld u (d + 1) ≠ fld r d ∧
      Chain ((((w.setCell (fld n d) (pt u)).setCell (fld n (d + 1)) (pt r)).setCell (fld u (d + 1)) (pt n)).setCell (fld r d) (pt n)) d (r :: (ns ++ [n]) ++ [r]) := by
  obtain ⟨la, u, hu⟩ : ∃ la u, r :: ns = la ++ [u] := ⟨(r :: ns).dropLast, (r :: ns).getLast (by simp), (List.dropLast_concat_getLast (by simp)).symm⟩
  have e1 : r :: ns ++ [r] = la ++ u :: [r] := by rw [hu]; simp
  have e2 : r :: (ns ++ [n]) ++ [r] = la ++ u :: n :: [r] := by
    have : r :: (ns ++ [n]) ++ [r] = (r :: ns) ++ n :: [r] := by simp
    rw [this, hu]; simp
  rw [e1] at h
  obtain ⟨h1, k1, _⟩ := (chain_mid u [r] la).1 h
  have humem : u ∈ r :: ns := by rw [hu]; simp
  have hun : u.1 ≠ n.1 := fun e => hb (by rw [← e]; exact List.mem_map_of_mem humem)
  have hrn : r.1 ≠ n.1 := fun e => hb (by rw [← e]; simp)
  have hn' := hn
  rw [hu, List.map_append] at hn'
  obtain ⟨na, _, nab⟩ := List.nodup_append.1 hn'
  have hru : r = u ∨ r.1 ≠ u.1 := by
    have hrin : r ∈ la ++ [u] := by rw [← hu]; simp
    rcases List.mem_append.1 hrin with hr | hr
    · exact Or.inr (nab _ (List.mem_map_of_mem hr) _ (by simp))
    · exact Or.inl (by simpa using hr)
  have hur : fld u (d + 1) ≠ fld r d := by
    intro e; simp only [fld, Addr.mk.injEq, and_true] at e
    rcases hru with rfl | h
    · omega
    · exact h e.1.symm
  have hla : ∀ y ∈ la ++ [u], y.1 ≠ n.1 := fun y hy e => hb (by rw [← e, hu]; exact List.mem_map_of_mem hy)
  refine ⟨u, humem, k1.prev, k1.next, hun, hrn, hur, ?_⟩
  have far : ∀ (a b : Nat × Nat) (i j : Nat), a.1 ≠ b.1 → fld a i ≠ fld b j := fun a b i j hab e => by
    simp only [fld, Addr.mk.injEq] at e; exact hab e.1
  have nn : ∀ i, fld n d ≠ fld n (d + 1 + i) := fun i e => by simp only [fld, Addr.mk.injEq, and_true] at e; omega
  rw [e2]
  refine (chain_mid u (n :: [r]) la).2 ⟨?_, ⟨?_, ?_⟩, ⟨?_, ?_⟩, trivial⟩
  · refine chain_congr (fun y hy => ?_) (fun y hy => ?_) h1
    · rw [List.dropLast_concat] at hy
      have hyn : n.1 ≠ y.1 := (hla y (by simp [hy])).symm
      have hyu : u.1 ≠ y.1 := (nab _ (List.mem_map_of_mem hy) u.1 (by simp)).symm
      have hyr : fld r d ≠ fld y (d + 1) := by
        intro e; simp only [fld, Addr.mk.injEq, and_true] at e
        cases la with
        | nil => simp at hy
        | cons c t =>
          simp only [List.cons_append, List.cons.injEq] at hu
          obtain ⟨rfl, _⟩ := hu
          rcases List.mem_cons.1 hy with rfl | hy
          · omega
          · simp only [List.map_cons, List.nodup_cons] at na
            exact na.1 (by rw [e.1]; exact List.mem_map_of_mem hy)
      rw [World.cell?_setCell_other _ _ _ _ hyr, World.cell?_setCell_other _ _ _ _ (far _ _ _ _ hyu), World.cell?_setCell_other _ _ _ _ (far _ _ _ _ hyn), World.cell?_setCell_other _ _ _ _ (far _ _ _ _ hyn)]
    · have hyin : y ∈ la ++ [u] := List.mem_of_mem_tail hy
      have hyn : n.1 ≠ y.1 := (hla y hyin).symm
      have hyr : r.1 ≠ y.1 := by
        rw [← hu] at hy
        simp only [List.tail_cons] at hy
        simp only [List.map_cons, List.nodup_cons] at hn
        exact fun e => hn.1 (by rw [e]; exact List.mem_map_of_mem hy)
      have hyu : fld u (d + 1) ≠ fld y d := by
        intro e; simp only [fld, Addr.mk.injEq, and_true] at e
        rcases List.mem_append.1 hyin with hy' | hy'
        · exact nab _ (List.mem_map_of_mem hy') u.1 (by simp) e.1.symm
        · simp only [List.mem_singleton] at hy'; subst hy'; omega
      rw [World.cell?_setCell_other _ _ _ _ (far _ _ _ _ hyr), World.cell?_setCell_other _ _ _ _ hyu, World.cell?_setCell_other _ _ _ _ (far _ _ _ _ hyn), World.cell?_setCell_other _ _ _ _ (far _ _ _ _ hyn)]
  · rw [World.cell?_setCell_other _ _ _ _ (Ne.symm hur)]
    refine World.cell?_setCell_same _ _ _ (u := pt r) ?_
    rw [World.cell?_setCell_other _ _ _ _ (far _ _ _ _ hun.symm), World.cell?_setCell_other _ _ _ _ (far _ _ _ _ hun.symm)]
    exact k1.next
  · rw [World.cell?_setCell_other _ _ _ _ (far _ _ _ _ hrn), World.cell?_setCell_other _ _ _ _ (far _ _ _ _ hun), World.cell?_setCell_other _ _ _ _ (Ne.symm (nn 0))]
    exact World.cell?_setCell_same _ _ _ n2
  · rw [World.cell?_setCell_other _ _ _ _ (far _ _ _ _ hrn), World.cell?_setCell_other _ _ _ _ (far _ _ _ _ hun)]
    refine World.cell?_setCell_same _ _ _ (u := y) ?_
    rw [World.cell?_setCell_other _ _ _ _ (nn 0)]
    exact n3
  · refine World.cell?_setCell_same _ _ _ (u := pt u) ?_
    rw [World.cell?_setCell_other _ _ _ _ hur, World.cell?_setCell_other _ _ _ _ (far _ _ _ _ hrn.symm), World.cell?_setCell_other _ _ _ _ (far _ _ _ _ hrn.symm)]
    exact k1.prev

/-- Only the nodes' next and prev cells count. -/
theorem chain_same {w w' : World} {d : Nat} {l : List (Nat × Nat)} (h : ∀ x ∈ l, ∀ i, w'.cell? (fld x i) = w.cell? (fld x i)) (hc : Chain w d l) : Chain w' d l :=
  chain_congr (fun x hx => h x (List.dropLast_subset _ hx) _) (fun x hx => h x (List.mem_of_mem_tail hx) _) hc

/-! ### 3. Maps as lists of pairs -/

/-- What the laws on a map ask of its keys. -/
structure KeyK (P : Program) (t : TypeId) (κ : Type) where
  law : Keyed P t
  val : κ → Value
  ok : κ → Prop
  lit : ∀ k, ok k → ∃ l, keyOf P t (val k) = some l
  inj : ∀ a b, val a = val b → a = b

/-- Block b of w is a map that holds just the pairs of l. -/
def MapIs {κ : Type} (val : κ → Value) (ok : κ → Prop) (w : World) (b : Nat) (l : List (κ × Value)) : Prop :=
  ∃ es clock, w.heap[b]? = some (.map es clock) ∧ Stamped es clock ∧ (es.toList.map fun e => (e.key, e.val)).Perm (l.map fun x => (val x.1, x.2)) ∧ ∀ x ∈ l, ok x.1

section
variable {κ : Type} {P : Program} {k : TypeId} (K : KeyK P k κ) {w : World} {b : Nat} {l : List (κ × Value)}

theorem MapIs.perm {l' : List (κ × Value)} (h : MapIs K.val K.ok w b l) (hp : l.Perm l') : MapIs K.val K.ok w b l' := by
  obtain ⟨es, clock, hb, hs, hl, hok⟩ := h
  exact ⟨es, clock, hb, hs, hl.trans (hp.map _), fun x hx => hok x (hp.mem_iff.2 hx)⟩

theorem MapIs.lt (h : MapIs K.val K.ok w b l) : b < w.heap.size := by
  obtain ⟨es, clock, hb, _⟩ := h
  exact (Array.getElem?_eq_some_iff.1 hb).1

theorem MapIs.of_block {w' : World} (h : MapIs K.val K.ok w b l) (hb : w'.heap[b]? = w.heap[b]?) : MapIs K.val K.ok w' b l := by
  obtain ⟨es, clock, h1, h2⟩ := h
  exact ⟨es, clock, hb.trans h1, h2⟩

theorem MapIs.made (w : World) : MapIs K.val K.ok (w.alloc (.map #[] 0)) w.heap.size [] :=
  ⟨#[], 0, (MapKept.heap_alloc w _).1, stamped_empty 0, by simp, by simp⟩

theorem MapIs.nodup (h : MapIs K.val K.ok w b l) : (l.map Prod.fst).Nodup := by
  obtain ⟨es, clock, _, hs, hl, _⟩ := h
  have h3 : (es.toList.map fun e => (e.key, e.val)).Pairwise (fun x y => x.1 ≠ y.1) := by
    rw [List.pairwise_map]; exact ((stamped_iff es clock).1 hs).2.2
  have h4 := (hl.pairwise_iff (fun {x y} (e : x.1 ≠ y.1) => e.symm)).1 h3
  rw [List.pairwise_map] at h4
  rw [List.Nodup, List.pairwise_map]
  exact h4.imp (fun h e => h (by rw [e]))

theorem MapIs.keysOk {es : Array MapEntry} (hl : (es.toList.map fun e => (e.key, e.val)).Perm (l.map fun x => (K.val x.1, x.2))) (hok : ∀ x ∈ l, K.ok x.1) :
    ∀ e ∈ es.toList, ∃ x ∈ l, e.key = K.val x.1 ∧ e.val = x.2 ∧ ∃ lt, keyOf P k e.key = some lt := by
  intro e he
  have h1 : (e.key, e.val) ∈ l.map fun x => (K.val x.1, x.2) := hl.mem_iff.1 (List.mem_map.2 ⟨e, he, rfl⟩)
  obtain ⟨x, hx, hxe⟩ := List.mem_map.1 h1
  simp only [Prod.mk.injEq] at hxe
  exact ⟨x, hx, hxe.1.symm, hxe.2.symm, by rw [← hxe.1]; exact K.lit x.1 (hok x hx)⟩

/-- Where a key is found, or that it is not. -/
theorem MapIs.find {es : Array MapEntry} (hl : (es.toList.map fun e => (e.key, e.val)).Perm (l.map fun x => (K.val x.1, x.2))) (hok : ∀ x ∈ l, K.ok x.1) (key : κ) (hk : K.ok key) :
    ((Instr.findKey k (K.val key) es.toList).run P w = .ok none w ∧ (∀ e ∈ es.toList, e.key ≠ K.val key) ∧ ∀ x ∈ l, x.1 ≠ key) ∨
    ∃ (j : Nat) (e : MapEntry) (v : Value), (Instr.findKey k (K.val key) es.toList).run P w = .ok (some (j, v)) w ∧ es[j]? = some e ∧ e.key = K.val key ∧ e.val = v ∧ (key, v) ∈ l := by
  obtain ⟨lt, hlt⟩ := K.lit key hk
  rcases K.law.find w hlt es.toList (fun e he => let ⟨_, _, _, _, h⟩ := MapIs.keysOk K hl hok e he; h) with ⟨h1, h2⟩ | ⟨j, e, h1, h2, h3⟩
  · refine Or.inl ⟨h1, h2, fun x hx e => ?_⟩
    have : (K.val x.1, x.2) ∈ es.toList.map fun e => (e.key, e.val) := hl.mem_iff.2 (List.mem_map.2 ⟨x, hx, rfl⟩)
    obtain ⟨y, hy, hye⟩ := List.mem_map.1 this
    simp only [Prod.mk.injEq] at hye
    exact h2 y hy (by rw [hye.1, e])
  · obtain ⟨x, hx, k1, k2, _⟩ := MapIs.keysOk K hl hok e (List.mem_of_getElem? h2)
    refine Or.inr ⟨j, e, e.val, h1, by simpa using h2, h3, rfl, ?_⟩
    have : x.1 = key := K.inj _ _ (by rw [← k1, h3])
    rw [← this, k2]; exact hx

variable {t e : TypeId}

/-- 'm[k]'. -/
theorem MapIs.look (h : MapIs K.val K.ok w b l) (ht : P.underlying t = some (.map k e)) {z : Value} (hz : (zeroValue e).run P w = .ok z w) (key : κ) (hk : K.ok key) :
    ((∀ x ∈ l, x.1 ≠ key) ∧ (Instr.lookup t (.map (some b)) (K.val key) false).run P w = .ok z w) ∨
    ∃ v, (key, v) ∈ l ∧ (Instr.lookup t (.map (some b)) (K.val key) false).run P w = .ok v w := by
  obtain ⟨es, clock, hb, hs, hl, hok⟩ := h
  obtain ⟨lt, hlt⟩ := K.lit key hk
  rcases MapIs.find (w := w) K hl hok key hk with ⟨h1, _, h3⟩ | ⟨j, e0, v, h1, h2, h3, h4, h5⟩
  · exact Or.inl ⟨h3, by simp [Instr.lookup, run_underlying ht, MapKept.run_getObj_map hb, K.law.check w _ hlt, h1, hz, Result.andThen]⟩
  · exact Or.inr ⟨v, h5, by simp [Instr.lookup, run_underlying ht, MapKept.run_getObj_map hb, K.law.check w _ hlt, h1, Result.andThen]⟩

/-- 'v, ok := m[k]'. -/
theorem MapIs.look_ok (h : MapIs K.val K.ok w b l) (ht : P.underlying t = some (.map k e)) {z : Value} (hz : (zeroValue e).run P w = .ok z w) (key : κ) (hk : K.ok key) :
    ((∀ x ∈ l, x.1 ≠ key) ∧ (Instr.lookup t (.map (some b)) (K.val key) true).run P w = .ok (.tuple #[z, .bool false]) w) ∨
    ∃ v, (key, v) ∈ l ∧ (Instr.lookup t (.map (some b)) (K.val key) true).run P w = .ok (.tuple #[v, .bool true]) w := by
  obtain ⟨es, clock, hb, hs, hl, hok⟩ := h
  obtain ⟨lt, hlt⟩ := K.lit key hk
  rcases MapIs.find (w := w) K hl hok key hk with ⟨h1, _, h3⟩ | ⟨j, e0, v, h1, h2, h3, h4, h5⟩
  · exact Or.inl ⟨h3, by simp [Instr.lookup, run_underlying ht, MapKept.run_getObj_map hb, K.law.check w _ hlt, h1, hz, Result.andThen]⟩
  · exact Or.inr ⟨v, h5, by simp [Instr.lookup, run_underlying ht, MapKept.run_getObj_map hb, K.law.check w _ hlt, h1, Result.andThen]⟩

theorem MapIs.len (h : MapIs K.val K.ok w b l) (ht : P.underlying t = some (.map k e)) (ty : TypeId) : (Builtin.len_ #[t] ty #[.map (some b)]).run P w = .ok (.int .i64 l.length) w := by
  obtain ⟨es, clock, hb, hs, hl, hok⟩ := h
  have e1 : es.size = l.length := by have := hl.length_eq; simpa using this
  rw [← e1]
  simp [Builtin.len_, run_underlying ht, MapKept.run_getObj_map hb, goInt, Result.andThen]

variable [DecidableEq κ]

theorem perm_filter_ne {α : Type} (val : κ → Value) (inj : ∀ a b, val a = val b → a = b) {es : List MapEntry} {l : List (κ × Value)} (key : κ) (hl : (es.map fun e => (e.key, e.val)).Perm (l.map fun x => (val x.1, x.2)))
    {j : Nat} {e : MapEntry} (hs : (es.map (·.key)).Nodup) (hj : es[j]? = some e) (he : e.key = val key) (_a : α) :
    ((es.eraseIdx j).map fun e => (e.key, e.val)).Perm ((l.filter fun x => x.1 ≠ key).map fun x => (val x.1, x.2)) := by
  -- both sides: the pairs whose first is not the key
  classical
  have hp := hl.filter (fun p => decide (p.1 ≠ val key))
  have e1 : ((l.map fun x => (val x.1, x.2)).filter fun p => decide (p.1 ≠ val key)) = (l.filter fun x => x.1 ≠ key).map fun x => (val x.1, x.2) := by
    rw [List.filter_map]
    congr 1
    refine List.filter_congr (fun x _ => ?_)
    simp only [Function.comp, decide_eq_decide]
    exact ⟨fun h e => h (by rw [e]), fun h e => h (inj _ _ e)⟩
  have e2 : ((es.map fun e => (e.key, e.val)).filter fun p => decide (p.1 ≠ val key)) = (es.eraseIdx j).map fun e => (e.key, e.val) := by
    rw [List.filter_map]
    congr 1
    have hf : es.filter ((fun p : Value × Value => decide (p.1 ≠ val key)) ∘ fun e => (e.key, e.val)) = es.filter (fun x => decide (x.key ≠ val key)) := rfl
    rw [hf]
    clear hl hp e1 hf
    induction es generalizing j with
    | nil => simp
    | cons a r ih =>
      simp only [List.map_cons, List.nodup_cons] at hs
      cases j with
      | zero =>
        simp only [List.getElem?_cons_zero, Option.some.injEq] at hj
        subst hj
        rw [List.filter_cons_of_neg (by simp [he]), List.eraseIdx_cons_zero, List.filter_eq_self]
        intro x hx
        simp only [ne_eq, decide_eq_true_eq]
        intro hxe
        exact hs.1 (by rw [he, ← hxe]; exact List.mem_map_of_mem hx)
      | succ j =>
        simp only [List.getElem?_cons_succ] at hj
        have hne : a.key ≠ val key := fun ha => hs.1 (by rw [ha, ← he]; exact List.mem_map_of_mem (List.mem_of_getElem? hj))
        rw [List.filter_cons_of_pos (by simpa using hne), List.eraseIdx_cons_succ, ih hs.2 hj]
  rw [e1, e2] at hp
  exact hp

theorem filter_ne_self {l : List (κ × Value)} {key : κ} (h : ∀ x ∈ l, x.1 ≠ key) : (l.filter fun x => x.1 ≠ key) = l :=
  List.filter_eq_self.2 (fun x hx => by simpa using h x hx)

/-- 'delete(m, k)'. -/
theorem MapIs.del (h : MapIs K.val K.ok w b l) (ht : P.underlying t = some (.map k e)) (key : κ) (hk : K.ok key) (ty : TypeId) :
    ∃ o, (Builtin.delete_ #[t, k] ty #[.map (some b), K.val key]).run P w = .ok (.tuple #[]) (setBlock w b o) ∧ MapIs K.val K.ok (setBlock w b o) b (l.filter fun x => x.1 ≠ key) := by
  obtain ⟨es, clock, hb, hs, hl, hok⟩ := h
  obtain ⟨lt, hlt⟩ := K.lit key hk
  have hok' : ∀ x ∈ l.filter (fun x => x.1 ≠ key), K.ok x.1 := fun x hx => hok x (List.mem_filter.1 hx).1
  rcases MapIs.find (w := w) K hl hok key hk with ⟨h1, _, h3⟩ | ⟨j, e0, v, h1, h2, h3, h4, h5⟩
  · refine ⟨.map es clock, ?_, es, clock, heap_setBlock_same hb _, hs, by rw [filter_ne_self h3]; exact hl, hok'⟩
    simp [Builtin.delete_, run_underlying ht, MapKept.run_getObj_map hb, K.law.check w _ hlt, h1, MapKept.run_setObj_map _ hb, Result.andThen, setBlock]
  · refine ⟨.map (es.eraseIdxIfInBounds j) clock, ?_, es.eraseIdxIfInBounds j, clock, heap_setBlock_same hb _, ?_, ?_, hok'⟩
    · simp [Builtin.delete_, run_underlying ht, MapKept.run_getObj_map hb, K.law.check w _ hlt, h1, MapKept.run_setObj_map _ hb, Result.andThen, setBlock]
    · exact stamped_erase hs j
    · have e1 : (es.eraseIdxIfInBounds j).toList = es.toList.eraseIdx j := by simp
      rw [e1]
      exact perm_filter_ne (α := Unit) K.val K.inj key hl hs.2.2 (by simpa using h2) h3 ()

/-- 'm[k] = v'. -/
theorem MapIs.put (h : MapIs K.val K.ok w b l) (ht : P.underlying t = some (.map k e)) (key : κ) (hk : K.ok key) (v : Value) :
    ∃ o, (Instr.mapUpdate t (.map (some b)) (K.val key) v).run P w = .ok () (setBlock w b o) ∧ MapIs K.val K.ok (setBlock w b o) b ((l.filter fun x => x.1 ≠ key) ++ [(key, v)]) := by
  obtain ⟨es, clock, hb, hs, hl, hok⟩ := h
  obtain ⟨lt, hlt⟩ := K.lit key hk
  have hok' : ∀ x ∈ (l.filter fun x => x.1 ≠ key) ++ [(key, v)], K.ok x.1 := fun x hx => by
    rcases List.mem_append.1 hx with hx | hx
    · exact hok x (List.mem_filter.1 hx).1
    · simp only [List.mem_singleton] at hx; rw [hx]; exact hk
  rcases MapIs.find (w := w) K hl hok key hk with ⟨h1, h2, h3⟩ | ⟨j, e0, v0, h1, h2, h3, h4, h5⟩
  · refine ⟨.map (es.push { key := K.val key, val := v, born := clock }) (clock + 1), ?_, _, _, heap_setBlock_same hb _, stamped_push hs h2, ?_, hok'⟩
    · simp [Instr.mapUpdate, run_underlying ht, MapKept.run_getObj_map hb, K.law.check w false hlt, h1, MapKept.run_setObj_map _ hb, Result.andThen, setBlock]
    · rw [filter_ne_self h3]
      simpa using hl.append_right [(K.val key, v)]
  · have hjl : es.toList[j]? = some e0 := by simpa using h2
    refine ⟨.map (es.modify j fun e => { e with key := K.val key, val := v }) clock, ?_, _, _, heap_setBlock_same hb _, ?_, ?_, hok'⟩
    · simp [Instr.mapUpdate, run_underlying ht, MapKept.run_getObj_map hb, K.law.check w false hlt, h1, h2, h3, K.law.stays w hlt, MapKept.run_setObj_map _ hb, Result.andThen, setBlock]
    · exact stamped_modify hs _ _ (fun _ _ => rfl) (fun e _ he => by rw [h2] at he; cases he; exact h3.symm)
    · have hlist : (es.modify j (fun e' => { e' with key := K.val key, val := v })).toList = es.toList.set j { e0 with key := K.val key, val := v } := by rw [Array.toList_modify, modify_eq_set _ _ _ _ hjl]
      rw [hlist]
      have p1 := perm_filter_ne (α := Unit) K.val K.inj key hl hs.2.2 hjl h3 ()
      have p2 : (es.toList.set j { e0 with key := K.val key, val := v }).Perm ((es.toList.eraseIdx j) ++ [{ e0 with key := K.val key, val := v }]) := by
        have hlt' : j < es.toList.length := (List.getElem?_eq_some_iff.1 hjl).1
        have := set_perm es.toList j hlt' { e0 with key := K.val key, val := v }
        exact this.trans (List.perm_append_singleton _ _).symm
      have p3 := p2.map (fun e : MapEntry => (e.key, e.val))
      refine p3.trans ?_
      rw [List.map_append, List.map_append]
      exact p1.append_right _

end

end Go.Proofs.Ytnnaidladcdbdaa
