/- Ranging over a map that holds just the pairs of a list: what is still to come, as a list. -/
import Derived.Test.YtnnaidladcdbdaaHeap
import Derived.Maps.RangeWalk
namespace Go.Proofs.Ytnnaidladcdbdaa
open Go.RowKit Go.ChangeMaps Go.MapKept

section
variable {κ : Type} {P : Program} {k : TypeId} (K : KeyK P k κ) {w : World} {b r : Nat} {l todo : List (κ × Value)}

/-- Block r ranges over block b, a map of the pairs of l; 'todo' is still to come. -/
def Ranging (w : World) (b r : Nat) (l todo : List (κ × Value)) : Prop :=
  ∃ es clock since seen c0, w.heap[b]? = some (.map es clock) ∧ Stamped es clock ∧ (es.toList.map fun e => (e.key, e.val)).Perm (l.map fun x => (K.val x.1, x.2)) ∧ (∀ x ∈ l, K.ok x.1) ∧
    w.heap[r]? = some (.mapIter (some b) since seen c0) ∧ (∀ x ∈ es.toList, x.born < since) ∧ since ≤ c0 ∧ since ≤ clock ∧
    ((leftOf es seen).toList.map fun e => (e.key, e.val)).Perm (todo.map fun x => (K.val x.1, x.2)) ∧ ∀ x ∈ todo, x ∈ l

theorem Ranging.left_eq (h : Ranging K w b r l todo) : w.rangeLeft b r = todo.length := by
  obtain ⟨es, clock, since, seen, c0, hb, _, _, _, hr, _, _, _, hp, _⟩ := h
  unfold World.rangeLeft
  rw [hb, hr]
  have := hp.length_eq
  simpa using this

theorem Ranging.lt (h : Ranging K w b r l todo) : r < w.heap.size := by
  obtain ⟨es, clock, since, seen, c0, hb, _, _, _, hr, _⟩ := h
  exact (Array.getElem?_eq_some_iff.1 hr).1

theorem Ranging.ne (h : Ranging K w b r l todo) : r ≠ b := by
  obtain ⟨es, clock, since, seen, c0, hb, _, _, _, hr, _⟩ := h
  intro e; subst e; rw [hb] at hr; cases hr

theorem Ranging.mapIs (h : Ranging K w b r l todo) : MapIs K.val K.ok w b l := by
  obtain ⟨es, clock, since, seen, c0, hb, hs, hl, hok, _⟩ := h
  exact ⟨es, clock, hb, hs, hl, hok⟩

theorem Ranging.sub (h : Ranging K w b r l todo) : ∀ x ∈ todo, x ∈ l := by
  obtain ⟨es, clock, since, seen, c0, hb, hs, hl, hok, _, _, _, _, _, h⟩ := h; exact h

theorem Ranging.kept {w' : World} (h : Ranging K w b r l todo) (hb : w'.heap[b]? = w.heap[b]?) (hr : w'.heap[r]? = w.heap[r]?) : Ranging K w' b r l todo := by
  obtain ⟨es, clock, since, seen, c0, h1, hs, hl, hok, h2, h3⟩ := h
  exact ⟨es, clock, since, seen, c0, hb.trans h1, hs, hl, hok, hr.trans h2, h3⟩

/-- 'range m'. -/
theorem MapIs.range {t e : TypeId} (h : MapIs K.val K.ok w b l) (ht : P.underlying t = some (.map k e)) :
    ∃ w', (Instr.range t (.map (some b))).run P w = .ok (.pointer (some ⟨w.heap.size, 0, none⟩)) w' ∧ Ranging K w' b w.heap.size l l ∧ Below w.heap.size w w' := by
  have hlt := h.lt K
  obtain ⟨es, clock, hb, hs, hl, hok⟩ := h
  refine ⟨_, run_range_map w t k e b es clock ht hb, ⟨es, clock, clock, #[], clock, ((MapKept.heap_alloc w _).2 b hlt).trans hb, hs, hl, hok, (MapKept.heap_alloc w _).1, hs.1, Nat.le_refl _, Nat.le_refl _, ?_, fun x hx => hx⟩, (Below.refl _ _).alloc (Nat.le_refl _) _⟩
  have e1 : (leftOf es #[]).toList = es.toList := by
    unfold leftOf
    rw [Array.toList_filter]
    exact List.filter_eq_self.2 (fun x _ => by simp)
  rw [e1]; exact hl

theorem born_split {L : List MapEntry} {e : MapEntry} (he : e ∈ L) (hn : (L.map (·.born)).Nodup) : L.Perm (e :: L.filter fun x => !(x.born == e.born)) := by
  obtain ⟨a, c, rfl⟩ := List.append_of_mem he
  rw [List.map_append, List.map_cons] at hn
  have h1 := List.nodup_append.1 hn
  have h2 := List.nodup_cons.1 h1.2.1
  have fa : a.filter (fun x => !(x.born == e.born)) = a := List.filter_eq_self.2 (fun x hx => by
    simp only [Bool.not_eq_true', beq_eq_false_iff_ne, ne_eq]
    intro hxe
    exact h1.2.2 _ (List.mem_map_of_mem hx) _ (by simp) hxe)
  have fc : c.filter (fun x => !(x.born == e.born)) = c := List.filter_eq_self.2 (fun x hx => by
    simp only [Bool.not_eq_true', beq_eq_false_iff_ne, ne_eq]
    intro hxe
    exact h2.1 (by rw [← hxe]; exact List.mem_map_of_mem hx))
  rw [List.filter_append, List.filter_cons_of_neg (by simp), fa, fc]
  exact List.perm_middle

/-- The step: nothing is left, or one that is left comes. -/
theorem Ranging.next (h : Ranging K w b r l todo) (ty : TypeId) :
    (todo = [] ∧ (Instr.next (.pointer (some ⟨r, 0, none⟩)) false ty).run P w = .ok (.tuple #[.bool false]) w) ∨
    ∃ x a c w', todo = a ++ x :: c ∧ (Instr.next (.pointer (some ⟨r, 0, none⟩)) false ty).run P w = .ok (.tuple #[.bool true, K.val x.1, x.2]) w' ∧ Ranging K w' b r l (a ++ c) ∧
      (Instr.entry (.pointer (some ⟨r, 0, none⟩))).run P w' = .ok (.tuple #[K.val x.1, x.2]) w' ∧ Ch (fun y => y = r) w w' ∧ w'.heap.size = w.heap.size := by
  have hne := h.ne K
  obtain ⟨es, clock, since, seen, c0, hb, hs, hl, hok, hr, hold, hsc, hsk, hp, hsub⟩ := h
  have hst := (stamped_iff es clock).1 hs
  rcases run_next_at (P := P) w ty r b since c0 seen es clock hr hb hold hsc with ⟨h0, hrun⟩ | ⟨e, he, w1, hal, hrun⟩
  · left
    refine ⟨?_, hrun⟩
    have h1 := hp.length_eq
    simp only [List.length_map, Array.length_toList, h0] at h1
    exact List.length_eq_zero_iff.1 h1.symm
  · right
    obtain ⟨hem, hes⟩ := mem_left he
    have h1 : (e.key, e.val) ∈ todo.map fun x => (K.val x.1, x.2) := hp.mem_iff.1 (List.mem_map.2 ⟨e, he, rfl⟩)
    obtain ⟨x, hx, hxe⟩ := List.mem_map.1 h1
    simp only [Prod.mk.injEq] at hxe
    obtain ⟨a, c, rfl⟩ := List.append_of_mem hx
    have hr1 : w1.heap[r]? = some (.mapIter (some b) since seen c0) := by rcases hal with rfl | rfl <;> exact hr
    have hb1 : w1.heap[b]? = some (.map es clock) := by rcases hal with rfl | rfl <;> exact hb
    have hset := heap_set (o' := .mapIter (some b) since (seen.push e.born) clock) hr1
    have hb' : (ChangeMaps.setBlock w1 r (.mapIter (some b) since (seen.push e.born) clock)).heap[b]? = some (.map es clock) := (hset.2 b (fun e1 => hne e1.symm)).trans hb1
    have hw1 : Ch (fun y => y = r) w w1 := by rcases hal with rfl | rfl; exact Ch.refl _ _; exact (Ch.refl _ _).drew
    have hsz : w1.heap.size = w.heap.size := by rcases hal with rfl | rfl <;> rfl
    refine ⟨x, a, c, _, rfl, by rw [hxe.1, hxe.2]; exact hrun, ⟨es, clock, since, seen.push e.born, clock, hb', hs, hl, hok, hset.1, hold, hsk, hsk, ?_, fun y hy => hsub y (by simp at hy ⊢; rcases hy with h | h; exact Or.inl h; exact Or.inr (Or.inr h))⟩, by rw [hxe.1, hxe.2]; exact run_entry_at _ r b since seen es clock e hset.1 hb' hem hst.2.1, hw1.setBlock (fun _ => rfl) _, by simp [ChangeMaps.setBlock, hsz]⟩
    have hsubl : ((leftOf es seen).toList.map (·.born)).Nodup := by
      have : (leftOf es seen).toList = es.toList.filter fun e => !seen.contains e.born := by simp [leftOf]
      rw [this]
      exact hst.2.1.sublist (List.filter_sublist.map _)
    have hperm := born_split he hsubl
    have hleft : (leftOf es (seen.push e.born)).toList = (leftOf es seen).toList.filter fun x => !(x.born == e.born) := by
      simp only [leftOf, Array.toList_filter, List.filter_filter]
      congr 1
      funext y
      rw [contains_push]
      cases seen.contains y.born <;> cases (y.born == e.born) <;> rfl
    rw [hleft]
    have h3 := (hperm.map fun e : MapEntry => (e.key, e.val)).symm.trans hp
    rw [List.map_cons] at h3
    have h4 : ((a ++ x :: c).map fun x => (K.val x.1, x.2)).Perm ((e.key, e.val) :: (a ++ c).map fun x => (K.val x.1, x.2)) := by
      have := (List.perm_middle (a := x) (l₁ := a) (l₂ := c)).map fun x : κ × Value => (K.val x.1, x.2)
      rw [List.map_cons, hxe.1, hxe.2] at this
      exact this
    exact (h3.trans h4).cons_inv

variable {ops : Array Oper} {rest : List Oper} {o : Oper} {a : Act} {Q : Exit → Act → World → Prop}

/-- 'range m' at a region's list. -/
theorem wpList_range_is (w : World) (hg : o.guard = none) (m : Operand) (t : TypeId) (hop : o.op = Op.range t m) {e : TypeId} (ht : P.underlying t = some (.map k e)) (hm : a.eval m = .map (some b)) (h : MapIs K.val K.ok w b l)
    (hK : ∀ w', Ranging K w' b w.heap.size l l → Below w.heap.size w w' → wpList P ops Q rest (a.put o.dst (.pointer (some ⟨w.heap.size, 0, none⟩))) w') : wpList P ops Q (o :: rest) a w := by
  refine wpList_plain hg fun K' hK' => ?_
  obtain ⟨w', hrun, r1, r2⟩ := h.range K ht
  unfold Oper.wp
  simp [execOp, hop, hm, hrun, Result.andThen]
  exact hK' _ _ (hK w' r1 r2)

/-- The step at a region's list. -/
theorem wpList_next_is (w : World) (hg : o.guard = none) (it : Operand) (hop : o.op = Op.next it false) (hit : a.eval it = .pointer (some ⟨r, 0, none⟩)) (h : Ranging K w b r l todo)
    (hDone : todo = [] → wpList P ops Q rest (a.put o.dst (.tuple #[.bool false])) w)
    (hMore : ∀ x p q w', todo = p ++ x :: q → Ranging K w' b r l (p ++ q) → (Instr.entry (.pointer (some ⟨r, 0, none⟩))).run P w' = .ok (.tuple #[K.val x.1, x.2]) w' → Ch (fun y => y = r) w w' → w'.heap.size = w.heap.size →
      wpList P ops Q rest (a.put o.dst (.tuple #[.bool true, K.val x.1, x.2])) w') : wpList P ops Q (o :: rest) a w := by
  refine wpList_plain hg fun K' hK' => ?_
  unfold Oper.wp
  rcases h.next K o.type with ⟨h0, hrun⟩ | ⟨x, p, q, w', h1, hrun, h2, h3, h4, h5⟩
  · simp [execOp, hop, hit, hrun, Result.andThen]
    exact hK' _ _ (hDone h0)
  · simp [execOp, hop, hit, hrun, Result.andThen]
    exact hK' _ _ (hMore x p q w' h1 h2 h3 h4 h5)
end

end Go.Proofs.Ytnnaidladcdbdaa
