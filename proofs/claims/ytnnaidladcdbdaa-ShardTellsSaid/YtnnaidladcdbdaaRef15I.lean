/- The reference of chapter 15: an element more in one of its rows (an append and the store behind it). -/
import Derived.Test.YtnnaidladcdbdaaRef15H
namespace Go.Proofs.Ytnnaidladcdbdaa
open Go.RowKit Go.ChangeMaps
open KZ (KK)

/-- What an append to a row and the store of the new slice into the object leave. -/
theorem rows_push {w w1 : World} {G : Nat → Prop} {q g N cap f : Nat} {A C : List RowV} {r : RowV} {o : Obj} {xs' : List Value} (hrows : RowsAt w G q (A ++ r :: C)) (hlt : ∀ b, G b → b < w.heap.size) (gq : G q) (hg : (w.alloc o).grownBy w1 r.v.ownBlock)
    (hown : w1.ownsRow 0 r.e r.sz (.slice (some ⟨g, 0, none⟩) N cap) N xs') (hat : r.v.ownBlock = some g ∨ g = w.heap.size + 1) (hgl : g < w1.heap.size) :
    (∀ j, w1.cell? ⟨q, j, none⟩ = w.cell? ⟨q, j, none⟩) ∧ (∀ j, w1.frozen? ⟨q, j, none⟩ = w.frozen? ⟨q, j, none⟩) ∧
      RowsAt (w1.setCell ⟨q, f, none⟩ (.slice (some ⟨g, 0, none⟩) N cap)) (fresh15 G w w1) q (A ++ ⟨.slice (some ⟨g, 0, none⟩) N cap, r.e, r.sz, N, xs'⟩ :: C) ∧ Ch G w (w1.setCell ⟨q, f, none⟩ (.slice (some ⟨g, 0, none⟩) N cap)) := by
  have lq := hlt q gq
  have hs := hg.size
  rw [World.size_alloc] at hs
  have hr := (hrows.1 r (by simp)).2
  have hch : Ch (fun b => r.v.ownBlock = some b) w w1 := ((Ch.refl _ w).alloc o).grown hg (fun k hk _ => hk)
  have hqk : r.v.ownBlock ≠ some q := fun e => (hr q e).2 rfl
  have hgq : g ≠ q := by
    rcases hat with e | e
    · exact (hr g e).2
    · omega
  have hset : Ch (fun b => r.v.ownBlock = some b ∨ b = q) w (w1.setCell ⟨q, f, none⟩ (.slice (some ⟨g, 0, none⟩) N cap)) := (hch.mono (G := fun b => r.v.ownBlock = some b ∨ b = q) (fun _ _ e => Or.inl e)).setCell (p := ⟨q, f, none⟩) (fun _ => Or.inr rfl) _
  refine ⟨fun j => hch.cell (p := ⟨q, j, none⟩) lq hqk, fun j => hch.frozen (p := ⟨q, j, none⟩) lq hqk, ?_, hset.mono (fun b _ e => e.elim (fun e => (hr b e).1) (fun e => by rw [e]; exact gq))⟩
  have h1 := RowsAt.set (r' := ⟨.slice (some ⟨g, 0, none⟩) N cap, r.e, r.sz, N, xs'⟩) hrows hlt hset lq (owned_kept hown (fun b hb => by cases hb; exact Below.heap_setCell _ _ _ _ hgq)) (fun b hb => by
    cases hb
    rcases hat with e | e
    · exact Or.inl e
    · exact Or.inr ⟨by simp only; omega, by rw [World.size_setCell]; exact hgl⟩)
  exact h1.more (fun b hb => hb.imp id (fun hb => ⟨hb.1, by have := hb.2; rwa [World.size_setCell] at this⟩))

variable {w w1 : World} {G : Nat → Prop} {q : Nat} {room : Int} {vk vv vf vr : Value} {ks : List PK} {vs : List Int} {fs : List FR} {rs : List (Int × Int × Int)}

/-- A key more. -/
theorem R15.pushKey {g cap : Nat} {o : Obj} (h : R15 w G q room vk vv vf vr ks vs fs rs) (k : PK) (hg : (w.alloc o).grownBy w1 vk.ownBlock) (hown : w1.ownsRow 0 89 2 (.slice (some ⟨g, 0, none⟩) (ks.length + 1) cap) (ks.length + 1) (KZ.krow ks ++ [.int .i64 k.1, .string k.2]))
    (hat : vk.ownBlock = some g ∨ g = w.heap.size + 1) (hgl : g < w1.heap.size) :
    w1.cell? ⟨q, 1, none⟩ = some vk ∧ w1.frozen? ⟨q, 1, none⟩ = false ∧ R15 (w1.setCell ⟨q, 1, none⟩ (.slice (some ⟨g, 0, none⟩) (ks.length + 1) cap)) (fresh15 G w w1) q room (.slice (some ⟨g, 0, none⟩) (ks.length + 1) cap) vv vf vr (ks ++ [k]) vs fs rs ∧
      Ch G w (w1.setCell ⟨q, 1, none⟩ (.slice (some ⟨g, 0, none⟩) (ks.length + 1) cap)) := by
  obtain ⟨hc, hf, hr, hch⟩ := rows_push (f := 1) (A := []) (r := krowV vk ks) h.rows h.lt h.gq hg hown hat hgl
  have ne : ∀ j, j ≠ 1 → (w1.setCell ⟨q, 1, none⟩ (.slice (some ⟨g, 0, none⟩) (ks.length + 1) cap)).cell? ⟨q, j, none⟩ = w.cell? ⟨q, j, none⟩ := fun j hj => by
    rw [World.cell?_setCell_other _ _ _ _ (by intro e; injection e with _ e; exact hj e.symm)]; exact hc j
  refine ⟨(hc 1).trans h.c1, (hf 1).trans (h.fz 1), ⟨(ne 0 (by omega)).trans h.c0, World.cell?_setCell_same _ _ _ ((hc 1).trans h.c1), (ne 2 (by omega)).trans h.c2, (ne 3 (by omega)).trans h.c3, (ne 4 (by omega)).trans h.c4, fun j => by rw [World.frozen?_setCell]; exact (hf j).trans (h.fz j), Or.inl h.gq, ?_, fun b hb => ?_⟩, hch⟩
  · have e1 : (krowV (.slice (some ⟨g, 0, none⟩) (ks.length + 1) cap) (ks ++ [k])) = ⟨.slice (some ⟨g, 0, none⟩) (ks.length + 1) cap, 89, 2, ks.length + 1, KZ.krow ks ++ [.int .i64 k.1, .string k.2]⟩ := by
      simp only [krowV, KZ.krow_append, List.length_append, List.length_cons, List.length_nil, KZ.krow]
    show RowsAt _ _ _ ((krowV (.slice (some ⟨g, 0, none⟩) (ks.length + 1) cap) (ks ++ [k])) :: _)
    rw [e1]
    exact hr
  · rw [World.size_setCell]
    have := hch.size
    rw [World.size_setCell] at this
    exact hb.elim (fun hb => by have := h.lt b hb; omega) (fun hb => hb.2)

/-- A value more. -/
theorem R15.pushVal {g cap : Nat} {o : Obj} (h : R15 w G q room vk vv vf vr ks vs fs rs) (x : Int) (hg : (w.alloc o).grownBy w1 vv.ownBlock) (hown : w1.ownsRow 0 3 1 (.slice (some ⟨g, 0, none⟩) (vs.length + 1) cap) (vs.length + 1) (vs.map (.int .i64) ++ [.int .i64 x]))
    (hat : vv.ownBlock = some g ∨ g = w.heap.size + 1) (hgl : g < w1.heap.size) :
    w1.cell? ⟨q, 2, none⟩ = some vv ∧ w1.frozen? ⟨q, 2, none⟩ = false ∧ R15 (w1.setCell ⟨q, 2, none⟩ (.slice (some ⟨g, 0, none⟩) (vs.length + 1) cap)) (fresh15 G w w1) q room vk (.slice (some ⟨g, 0, none⟩) (vs.length + 1) cap) vf vr ks (vs ++ [x]) fs rs ∧
      Ch G w (w1.setCell ⟨q, 2, none⟩ (.slice (some ⟨g, 0, none⟩) (vs.length + 1) cap)) := by
  obtain ⟨hc, hf, hr, hch⟩ := rows_push (f := 2) (A := [krowV vk ks]) (r := vrowV vv vs) h.rows h.lt h.gq hg hown hat hgl
  have ne : ∀ j, j ≠ 2 → (w1.setCell ⟨q, 2, none⟩ (.slice (some ⟨g, 0, none⟩) (vs.length + 1) cap)).cell? ⟨q, j, none⟩ = w.cell? ⟨q, j, none⟩ := fun j hj => by
    rw [World.cell?_setCell_other _ _ _ _ (by intro e; injection e with _ e; exact hj e.symm)]; exact hc j
  refine ⟨(hc 2).trans h.c2, (hf 2).trans (h.fz 2), ⟨(ne 0 (by omega)).trans h.c0, (ne 1 (by omega)).trans h.c1, World.cell?_setCell_same _ _ _ ((hc 2).trans h.c2), (ne 3 (by omega)).trans h.c3, (ne 4 (by omega)).trans h.c4, fun j => by rw [World.frozen?_setCell]; exact (hf j).trans (h.fz j), Or.inl h.gq, ?_, fun b hb => ?_⟩, hch⟩
  · have e1 : (vrowV (.slice (some ⟨g, 0, none⟩) (vs.length + 1) cap) (vs ++ [x])) = ⟨.slice (some ⟨g, 0, none⟩) (vs.length + 1) cap, 3, 1, vs.length + 1, vs.map (.int .i64) ++ [.int .i64 x]⟩ := by
      simp only [vrowV, List.map_append, List.length_append, List.length_cons, List.length_nil, List.map_cons, List.map_nil]
    show RowsAt _ _ _ (krowV vk ks :: (vrowV (.slice (some ⟨g, 0, none⟩) (vs.length + 1) cap) (vs ++ [x])) :: _)
    rw [e1]
    exact hr
  · rw [World.size_setCell]
    have := hch.size
    rw [World.size_setCell] at this
    exact hb.elim (fun hb => by have := h.lt b hb; omega) (fun hb => hb.2)

/-- A result more. -/
theorem R15.pushRes {g cap : Nat} {o : Obj} (h : R15 w G q room vk vv vf vr ks vs fs rs) (x : Int × Int × Int) (hg : (w.alloc o).grownBy w1 vr.ownBlock) (hown : w1.ownsRow 0 148 3 (.slice (some ⟨g, 0, none⟩) (rs.length + 1) cap) (rs.length + 1) (rrow rs ++ [.int .i64 x.1, .int .i64 x.2.1, .int .i64 x.2.2]))
    (hat : vr.ownBlock = some g ∨ g = w.heap.size + 1) (hgl : g < w1.heap.size) :
    w1.cell? ⟨q, 4, none⟩ = some vr ∧ w1.frozen? ⟨q, 4, none⟩ = false ∧ R15 (w1.setCell ⟨q, 4, none⟩ (.slice (some ⟨g, 0, none⟩) (rs.length + 1) cap)) (fresh15 G w w1) q room vk vv vf (.slice (some ⟨g, 0, none⟩) (rs.length + 1) cap) ks vs fs (rs ++ [x]) ∧
      Ch G w (w1.setCell ⟨q, 4, none⟩ (.slice (some ⟨g, 0, none⟩) (rs.length + 1) cap)) := by
  obtain ⟨hc, hf, hr, hch⟩ := rows_push (f := 4) (A := [krowV vk ks, vrowV vv vs, frowV vf fs]) (r := rrowV vr rs) h.rows h.lt h.gq hg hown hat hgl
  have ne : ∀ j, j ≠ 4 → (w1.setCell ⟨q, 4, none⟩ (.slice (some ⟨g, 0, none⟩) (rs.length + 1) cap)).cell? ⟨q, j, none⟩ = w.cell? ⟨q, j, none⟩ := fun j hj => by
    rw [World.cell?_setCell_other _ _ _ _ (by intro e; injection e with _ e; exact hj e.symm)]; exact hc j
  refine ⟨(hc 4).trans h.c4, (hf 4).trans (h.fz 4), ⟨(ne 0 (by omega)).trans h.c0, (ne 1 (by omega)).trans h.c1, (ne 2 (by omega)).trans h.c2, (ne 3 (by omega)).trans h.c3, World.cell?_setCell_same _ _ _ ((hc 4).trans h.c4), fun j => by rw [World.frozen?_setCell]; exact (hf j).trans (h.fz j), Or.inl h.gq, ?_, fun b hb => ?_⟩, hch⟩
  · have e1 : (rrowV (.slice (some ⟨g, 0, none⟩) (rs.length + 1) cap) (rs ++ [x])) = ⟨.slice (some ⟨g, 0, none⟩) (rs.length + 1) cap, 148, 3, rs.length + 1, rrow rs ++ [.int .i64 x.1, .int .i64 x.2.1, .int .i64 x.2.2]⟩ := by
      simp only [rrowV, rrow_append, List.length_append, List.length_cons, List.length_nil, rrow]
    show RowsAt _ _ _ (krowV vk ks :: vrowV vv vs :: frowV vf fs :: (rrowV (.slice (some ⟨g, 0, none⟩) (rs.length + 1) cap) (rs ++ [x])) :: _)
    rw [e1]
    exact hr
  · rw [World.size_setCell]
    have := hch.size
    rw [World.size_setCell] at this
    exact hb.elim (fun hb => by have := h.lt b hb; omega) (fun hb => hb.2)

end Go.Proofs.Ytnnaidladcdbdaa
