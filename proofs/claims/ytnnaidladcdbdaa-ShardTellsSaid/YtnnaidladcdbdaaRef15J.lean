/- The reference of chapter 15: a flight more. -/
import Derived.Test.YtnnaidladcdbdaaRef15I
namespace Go.Proofs.Ytnnaidladcdbdaa
open Go.RowKit Go.ChangeMaps
open KZ (KK)

theorem RowsAt.addNil {w : World} {G : Nat → Prop} {q : Nat} {L : List RowV} (h : RowsAt w G q L) (e : TypeId) (sz : Nat) : RowsAt w G q (L ++ [⟨.slice none 0 0, e, sz, 0, []⟩]) := by
  refine ⟨fun r hr => ?_, List.pairwise_append.2 ⟨h.2, by simp, fun r hr s hs b hb e => ?_⟩⟩
  · rcases List.mem_append.1 hr with hr | hr
    · exact h.1 r hr
    · simp only [List.mem_singleton] at hr
      subst hr
      exact ⟨⟨by simp, Or.inl ⟨rfl, rfl⟩⟩, fun b hb => by cases hb⟩
  · simp only [List.mem_singleton] at hs
    subst hs
    cases e

variable {w w1 : World} {G : Nat → Prop} {q : Nat} {room : Int} {vk vv vf vr : Value} {ks : List PK} {vs : List Int} {fs : List FR} {rs : List (Int × Int × Int)}

/-- A flight more: nobody waits. -/
theorem R15.pushFly {g cap : Nat} {o : Obj} (h : R15 w G q room vk vv vf vr ks vs fs rs) (k : PK) (i : Int) (hg : (w.alloc o).grownBy w1 vf.ownBlock) (hown : w1.ownsRow 0 146 4 (.slice (some ⟨g, 0, none⟩) (fs.length + 1) cap) (fs.length + 1) (frow fs ++ [.int .i64 k.1, .string k.2, .int .i64 i, .slice none 0 0]))
    (hat : vf.ownBlock = some g ∨ g = w.heap.size + 1) (hgl : g < w1.heap.size) :
    w1.cell? ⟨q, 3, none⟩ = some vf ∧ w1.frozen? ⟨q, 3, none⟩ = false ∧ R15 (w1.setCell ⟨q, 3, none⟩ (.slice (some ⟨g, 0, none⟩) (fs.length + 1) cap)) (fresh15 G w w1) q room vk vv (.slice (some ⟨g, 0, none⟩) (fs.length + 1) cap) vr ks vs (fs ++ [⟨k, i, [], .slice none 0 0⟩]) rs ∧
      Ch G w (w1.setCell ⟨q, 3, none⟩ (.slice (some ⟨g, 0, none⟩) (fs.length + 1) cap)) := by
  obtain ⟨hc, hf, hr, hch⟩ := rows_push (f := 3) (A := [krowV vk ks, vrowV vv vs]) (r := frowV vf fs) h.rows h.lt h.gq hg hown hat hgl
  have ne : ∀ j, j ≠ 3 → (w1.setCell ⟨q, 3, none⟩ (.slice (some ⟨g, 0, none⟩) (fs.length + 1) cap)).cell? ⟨q, j, none⟩ = w.cell? ⟨q, j, none⟩ := fun j hj => by
    rw [World.cell?_setCell_other _ _ _ _ (by intro e; injection e with _ e; exact hj e.symm)]; exact hc j
  refine ⟨(hc 3).trans h.c3, (hf 3).trans (h.fz 3), ⟨(ne 0 (by omega)).trans h.c0, (ne 1 (by omega)).trans h.c1, (ne 2 (by omega)).trans h.c2, World.cell?_setCell_same _ _ _ ((hc 3).trans h.c3), (ne 4 (by omega)).trans h.c4, fun j => by rw [World.frozen?_setCell]; exact (hf j).trans (h.fz j), Or.inl h.gq, ?_, fun b hb => ?_⟩, hch⟩
  · have e1 : (frowV (.slice (some ⟨g, 0, none⟩) (fs.length + 1) cap) (fs ++ [⟨k, i, [], .slice none 0 0⟩])) = ⟨.slice (some ⟨g, 0, none⟩) (fs.length + 1) cap, 146, 4, fs.length + 1, frow fs ++ [.int .i64 k.1, .string k.2, .int .i64 i, .slice none 0 0]⟩ := by
      simp only [frowV, frow_append, List.length_append, List.length_cons, List.length_nil, frow]
    have h1 := hr.addNil 3 1
    have e2 : ([krowV vk ks, vrowV vv vs, frowV (.slice (some ⟨g, 0, none⟩) (fs.length + 1) cap) (fs ++ [⟨k, i, [], .slice none 0 0⟩]), rrowV vr rs] ++ (fs ++ [(⟨k, i, [], .slice none 0 0⟩ : FR)]).map wrowV) =
        ([krowV vk ks, vrowV vv vs] ++ ⟨.slice (some ⟨g, 0, none⟩) (fs.length + 1) cap, 146, 4, fs.length + 1, frow fs ++ [.int .i64 k.1, .string k.2, .int .i64 i, .slice none 0 0]⟩ :: (rrowV vr rs :: fs.map wrowV)) ++ [⟨.slice none 0 0, 3, 1, 0, []⟩] := by
      rw [e1]; simp [wrowV]
    rw [e2]
    exact h1
  · rw [World.size_setCell]
    have := hch.size
    rw [World.size_setCell] at this
    exact hb.elim (fun hb => by have := h.lt b hb; omega) (fun hb => hb.2)

end Go.Proofs.Ytnnaidladcdbdaa
