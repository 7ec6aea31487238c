/- The reference of chapter 15: another row of those that wait. -/
import Derived.Test.YtnnaidladcdbdaaRef15J
namespace Go.Proofs.Ytnnaidladcdbdaa
open Go.RowKit Go.ChangeMaps
open KZ (KK)

theorem frow_set : ∀ (l : List FR) (i : Nat) (f : FR) (ws : List Int) (v : Value), l[i]? = some f → (frow l).set (i * 4 + 3) v = frow (l.set i ⟨f.k, f.lead, ws, v⟩)
  | [], i, f, ws, v, h => by simp at h
  | x :: r, 0, f, ws, v, h => by
    simp at h; subst h
    simp [frow]
  | x :: r, i + 1, f, ws, v, h => by
    simp at h
    have ih := frow_set r i f ws v h
    have e : (i + 1) * 4 + 3 = i * 4 + 3 + 1 + 1 + 1 + 1 := by omega
    rw [e, frow, List.set_cons_succ, List.set_cons_succ, List.set_cons_succ, List.set_cons_succ, ih, List.set_cons_succ, frow]

/-- One row gives way to another one, in a block of none of G. -/
theorem RowsAt.swap {w : World} {G : Nat → Prop} {q : Nat} {A C : List RowV} {r r' : RowV} (h : RowsAt w G q (A ++ r :: C)) (gq : G q) (ho : w.ownsRow 0 r'.e r'.sz r'.v r'.n r'.xs) (hnew : ∀ b, r'.v.ownBlock = some b → ¬ G b) :
    RowsAt w (fun b => G b ∨ r'.v.ownBlock = some b) q (A ++ r' :: C) := by
  obtain ⟨h1, h2⟩ := h
  have hp := List.pairwise_append.1 h2
  have hp2 := List.pairwise_cons.1 hp.2.1
  refine ⟨fun s hs => ?_, List.pairwise_append.2 ⟨hp.1, List.pairwise_cons.2 ⟨fun s hs b hb e => ?_, hp2.2⟩, fun s hs t ht => ?_⟩⟩
  · rcases List.mem_append.1 hs with hs | hs
    · exact ⟨(h1 s (by simp [hs])).1, fun b hb => ⟨Or.inl ((h1 s (by simp [hs])).2 b hb).1, ((h1 s (by simp [hs])).2 b hb).2⟩⟩
    · rcases List.mem_cons.1 hs with rfl | hs
      · exact ⟨ho, fun b hb => ⟨Or.inr hb, fun e => hnew b hb (by rw [e]; exact gq)⟩⟩
      · exact ⟨(h1 s (by simp [hs])).1, fun b hb => ⟨Or.inl ((h1 s (by simp [hs])).2 b hb).1, ((h1 s (by simp [hs])).2 b hb).2⟩⟩
  · exact hnew b hb ((h1 s (by simp [hs])).2 b e).1
  · rcases List.mem_cons.1 ht with rfl | ht
    · exact fun b hb e => hnew b e ((h1 s (by simp [hs])).2 b hb).1
    · exact hp.2.2 s hs t (by simp [ht])

variable {w : World} {G : Nat → Prop} {q : Nat} {room : Int} {vk vv vr : Value} {ks : List PK} {vs : List Int} {fs : List FR} {rs : List (Int × Int × Int)}

/-- A flight's waiting ones are another row. -/
theorem R15.setWaits {i g cf : Nat} {f : FR} {ws : List Int} {v' : Value} (h : R15 w G q room vk vv (.slice (some ⟨g, 0, none⟩) fs.length cf) vr ks vs fs rs) (hf : fs[i]? = some f) (ho : w.ownsRow 0 3 1 v' ws.length (ws.map (.int .i64))) (hnew : ∀ b, v'.ownBlock = some b → ¬ G b) :
    R15 (w.setCell ⟨g, i * 4 + 3, none⟩ v') (fun b => G b ∨ v'.ownBlock = some b) q room vk vv (.slice (some ⟨g, 0, none⟩) fs.length cf) vr ks vs (fs.set i ⟨f.k, f.lead, ws, v'⟩) rs ∧ Ch G w (w.setCell ⟨g, i * 4 + 3, none⟩ v') := by
  obtain ⟨hi, hfe⟩ := List.getElem?_eq_some_iff.1 hf
  have hsplit : fs = fs.take i ++ f :: fs.drop (i + 1) := by rw [← hfe, ← List.drop_eq_getElem_cons hi, List.take_append_drop]
  have hset : fs.set i ⟨f.k, f.lead, ws, v'⟩ = fs.take i ++ (⟨f.k, f.lead, ws, v'⟩ : FR) :: fs.drop (i + 1) := by rw [List.set_eq_take_append_cons_drop, if_pos hi]
  obtain ⟨oF, gF⟩ := h.rows.1 (frowV (.slice (some ⟨g, 0, none⟩) fs.length cf) fs) (by simp)
  obtain ⟨hGg, hgq⟩ := gF g rfl
  have e1 : [krowV vk ks, vrowV vv vs, frowV (.slice (some ⟨g, 0, none⟩) fs.length cf) fs, rrowV vr rs] ++ fs.map wrowV = ([krowV vk ks, vrowV vv vs, frowV (.slice (some ⟨g, 0, none⟩) fs.length cf) fs, rrowV vr rs] ++ (fs.take i).map wrowV) ++ wrowV f :: (fs.drop (i + 1)).map wrowV := by
    conv => lhs; arg 2; rw [hsplit]
    simp
  have h0 := h.rows
  rw [e1] at h0
  have h1 := h0.swap (r' := wrowV ⟨f.k, f.lead, ws, v'⟩) h.gq ho hnew
  have e2 : ([krowV vk ks, vrowV vv vs, frowV (.slice (some ⟨g, 0, none⟩) fs.length cf) fs, rrowV vr rs] ++ (fs.take i).map wrowV) ++ wrowV ⟨f.k, f.lead, ws, v'⟩ :: (fs.drop (i + 1)).map wrowV =
      [krowV vk ks, vrowV vv vs] ++ frowV (.slice (some ⟨g, 0, none⟩) fs.length cf) fs :: (rrowV vr rs :: ((fs.take i).map wrowV ++ wrowV ⟨f.k, f.lead, ws, v'⟩ :: (fs.drop (i + 1)).map wrowV)) := by simp
  rw [e2] at h1
  have hlt' : ∀ b, (G b ∨ v'.ownBlock = some b) → b < w.heap.size := fun b hb => hb.elim (h.lt b) (fun hb => (ho.lt b hb).2)
  have lq := h.lt q h.gq
  obtain ⟨st, -⟩ := oF.stored (i * 4 + 3) v'
  have hch : Ch (fun b => b = g) w (w.setCell ⟨g, i * 4 + 3, none⟩ v') := (Ch.refl (fun b => b = g) w).setCell (p := ⟨g, i * 4 + 3, none⟩) (fun _ => rfl) v'
  have h2 := RowsAt.set (r' := ⟨.slice (some ⟨g, 0, none⟩) fs.length cf, 146, 4, fs.length, (frow fs).set (i * 4 + 3) v'⟩) h1 hlt' (hch.mono (fun b _ e => Or.inl (by rw [e]; rfl))) lq st (fun b hb => Or.inl hb)
  have h3 := h2.more (G' := fun b => G b ∨ v'.ownBlock = some b) (fun b hb => hb.elim id (fun hb => by have := hb.2; rw [World.size_setCell] at this; omega))
  have hcell : ∀ j, (w.setCell ⟨g, i * 4 + 3, none⟩ v').cell? ⟨q, j, none⟩ = w.cell? ⟨q, j, none⟩ := fun j => hch.cell (p := ⟨q, j, none⟩) lq (fun e => hgq e.symm)
  refine ⟨⟨(hcell 0).trans h.c0, (hcell 1).trans h.c1, (hcell 2).trans h.c2, (hcell 3).trans h.c3, (hcell 4).trans h.c4, fun j => by rw [World.frozen?_setCell]; exact h.fz j, Or.inl h.gq, ?_, fun b hb => by rw [World.size_setCell]; exact hlt' b hb⟩, hch.mono (fun b _ e => by rw [e]; exact hGg)⟩
  have e3 : [krowV vk ks, vrowV vv vs, frowV (.slice (some ⟨g, 0, none⟩) fs.length cf) (fs.set i ⟨f.k, f.lead, ws, v'⟩), rrowV vr rs] ++ (fs.set i ⟨f.k, f.lead, ws, v'⟩).map wrowV =
      [krowV vk ks, vrowV vv vs] ++ ⟨.slice (some ⟨g, 0, none⟩) fs.length cf, 146, 4, fs.length, (frow fs).set (i * 4 + 3) v'⟩ :: (rrowV vr rs :: ((fs.take i).map wrowV ++ wrowV ⟨f.k, f.lead, ws, v'⟩ :: (fs.drop (i + 1)).map wrowV)) := by
    rw [frow_set fs i f ws v' hf]
    conv => lhs; arg 2; rw [hset]
    simp [frowV]
  rw [e3]
  exact h3

end Go.Proofs.Ytnnaidladcdbdaa
