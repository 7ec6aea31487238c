/- The reference of chapter 15: cut, in the words of its state. -/
import Derived.Test.YtnnaidladcdbdaaRef15C
namespace Go.Proofs.Ytnnaidladcdbdaa
open Go.RowKit Go.ChangeMaps
open KZ (KK)

theorem krow_take : ∀ (l : List PK) (k : Nat), (KZ.krow l).take (k * 2) = KZ.krow (l.take k)
  | [], k => by simp [KZ.krow]
  | x :: r, 0 => by simp [KZ.krow]
  | x :: r, k + 1 => by
    have e : (k + 1) * 2 = k * 2 + 1 + 1 := by omega
    rw [e, List.take_succ_cons, KZ.krow, List.take_succ_cons, List.take_succ_cons, krow_take r k, KZ.krow]
theorem krow_drop : ∀ (l : List PK) (k : Nat), (KZ.krow l).drop (k * 2) = KZ.krow (l.drop k)
  | [], k => by simp [KZ.krow]
  | x :: r, 0 => by simp
  | x :: r, k + 1 => by
    have e : (k + 1) * 2 = k * 2 + 1 + 1 := by omega
    rw [e, List.drop_succ_cons, KZ.krow, List.drop_succ_cons, List.drop_succ_cons, krow_drop r k]
theorem krow_cut (l : List PK) (k : Nat) : (KZ.krow l).take (k * 2) ++ (KZ.krow l).drop ((k + 1) * 2) = KZ.krow (l.eraseIdx k) := by
  rw [krow_take, krow_drop, ← KZ.krow_append, List.eraseIdx_eq_take_drop_succ]
theorem krow_one (l : List PK) : ∀ u ∈ KZ.krow l, u.oneCell' = true := by
  induction l with
  | nil => intro u hu; simp [KZ.krow] at hu
  | cons x r ih =>
    intro u hu
    simp only [KZ.krow, List.mem_cons] at hu
    rcases hu with rfl | rfl | hu
    · rfl
    · rfl
    · exact ih u hu

variable {w w' : World} {G : Nat → Prop} {q : Nat} {room : Int} {vk vv vf vr : Value} {ks : List PK} {vs : List Int} {fs : List FR} {rs : List (Int × Int × Int)}

/-- A row of the object was built anew. -/
theorem R15.newKeys {ks' : List PK} {wc : World} (h : R15 w G q room vk vv vf vr ks vs fs rs) (hc : CutPost q 1 89 2 ks'.length (KZ.krow ks') w wc) : ∃ vk', R15 wc (fresh15 G w wc) q room vk' vv vf vr ks' vs fs rs ∧ Ch (fun b => b = q) w wc := by
  obtain ⟨g, cap, d, hown, hlo, hhi, hch, hcl, hfl⟩ := hc
  have lq := h.lt q h.gq
  refine ⟨_, ⟨(hcl 0 (by omega)).trans h.c0, d, (hcl 2 (by omega)).trans h.c2, (hcl 3 (by omega)).trans h.c3, (hcl 4 (by omega)).trans h.c4, fun o => (hfl o).trans (h.fz o), Or.inl h.gq,
    RowsAt.set (A := []) (r' := krowV _ ks') h.rows h.lt (hch.mono (fun _ _ e => Or.inr e)) lq hown (fun b hb => by cases hb; exact Or.inr ⟨hlo, hhi⟩), fun b hb => ?_⟩, hch⟩
  rcases hb with hb | hb
  · exact Nat.lt_of_lt_of_le (h.lt b hb) hch.size
  · exact hb.2

theorem R15.newVals {vs' : List Int} {wc : World} (h : R15 w G q room vk vv vf vr ks vs fs rs) (hc : CutPost q 2 3 1 vs'.length (vs'.map (.int .i64)) w wc) : ∃ vv', R15 wc (fresh15 G w wc) q room vk vv' vf vr ks vs' fs rs ∧ Ch (fun b => b = q) w wc := by
  obtain ⟨g, cap, d, hown, hlo, hhi, hch, hcl, hfl⟩ := hc
  have lq := h.lt q h.gq
  refine ⟨_, ⟨(hcl 0 (by omega)).trans h.c0, (hcl 1 (by omega)).trans h.c1, d, (hcl 3 (by omega)).trans h.c3, (hcl 4 (by omega)).trans h.c4, fun o => (hfl o).trans (h.fz o), Or.inl h.gq,
    RowsAt.set (A := [krowV vk ks]) (r' := vrowV _ vs') h.rows h.lt (hch.mono (fun _ _ e => Or.inr e)) lq hown (fun b hb => by cases hb; exact Or.inr ⟨hlo, hhi⟩), fun b hb => ?_⟩, hch⟩
  rcases hb with hb | hb
  · exact Nat.lt_of_lt_of_le (h.lt b hb) hch.size
  · exact hb.2

theorem R15.more {G' : Nat → Prop} (h : R15 w G q room vk vv vf vr ks vs fs rs) (hG : ∀ b, G b → G' b) (hlt : ∀ b, G' b → b < w.heap.size) : R15 w G' q room vk vv vf vr ks vs fs rs :=
  { h with gq := hG q h.gq, rows := h.rows.more hG, lt := hlt }

theorem r15_cut {k : Nat} (h : R15 w G q room vk vv vf vr ks vs fs rs) (hk : k < ks.length) (hl : vs.length = ks.length) (hn : ks.length ≤ 1000) :
    Calls Try.prog 72 #[.pointer (some ⟨q, 0, none⟩), .int .i64 k] w fun e w' => e = .returned (.tuple #[]) ∧ (∃ vk' vv', R15 w' (fresh15 G w w') q room vk' vv' vf vr (ks.eraseIdx k) (vs.eraseIdx k) fs rs) ∧ Ch G w w' := by
  obtain ⟨o1, g1⟩ := h.rows.1 (krowV vk ks) (by simp)
  obtain ⟨o2, g2⟩ := h.rows.1 (vrowV vv vs) (by simp)
  obtain ⟨gk, ck, e1, _, _⟩ := o1.form (show 0 < ks.length by omega)
  obtain ⟨gv, cv, e2, _, _⟩ := o2.form (show 0 < vs.length by omega)
  have e1' : vk = .slice (some ⟨gk, 0, none⟩) ks.length ck := e1
  have e2' : vv = .slice (some ⟨gv, 0, none⟩) ks.length cv := by rw [← hl]; exact e2
  subst e1' e2'
  have oneI : ∀ u ∈ vs.map (Value.int .i64), u.oneCell' = true := fun u hu => by obtain ⟨x, _, rfl⟩ := List.mem_map.1 hu; rfl
  have o2' : w.ownsRow 0 3 1 (.slice (some ⟨gv, 0, none⟩) ks.length cv) ks.length (vs.map (.int .i64)) := by have := o2; simp only [hl] at this; exact this
  refine (r15_cut_a q gk gv ks.length ck cv k (KZ.krow ks) (vs.map (.int .i64)) w h.c1 h.c2 h.fz o1 o2' hk hn (g1 gk rfl).2 (g2 gv rfl).2 (krow_one ks) oneI).mono ?_
  rintro e w' ⟨he, wc, p1, p2⟩
  have l1 : (ks.eraseIdx k).length = ks.length - 1 := by rw [List.length_eraseIdx]; simp [hk]
  have l2 : (vs.eraseIdx k).length = ks.length - 1 := by rw [List.length_eraseIdx, hl]; simp [hk]
  have e3 : (vs.map (Value.int .i64)).take (k * 1) ++ (vs.map (Value.int .i64)).drop ((k + 1) * 1) = (vs.eraseIdx k).map (.int .i64) := by rw [List.eraseIdx_eq_take_drop_succ]; simp
  rw [krow_cut, ← l1] at p1
  rw [e3, ← l2] at p2
  obtain ⟨vk', h1, hc1⟩ := h.newKeys p1
  obtain ⟨vv', h2, hc2⟩ := h1.newVals p2
  have hs1 := hc1.size
  have hs2 := hc2.size
  refine ⟨he, ⟨vk', vv', h2.more (fun b hb => ?_) (fun b hb => ?_)⟩, (hc1.mono (fun b _ e => by rw [e]; exact h.gq)).trans hc2 (fun b _ e => by rw [e]; exact h.gq)⟩
  · rcases hb with (hb | hb) | hb
    · exact Or.inl hb
    · exact Or.inr ⟨hb.1, by omega⟩
    · exact Or.inr ⟨by omega, hb.2⟩
  · rcases hb with hb | hb
    · have := h.lt b hb; omega
    · exact hb.2

end Go.Proofs.Ytnnaidladcdbdaa
