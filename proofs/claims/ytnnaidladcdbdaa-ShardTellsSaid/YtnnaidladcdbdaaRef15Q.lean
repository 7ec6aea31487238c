/- The reference of chapter 15: End: a flight goes; who does not lead is told so. -/
import Derived.Test.YtnnaidladcdbdaaRef15P
namespace Go.Proofs.Ytnnaidladcdbdaa
open Go.RowKit Go.ChangeMaps
open KZ (KK)

theorem frow_take : ∀ (l : List FR) (k : Nat), (frow l).take (k * 4) = frow (l.take k)
  | [], k => by simp [frow]
  | x :: r, 0 => by simp [frow]
  | x :: r, k + 1 => by
    have e : (k + 1) * 4 = k * 4 + 1 + 1 + 1 + 1 := by omega
    rw [e, List.take_succ_cons, frow, List.take_succ_cons, List.take_succ_cons, List.take_succ_cons, List.take_succ_cons, frow_take r k, frow]
theorem frow_drop : ∀ (l : List FR) (k : Nat), (frow l).drop (k * 4) = frow (l.drop k)
  | [], k => by simp [frow]
  | x :: r, 0 => by simp
  | x :: r, k + 1 => by
    have e : (k + 1) * 4 = k * 4 + 1 + 1 + 1 + 1 := by omega
    rw [e, List.drop_succ_cons, frow, List.drop_succ_cons, List.drop_succ_cons, List.drop_succ_cons, List.drop_succ_cons, frow_drop r k]
theorem frow_cut (l : List FR) (k : Nat) : (frow l).take (k * 4) ++ (frow l).drop ((k + 1) * 4) = frow (l.eraseIdx k) := by
  rw [frow_take, frow_drop, ← frow_append, List.eraseIdx_eq_take_drop_succ]
theorem frow_one : ∀ l : List FR, (∀ f ∈ l, f.v.oneCell' = true) → ∀ u ∈ frow l, u.oneCell' = true
  | [], _, u, hu => by simp [frow] at hu
  | x :: r, h, u, hu => by
    simp only [frow, List.mem_cons] at hu
    rcases hu with rfl | rfl | rfl | rfl | hu
    · rfl
    · rfl
    · rfl
    · exact h x (by simp)
    · exact frow_one r (fun f hf => h f (by simp [hf])) u hu

/-- A row goes, and its block is no one's. -/
theorem RowsAt.cutOff {w : World} {G : Nat → Prop} {q : Nat} {A C : List RowV} {r : RowV} (h : RowsAt w G q (A ++ r :: C)) : RowsAt w (fun b => G b ∧ r.v.ownBlock ≠ some b) q (A ++ C) := by
  have hc := h.cut
  have hp := List.pairwise_append.1 h.2
  have hp2 := List.pairwise_cons.1 hp.2.1
  refine ⟨fun s hs => ⟨(hc.1 s hs).1, fun b hb => ⟨⟨((hc.1 s hs).2 b hb).1, fun e => ?_⟩, ((hc.1 s hs).2 b hb).2⟩⟩, hc.2⟩
  rcases List.mem_append.1 hs with hs | hs
  · exact hp.2.2 s hs r (by simp) b hb e
  · exact hp2.1 s hs b e hb

section
variable {w wc : World} {G : Nat → Prop} {q : Nat} {room : Int} {vk vv vf vr : Value} {ks : List PK} {vs : List Int} {fs : List FR} {rs : List (Int × Int × Int)}

/-- The blocks without a flight's own row of those that wait. -/
abbrev offF (G : Nat → Prop) (f : FR) : Nat → Prop := fun b => G b ∧ f.v.ownBlock ≠ some b

theorem R15.slices (h : R15 w G q room vk vv vf vr ks vs fs rs) : ∀ f ∈ fs, f.v.oneCell' = true := fun f hf => by
  obtain ⟨aw, cw, e, _⟩ := own_shape3 (h.rows.1 (wrowV f) (by simp only [List.mem_append]; exact Or.inr (List.mem_map_of_mem hf))).1
  have e' : f.v = .slice aw f.ws.length cw := e
  rw [e']; rfl

/-- A flight is gone. -/
theorem R15.cutFly {m : Nat} {f : FR} (h : R15 w G q room vk vv vf vr ks vs fs rs) (hf : fs[m]? = some f) (hc : CutPost q 3 146 4 (fs.eraseIdx m).length (frow (fs.eraseIdx m)) w wc) :
    ∃ vf', R15 wc (fresh15 (offF G f) w wc) q room vk vv vf' vr ks vs (fs.eraseIdx m) rs ∧ Ch (fun b => b = q) w wc := by
  obtain ⟨g, cap, d, hown, hlo, hhi, hch, hcl, hfl⟩ := hc
  have lq := h.lt q h.gq
  obtain ⟨hi, hfe⟩ := List.getElem?_eq_some_iff.1 hf
  have hsplit : fs = fs.take m ++ f :: fs.drop (m + 1) := by rw [← hfe, ← List.drop_eq_getElem_cons hi, List.take_append_drop]
  have e1 : [krowV vk ks, vrowV vv vs, frowV vf fs, rrowV vr rs] ++ fs.map wrowV = ([krowV vk ks, vrowV vv vs, frowV vf fs, rrowV vr rs] ++ (fs.take m).map wrowV) ++ wrowV f :: (fs.drop (m + 1)).map wrowV := by
    conv => lhs; arg 2; rw [hsplit]
    simp
  have h0 := h.rows
  have hqf : f.v.ownBlock ≠ some q := fun e => ((h0.1 (wrowV f) (by simp only [List.mem_append]; exact Or.inr (List.mem_map_of_mem (List.mem_of_getElem? hf)))).2 q e).2 rfl
  rw [e1] at h0
  have h1 := h0.cutOff
  have e2 : ([krowV vk ks, vrowV vv vs, frowV vf fs, rrowV vr rs] ++ (fs.take m).map wrowV) ++ (fs.drop (m + 1)).map wrowV = [krowV vk ks, vrowV vv vs] ++ frowV vf fs :: (rrowV vr rs :: (fs.eraseIdx m).map wrowV) := by
    rw [List.eraseIdx_eq_take_drop_succ, List.map_append]; simp
  rw [e2] at h1
  have hlt : ∀ b, offF G f b → b < w.heap.size := fun b hb => h.lt b hb.1
  refine ⟨_, ⟨(hcl 0 (by omega)).trans h.c0, (hcl 1 (by omega)).trans h.c1, (hcl 2 (by omega)).trans h.c2, d, (hcl 4 (by omega)).trans h.c4, fun o => (hfl o).trans (h.fz o), Or.inl ⟨h.gq, hqf⟩,
    RowsAt.set (A := [krowV vk ks, vrowV vv vs]) (r' := frowV _ (fs.eraseIdx m)) h1 hlt (hch.mono (fun _ _ e => Or.inr e)) lq hown (fun b hb => by cases hb; exact Or.inr ⟨hlo, hhi⟩), fun b hb => ?_⟩, hch⟩
  rcases hb with hb | hb
  · exact Nat.lt_of_lt_of_le (hlt b hb) hch.size
  · exact hb.2

end

variable {w w' : World} {G : Nat → Prop} {q : Nat} {room : Int} {l : List (PK × Int)} {tl : List (PK × Int × List Int)} {rs : List (Int × Int × Int)}

set_option maxRecDepth 100000 in
set_option maxHeartbeats 4000000 in
/-- Nobody leads the key, or another one. -/
theorem end_no15 (h : TL w G q room l tl rs) (i : Int) (k : PK) (z e : Int) (ht : tl.length ≤ 1000) (hno : ∀ x ∈ tl, x.1 = k → x.2.1 ≠ i) (hd : (tl.map Prod.fst).Nodup) :
    Calls Try.prog 49 #[.pointer (some ⟨q, 0, none⟩), .int .i64 i, KK k, .int .i64 z, .int .i64 e] w fun x w' => x = .returned (.int .i64 10) ∧ Below w.heap.size w w' := by
  obtain ⟨fs, hfs, vk, vv, vf, vr, h0⟩ := h
  have hkk : ∀ i, (w.alloc (.cells #[.int .i64 k.1, .string k.2] 89)).cell? ⟨w.heap.size, i, none⟩ = #[Value.int .i64 k.1, .string k.2][i]? := fun i => World.cell?_alloc_new _ _ _ _
  have hk0 : (w.alloc (.cells #[.int .i64 k.1, .string k.2] 89)).cell? ⟨w.heap.size, 0, none⟩ = some (.int .i64 k.1) := by rw [hkk]; rfl
  have hk1 : (w.alloc (.cells #[.int .i64 k.1, .string k.2] 89)).cell? ⟨w.heap.size, 1, none⟩ = some (.string k.2) := by rw [hkk]; rfl
  have hb1 : Below w.heap.size w (w.alloc (.cells #[.int .i64 k.1, .string k.2] 89)) := (Below.refl _ _).alloc (Nat.le_refl _) _
  have h1 := h0.kept (Ch.of_none hb1 (fun _ => False)) (fun _ _ h => h)
  have hfl : fs.length = tl.length := by have := congrArg List.length hfs; simpa using this
  have hmem : ∀ y ∈ fs, y.told ∈ tl := fun y hy => by rw [← hfs]; exact List.mem_map_of_mem hy
  by_cases hin : k ∈ tl.map Prod.fst
  · obtain ⟨j, hj, hje⟩ := List.getElem_of_mem hin
    rw [List.length_map] at hj
    obtain ⟨f, hf⟩ : ∃ f, fs[j]? = some f := ⟨_, List.getElem?_eq_getElem (by omega)⟩
    have hft : tl[j]? = some f.told := by rw [← hfs, List.getElem?_map, hf]; rfl
    have hfk : f.k = k := by
      rw [List.getElem_map] at hje
      have := (List.getElem?_eq_some_iff.1 hft).2
      rw [this] at hje
      exact hje
    have hlead : (f.lead != i) = true := by simpa using hno f.told (List.mem_of_getElem? hft) hfk
    have FL := Lib.hid (r15_flies h1 k j (by omega) (by omega) (fun a ha y hy e => by
      have h5 : tl[a]? = some y.told := by rw [← hfs, List.getElem?_map, hy]; rfl
      have h6 : (tl.map Prod.fst)[a]? = some k := by rw [List.getElem?_map, h5]; exact congrArg some e
      have h7 : (tl.map Prod.fst)[j]? = some k := by rw [List.getElem?_map, hft]; exact congrArg some hfk
      have := (List.getElem?_inj (by rw [List.length_map]; omega) hd).1 (h6.trans h7.symm)
      omega) (fun y hy => by rw [hf] at hy; cases hy; exact hfk))
    rw [place15_lt (by omega)] at FL
    have H1 := Lib.hid h1
    have hneg : decide ((j : Int) < 0) = false := decide_eq_false (by omega)
    obtain ⟨N, hN⟩ : ∃ N, fs.length = N := ⟨_, rfl⟩
    have i1 : (j : Int) < (N : Int) := by omega
    have HN := Lib.hid hN
    have HF := Lib.hid hf
    clear hkk h0 h1 hfs hno hd hmem hin hje hf hft hN
    go_enter Try.func49, Try.ntmps49
    go_upto_region 1 with fail
    change Code.wp _ _ _ _ (w.alloc (.cells #[.int .i64 k.1, .string k.2] 89))
    revert hk0 hk1 hb1 FL H1
    generalize w.alloc (.cells #[.int .i64 k.1, .string k.2] 89) = w1
    intro hk0 hk1 hb1 FL H1
    go_wp2_with fail
    refine FL.out.mono ?_
    rintro x w2 ⟨rfl, hb2⟩
    have h2 := H1.out.kept (Ch.of_none hb2 (fun _ => False)) (fun _ _ h => h)
    obtain ⟨g, cf, aw, cw, rfl, hfv, c2, -, -, -⟩ := h2.flyAt HF.out
    have c3 := h2.c3
    rw [HN.out] at c3
    clear h2 hfv
    go_wp2_with fail
    go_ret
    exact ⟨rfl, hb1.trans (hb2.mono hb1.size)⟩
  · have FL := Lib.hid (r15_flies h1 k fs.length (by omega) (Nat.le_refl _) (fun a ha y hy e => hin (by rw [← e]; exact List.mem_map_of_mem (f := Prod.fst) (hmem y (List.mem_of_getElem? hy)))) (fun y hy => by have := (List.getElem?_eq_some_iff.1 hy).1; omega))
    rw [place15_ge (Nat.lt_irrefl _)] at FL
    clear hkk h0 h1 hfs hno hd hmem hin
    go_enter Try.func49, Try.ntmps49
    go_upto_region 1 with fail
    change Code.wp _ _ _ _ (w.alloc (.cells #[.int .i64 k.1, .string k.2] 89))
    revert hk0 hk1 hb1 FL
    generalize w.alloc (.cells #[.int .i64 k.1, .string k.2] 89) = w1
    intro hk0 hk1 hb1 FL
    go_wp2_with fail
    refine FL.out.mono ?_
    rintro x w2 ⟨rfl, hb2⟩
    go_wp2_with fail
    go_ret
    exact ⟨rfl, hb1.trans (hb2.mono hb1.size)⟩

end Go.Proofs.Ytnnaidladcdbdaa
