/- The reference of chapter 15: Begin, the key flies: one more waits. -/
import Derived.Test.YtnnaidladcdbdaaRef15O
namespace Go.Proofs.Ytnnaidladcdbdaa
open Go.RowKit Go.ChangeMaps
open KZ (KK)

section
variable {w w1 : World} {G : Nat → Prop} {q : Nat} {room : Int} {vk vv vr : Value} {ks : List PK} {vs : List Int} {fs : List FR} {rs : List (Int × Int × Int)}

/-- One more waits in a flight. -/
theorem R15.pushWait {i g g' cf cap : Nat} {f : FR} {y : Int} {o : Obj} (h : R15 w G q room vk vv (.slice (some ⟨g, 0, none⟩) fs.length cf) vr ks vs fs rs) (hf : fs[i]? = some f) (hg : (w.alloc o).grownBy w1 f.v.ownBlock)
    (hown : w1.ownsRow 0 3 1 (.slice (some ⟨g', 0, none⟩) (f.ws.length + 1) cap) (f.ws.length + 1) (f.ws.map (.int .i64) ++ [.int .i64 y])) (hat : f.v.ownBlock = some g' ∨ g' = w.heap.size + 1) (hgl : g' < w1.heap.size) :
    w1.cell? ⟨q, 3, none⟩ = some (.slice (some ⟨g, 0, none⟩) fs.length cf) ∧ w1.cell? ⟨g, i * 4 + 3, none⟩ = some f.v ∧ w1.frozen? ⟨g, i * 4 + 3, none⟩ = false ∧
      R15 (w1.setCell ⟨g, i * 4 + 3, none⟩ (.slice (some ⟨g', 0, none⟩) (f.ws.length + 1) cap)) (fresh15 G w w1) q room vk vv (.slice (some ⟨g, 0, none⟩) fs.length cf) vr ks vs (fs.set i ⟨f.k, f.lead, f.ws ++ [y], .slice (some ⟨g', 0, none⟩) (f.ws.length + 1) cap⟩) rs ∧
      Ch G w (w1.setCell ⟨g, i * 4 + 3, none⟩ (.slice (some ⟨g', 0, none⟩) (f.ws.length + 1) cap)) := by
  obtain ⟨v', hv'⟩ : ∃ v', Value.slice (some ⟨g', 0, none⟩) (f.ws.length + 1) cap = v' := ⟨_, rfl⟩
  have hob : v'.ownBlock = some g' := by rw [← hv']; rfl
  rw [hv'] at hown ⊢
  obtain ⟨hi, hfe⟩ := List.getElem?_eq_some_iff.1 hf
  have hsplit : fs = fs.take i ++ f :: fs.drop (i + 1) := by rw [← hfe, ← List.drop_eq_getElem_cons hi, List.take_append_drop]
  have hset : fs.set i ⟨f.k, f.lead, f.ws ++ [y], v'⟩ = fs.take i ++ (⟨f.k, f.lead, f.ws ++ [y], v'⟩ : FR) :: fs.drop (i + 1) := by rw [List.set_eq_take_append_cons_drop, if_pos hi]
  have e1 : [krowV vk ks, vrowV vv vs, frowV (.slice (some ⟨g, 0, none⟩) fs.length cf) fs, rrowV vr rs] ++ fs.map wrowV = ([krowV vk ks, vrowV vv vs, frowV (.slice (some ⟨g, 0, none⟩) fs.length cf) fs, rrowV vr rs] ++ (fs.take i).map wrowV) ++ wrowV f :: (fs.drop (i + 1)).map wrowV := by
    conv => lhs; arg 2; rw [hsplit]
    simp
  have h0 := h.rows
  have lq := h.lt q h.gq
  obtain ⟨oF0, gF⟩ := h0.1 (frowV (.slice (some ⟨g, 0, none⟩) fs.length cf) fs) (by simp)
  obtain ⟨hGg, hgq⟩ := gF g rfl
  have hWr := (h0.1 (wrowV f) (by simp only [List.mem_append]; exact Or.inr (List.mem_map_of_mem (List.mem_of_getElem? hf)))).2
  have hne : ∀ b, f.v.ownBlock = some b → b ≠ g := by
    rw [e1] at h0
    have h4 := (List.pairwise_append.1 h0.2).2.2 (frowV (.slice (some ⟨g, 0, none⟩) fs.length cf) fs) (by simp) (wrowV f) (by simp) g rfl
    exact fun b hb e => h4 (by rw [← e]; exact hb)
  rw [e1] at h0
  have hch : Ch (fun b => f.v.ownBlock = some b) w w1 := ((Ch.refl _ w).alloc o).grown hg (fun k hk _ => hk)
  have hqn : f.v.ownBlock ≠ some q := fun e => (hWr q e).2 rfl
  have h1 := RowsAt.set (r' := ⟨v', 3, 1, f.ws.length + 1, f.ws.map (.int .i64) ++ [.int .i64 y]⟩) h0 h.lt (hch.mono (fun b _ e => Or.inl e)) lq hown (fun b hb => by
    rw [hob] at hb
    cases hb
    rcases hat with e | e
    · exact Or.inl e
    · exact Or.inr ⟨by omega, hgl⟩)
  have hs1 := hch.size
  have hlt1 : ∀ b, fresh15 G w w1 b → b < w1.heap.size := fun b hb => hb.elim (fun hb => by have := h.lt b hb; omega) (fun hb => hb.2)
  have e2 : ([krowV vk ks, vrowV vv vs, frowV (.slice (some ⟨g, 0, none⟩) fs.length cf) fs, rrowV vr rs] ++ (fs.take i).map wrowV) ++ (⟨v', 3, 1, f.ws.length + 1, f.ws.map (.int .i64) ++ [.int .i64 y]⟩ : RowV) :: (fs.drop (i + 1)).map wrowV =
      [krowV vk ks, vrowV vv vs] ++ frowV (.slice (some ⟨g, 0, none⟩) fs.length cf) fs :: (rrowV vr rs :: ((fs.take i).map wrowV ++ (⟨v', 3, 1, f.ws.length + 1, f.ws.map (.int .i64) ++ [.int .i64 y]⟩ : RowV) :: (fs.drop (i + 1)).map wrowV)) := by simp
  rw [e2] at h1
  have oF1 := (h1.1 (frowV (.slice (some ⟨g, 0, none⟩) fs.length cf) fs) (by simp)).1
  obtain ⟨st, -⟩ := oF1.stored (i * 4 + 3) v'
  have hch2 : Ch (fun b => b = g) w1 (w1.setCell ⟨g, i * 4 + 3, none⟩ v') := (Ch.refl (fun b => b = g) w1).setCell (p := ⟨g, i * 4 + 3, none⟩) (fun _ => rfl) v'
  have h2 := RowsAt.set (r' := ⟨.slice (some ⟨g, 0, none⟩) fs.length cf, 146, 4, fs.length, (frow fs).set (i * 4 + 3) v'⟩) h1 hlt1 (hch2.mono (fun b _ e => Or.inl (by rw [e]; rfl))) (by omega) st (fun b hb => Or.inl hb)
  have h3 := h2.more (G' := fresh15 G w w1) (fun b hb => hb.elim id (fun hb => by have := hb.2; rw [World.size_setCell] at this; omega))
  have hcell : ∀ j, (w1.setCell ⟨g, i * 4 + 3, none⟩ v').cell? ⟨q, j, none⟩ = w.cell? ⟨q, j, none⟩ := fun j => (hch2.cell (p := ⟨q, j, none⟩) (by simp only; omega) (fun e => hgq e.symm)).trans (hch.cell (p := ⟨q, j, none⟩) lq hqn)
  have hgl' := h.lt g hGg
  obtain ⟨-, -, -, f3⟩ := frow_at fs i f hf
  refine ⟨(hch.cell (p := ⟨q, 3, none⟩) lq hqn).trans h.c3, (hch.cell (p := ⟨g, i * 4 + 3, none⟩) hgl' (fun e => hne _ e rfl)).trans ((oF0.cellAt (i * 4 + 3) (by simp only; omega)).trans f3), (hch.frozen (p := ⟨g, i * 4 + 3, none⟩) hgl' (fun e => hne _ e rfl)).trans (oF0.frozenAt _), ⟨(hcell 0).trans h.c0, (hcell 1).trans h.c1, (hcell 2).trans h.c2, (hcell 3).trans ?_, (hcell 4).trans h.c4, fun j => ?_, Or.inl h.gq, ?_, fun b hb => by rw [World.size_setCell]; exact hlt1 b hb⟩, ?_⟩
  · exact h.c3
  · rw [World.frozen?_setCell]; exact (hch.frozen (p := ⟨q, j, none⟩) lq hqn).trans (h.fz j)
  · have e3 : [krowV vk ks, vrowV vv vs, frowV (.slice (some ⟨g, 0, none⟩) fs.length cf) (fs.set i ⟨f.k, f.lead, f.ws ++ [y], v'⟩), rrowV vr rs] ++ (fs.set i ⟨f.k, f.lead, f.ws ++ [y], v'⟩).map wrowV =
        [krowV vk ks, vrowV vv vs] ++ ⟨.slice (some ⟨g, 0, none⟩) fs.length cf, 146, 4, fs.length, (frow fs).set (i * 4 + 3) v'⟩ :: (rrowV vr rs :: ((fs.take i).map wrowV ++ (⟨v', 3, 1, f.ws.length + 1, f.ws.map (.int .i64) ++ [.int .i64 y]⟩ : RowV) :: (fs.drop (i + 1)).map wrowV)) := by
      rw [frow_set fs i f (f.ws ++ [y]) v' hf]
      conv => lhs; arg 2; rw [hset]
      simp [frowV]
    rw [e3]
    exact h3
  · exact (hch.mono (G := G) (fun b _ e => (hWr b e).1)).trans hch2 (fun b _ e => by rw [e]; exact hGg)

end

variable {w w' : World} {G : Nat → Prop} {q : Nat} {room : Int} {l : List (PK × Int)} {tl : List (PK × Int × List Int)} {rs : List (Int × Int × Int)}

set_option maxRecDepth 100000 in
set_option maxHeartbeats 4000000 in
theorem begin_wait15 (h : TL w G q room l tl rs) (i : Int) (k : PK) (lead : Int) (ws : List Int) (m : Nat) (hn : l.length ≤ 1000) (ht : tl.length ≤ 1000) (hw : ∀ x ∈ tl, x.2.2.length ≤ 1000) (hrs : rs.length ≤ 10000) (hk : has l k = false) (hm : tl[m]? = some (k, lead, ws)) (hf : ∀ j, j < m → ∀ y, tl[j]? = some y → y.1 ≠ k) :
    Calls Try.prog 48 #[.pointer (some ⟨q, 0, none⟩), .int .i64 i, KK k] w fun e w' => e = .returned (.tuple #[.int .i64 0, .int .i64 3]) ∧ TLs w G q room l ((fgT i tl).set m (k, lead, ws.filter (· ≠ i) ++ [i])) (fgR i rs) w' := by
  obtain ⟨fs, hfs, vk, vv, vf, vr, h0⟩ := h
  have hkk : ∀ i, (w.alloc (.cells #[.int .i64 k.1, .string k.2] 89)).cell? ⟨w.heap.size, i, none⟩ = #[Value.int .i64 k.1, .string k.2][i]? := fun i => World.cell?_alloc_new _ _ _ _
  have hk0 : (w.alloc (.cells #[.int .i64 k.1, .string k.2] 89)).cell? ⟨w.heap.size, 0, none⟩ = some (.int .i64 k.1) := by rw [hkk]; rfl
  have hk1 : (w.alloc (.cells #[.int .i64 k.1, .string k.2] 89)).cell? ⟨w.heap.size, 1, none⟩ = some (.string k.2) := by rw [hkk]; rfl
  have hb1 : Below w.heap.size w (w.alloc (.cells #[.int .i64 k.1, .string k.2] 89)) := (Below.refl _ _).alloc (Nat.le_refl _) _
  have h1 := h0.kept (Ch.of_none hb1 (fun _ => False)) (fun _ _ h => h)
  have F := Lib.hid (forget_a h1.lt ⟨G, vf, vr, fs, h1, hfs, fun b hb => Or.inl hb, Ch.refl _ _⟩ i ht hw hrs)
  have HLT := Lib.hid h0.lt
  have HK := Lib.hid hk
  have HF := Lib.hid hf
  have HM := Lib.hid hm
  have HW := Lib.hid hw
  have hsz : w.heap.size < (w.alloc (.cells #[.int .i64 k.1, .string k.2] 89)).heap.size := by simp
  clear hkk hk hf h0 h1 hfs hw hrs hm
  go_enter Try.func48, Try.ntmps48
  go_upto_region 1 with fail
  change Code.wp _ _ _ _ (w.alloc (.cells #[.int .i64 k.1, .string k.2] 89))
  revert hk0 hk1 hb1 F hsz
  generalize w.alloc (.cells #[.int .i64 k.1, .string k.2] 89) = w1
  intro hk0 hk1 hb1 F hsz
  go_wp2_with fail
  refine F.out.mono ?_
  rintro e w2 ⟨rfl, G2, vf2, vr2, fs2, h2, ht2, hG2, hc2⟩
  have hbox : ¬ G w.heap.size := fun e => by have := HLT.out _ e; omega
  have hk0 := (hc2.cell (p := ⟨w.heap.size, 0, none⟩) hsz hbox).trans hk0
  have hk1 := (hc2.cell (p := ⟨w.heap.size, 1, none⟩) hsz hbox).trans hk1
  have HC2 := Lib.hid hc2
  have HG2 := Lib.hid hG2
  have HT2 := Lib.hid ht2
  have hbox2 : ¬ G2 w.heap.size := fun e => (hG2 _ e).elim hbox (fun e => by omega)
  have hsz2 := Nat.lt_of_lt_of_le hsz hc2.size
  have F2 := Lib.hid (rl_find_miss ⟨vk, vv, vf2, vr2, h2⟩ k hn HK.out)
  have H2 := Lib.hid h2
  clear h2 ht2 hG2 hc2 hbox hsz
  go_wp2_with fail
  refine F2.out.mono ?_
  rintro e w3 ⟨rfl, hb3⟩
  have hk0 : w3.cell? ⟨w.heap.size, 0, none⟩ = _ := (hb3.cell (p := ⟨w.heap.size, 0, none⟩) hsz2).trans hk0
  have hk1 : w3.cell? ⟨w.heap.size, 1, none⟩ = _ := (hb3.cell (p := ⟨w.heap.size, 1, none⟩) hsz2).trans hk1
  have h3 := H2.out.kept (Ch.of_none hb3 (fun _ => False)) (fun _ _ h => h)
  have hsz3 := Nat.lt_of_lt_of_le hsz2 hb3.size
  have hfl : fs2.length = tl.length := by have := congrArg List.length HT2.out; simpa using this
  have told : ∀ (j : Nat) (y : FR), fs2[j]? = some y → ∃ z : PK × Int × List Int, tl[j]? = some z ∧ y.told = (z.1, z.2.1, z.2.2.filter (· ≠ i)) := fun j y hy => by
    have h5 : (fs2.map FR.told)[j]? = some y.told := by rw [List.getElem?_map, hy]; rfl
    rw [HT2.out, List.getElem?_map] at h5
    obtain ⟨z, hz, hze⟩ := Option.map_eq_some_iff.1 h5
    exact ⟨z, hz, hze.symm⟩
  have hml : m < tl.length := (List.getElem?_eq_some_iff.1 HM.out).1
  obtain ⟨f, hf⟩ : ∃ f, fs2[m]? = some f := ⟨_, List.getElem?_eq_getElem (by rw [hfl]; exact hml)⟩
  have hft : f.told = (k, lead, ws.filter (· ≠ i)) := by
    obtain ⟨z, hz, e⟩ := told m f hf
    rw [HM.out] at hz
    cases hz
    exact e
  simp only [FR.told, Prod.mk.injEq] at hft
  obtain ⟨hfk, hfl', hfw⟩ := hft
  have FL := Lib.hid (r15_flies h3 k m (by omega) (by omega) (fun j hj y hy e => by
    obtain ⟨z, hz, hze⟩ := told j y hy
    exact HF.out j hj z hz (by rw [← e]; exact (congrArg Prod.fst hze).symm)) (fun y hy => by rw [hf] at hy; cases hy; exact hfk))
  rw [place15_lt (by rw [hfl]; exact hml)] at FL
  have H3 := Lib.hid h3
  have HB3 := Lib.hid hb3
  have HFW := Lib.hid (And.intro hfk (And.intro hfl' hfw))
  have hM : f.ws.length ≤ 1000 := by rw [hfw]; exact Nat.le_trans (List.length_filter_le _ _) (HW.out _ (List.mem_of_getElem? HM.out))
  clear h3 hb3 told hfk hfl' hfw
  have hneg : decide ((m : Int) ≥ 0) = true := decide_eq_true (by omega)
  go_wp2_with fail
  refine FL.out.mono ?_
  rintro e w4 ⟨rfl, hb4⟩
  have h4 := H3.out.kept (Ch.of_none hb4 (fun _ => False)) (fun _ _ h => h)
  have HB4 := Lib.hid hb4
  obtain ⟨i0, hi, hz0, hz1, hz2⟩ := info_parts infoI
  obtain ⟨g, cf, aw, cw, rfl, hfv, -, cw4, fz4, -⟩ := h4.flyAt hf
  have oW : w4.ownsRow 0 3 1 (.slice aw f.ws.length cw) f.ws.length (f.ws.map (.int .i64)) := by
    have := (h4.rows.1 (wrowV f) (by simp only [List.mem_append]; exact Or.inr (List.mem_map_of_mem (List.mem_of_getElem? hf)))).1
    rw [← hfv]; exact this
  have c3 := h4.c3
  have lq := h4.lt q h4.gq
  have lg : g < w4.heap.size := cell15_lt cw4
  have hob : f.v.ownBlock = (Value.slice aw f.ws.length cw).ownBlock := by rw [hfv]
  obtain ⟨N, hN⟩ : ∃ N, fs2.length = N := ⟨_, rfl⟩
  rw [hN] at c3
  have i1 : (m : Int) < (N : Int) := by omega
  have hNn : N ≤ 1000 := by omega
  have HN := Lib.hid hN
  have H4 := Lib.hid h4
  have HF4 := Lib.hid hf
  have HOB := Lib.hid hob
  have HFV := Lib.hid hfv
  obtain ⟨M, hMe⟩ : ∃ M, f.ws.length = M := ⟨_, rfl⟩
  have HME := Lib.hid hMe
  rw [hMe] at oW cw4 hM
  clear h4 hb4 hk0 hk1 hfl ht hf hob hN hfv hMe
  go_upto_region 11 with fail
  go_cut [55] (fun _ wx => ∃ v', R15 wx (fresh15 G2 w4 wx) q room vk vv (.slice (some ⟨g, 0, none⟩) fs2.length cf) vr2 (l.map Prod.fst) (l.map Prod.snd) (fs2.set m ⟨f.k, f.lead, f.ws ++ [i], v'⟩) (fgR i rs) ∧ Ch G2 w4 wx)
  case first =>
    go_region_law (refine step_append_lies _ (by rfl) (.tmp 67) (.tmp 69) 38 (by rfl) 0 3 i0 (.int .i64 0) 1 8 Try.underlying38 hi hz0 hz1 hz2 rfl (by omega) (.slice aw M cw) M (f.ws.map (.int .i64)) (by rfl) (oW.alloc _) ⟨w4.heap.size, 0, none⟩ 1 1 [.int .i64 i] (by rfl) (by rfl) (KZ.cell_one15 _ _ _) (by simp [Value.oneCell']) (by omega) (by unfold maxLen; omega) (by omega) (Nat.zero_le _) (w4.heap.size + 1) (by simp) ?_; intro g5 cap w5 hown hgrow hat hlt; obtain ⟨c5, d5, f5, h5, hc5⟩ := H4.out.pushWait (g' := g5) (cap := cap) (y := i) HF4.out (by rw [HOB.out, HME.out]; exact grown_of_drew hgrow) (by rw [HME.out]; exact hown) (by rw [HOB.out, HME.out]; exact hat) hlt; rw [HN.out] at c5; rw [HFV.out, HME.out] at d5; rw [HME.out] at h5 hc5)
    all_goals
      go_wp2_with fail
      go_meet
      exact ⟨_, by rw [fresh15_set]; exact h5, hc5⟩
  case rest =>
    obtain ⟨v5, h5, hc5⟩ := hcut
    have H5 := Lib.hid h5
    have HC5 := Lib.hid hc5
    clear h5 hc5
    go_wp2
    go_ret2
    have S1 : St15 G w G w1 := St15.start.below hb1
    have S2 := S1.step HG2.out HC2.out
    have S4 := (S2.below HB3.out).below HB4.out
    have S5 := S4.step (fun b hb => hb) HC5.out
    have h7 := H5.out.more S5.1 (fun b hb => hb.elim (fun hb => Nat.lt_of_lt_of_le (HLT.out b hb) S5.2.size) (fun hb => hb.2))
    exact ⟨rfl, ⟨_, by rw [List.map_set, HT2.out, FR.told, HFW.out.1, HFW.out.2.1, HFW.out.2.2], _, _, _, _, h7⟩, S5.2⟩

end Go.Proofs.Ytnnaidladcdbdaa
