/- shard.Result (chapter 15). -/
import Derived.Test.YtnnaidladcdbdaaShRes
import Derived.Deep.RegionHeld3
namespace Go.Proofs.Ytnnaidladcdbdaa
open Go.RowKit Go.ChangeMaps
open KZ (SV sv ZA KK)

variable {w w' : World} {s : ShB} {room : Int} {d d' : List (PK × Option Int)} {rs rs' : List (Int × Option Int × Int)}

theorem rc_zone {w : World} {b : Nat} {v : SV} {e : Int} (h : w.rangeAt b 0 (rc v e)) : w.rangeAt b 0 (zc (sv v)) ∧ w.cell? ⟨b, 21, none⟩ = some (.int .i64 e) := by
  refine ⟨fun j x hx => h j x ?_, ?_⟩
  · unfold rc
    rw [List.getElem?_append_left (List.getElem?_eq_some_iff.1 hx).1]; exact hx
  · have := h 21 (.int .i64 e) (by unfold rc; rw [List.getElem?_append_right (by rw [zc_length]; omega)]; rw [zc_length]; rfl)
    simpa using this

/-- A result of three: the first lies in a cell. -/
theorem ret_cell_tmp2 {fn : Func} {p u u' : Tmp} {ty : TypeId} {a : Act} {w : World} {R : Ending → World → Prop} {b : Nat} {cs : List Value} {d : TypeDesc} {y y' : Value} (h : fn.results = #[.cell p ty, .tmp u, .tmp u'])
    (hd : a.defers = []) (hp : a.tmps.getD p undef = .pointer (some ⟨b, 0, none⟩)) (hu : a.tmps.getD u undef = y) (hu' : a.tmps.getD u' undef = y') (hc : w.rangeAt b 0 cs) (ht : Try.prog.underlying ty = some d) (hr : d.isRow = true) (hi : (Try.prog.info? ty).map (·.size) = some cs.length)
    (hR : R (.returned (.tuple #[.agg cs.toArray, y, y'])) w) : bodyPost Try.prog fn R Exit.ret a w := by
  refine bodyPost_ret (v := .tuple #[.agg cs.toArray, y, y']) ?_ hd hR
  have hp' : a.tmps[p]?.getD undef = .pointer (some ⟨b, 0, none⟩) := by simpa using hp
  have hu1 : a.tmps[u]?.getD undef = y := by simpa using hu
  have hu2 : a.tmps[u']?.getD undef = y' := by simpa using hu'
  simp [results, h, hp', hu1, hu2, asAddr, run_loadVar_mid w b 0 ty cs d hc ht hr hi]

theorem size_setCells (b : Nat) : ∀ (vs : List Value) (o : Nat) (x : World), (x.setCells b o vs).heap.size = x.heap.size
  | [], _, _ => rfl
  | a :: r, o, x => by rw [World.setCells, size_setCells b r]; simp

/-- What a variable of 22 cells and a store into it leave. -/
theorem laid22 (w : World) (A : Array Value) (hA : A.size = 22) (v : SV) (e : Int) (w2 : World) (h : w2 = (w.alloc (.cells A 140)).setCells w.heap.size 0 (rc v e)) :
    Ch (fun _ => False) w w2 ∧ w2.rangeAt w.heap.size 0 (rc v e) ∧ w2.heap.size = w.heap.size + 1 := by
  subst h
  refine ⟨Ch.setCells (F := fun _ => False) (fun h => by omega) _ _ ((Ch.refl _ w).alloc _), World.rangeAt_setCells_same _ _ _ _ ?_, by rw [size_setCells]; simp⟩
  have := there_new w A 140
  rwa [hA] at this

set_option maxRecDepth 100000 in
set_option maxHeartbeats 1000000 in
theorem result44 (h : ShAt w s room d rs) (i : Int) (hi : KI.ok i) :
    Calls Try.prog 44 #[.pointer (some ⟨s.p, 0, none⟩), .int .i64 i] w fun e w' => ∃ v, e = .returned (.tuple #[ZA v, .int .i64 (valOf rs i (none, 0)).2, .bool (has rs i)]) ∧
      Zn w' v (valOf rs i (none, 0)).1 ∧ Zfrom w.heap.size v ∧ ShAt w' { s with rr := del s.rr i } room d (del rs i) ∧ Ch s.all w w' := by
  have hb1 : Below w.heap.size w (w.alloc (.cells (za (.slice none 0 0)) 69)) := (Below.refl _ _).alloc (Nat.le_refl _) _
  have h1 := h.kept (Ch.of_none hb1 (fun _ => False)) (fun _ _ h => h)
  have ht1 := there_new w (za (.slice none 0 0)) 69
  have hs1 : (w.alloc (.cells (za (.slice none 0 0)) 69)).heap.size = w.heap.size + 1 := by simp
  have HB1 := Lib.hid hb1
  have HM := Lib.hid (h.results.lt KI)
  have HA := Lib.hid h.lt
  clear hb1 h
  go_enter Try.func44, Try.ntmps44
  go_upto_region 1 with fail
  change Code.wp _ _ _ _ (w.alloc (.cells (za (.slice none 0 0)) 69))
  revert HB1 h1 ht1 hs1
  generalize w.alloc (.cells (za (.slice none 0 0)) 69) = w1
  intro h1 ht1 hs1 HB1
  obtain ⟨y, hy, hyz, hye, hyl⟩ := h1.look i hi
  have hlook : (Instr.lookup 129 (.map (some s.mr)) (.int .i64 i) true).run Try.prog w1 = .ok (.tuple #[RA y, .bool (has rs i)]) w1 := hy 0
  have c2 := h1.c2
  have ht' : ∀ A : Array Value, A.size = 22 → (w1.alloc (.cells A 140)).there w1.heap.size 0 (rc y.1 y.2).toArray.size := fun A hA => by
    have := there_new w1 A 140
    rwa [hA] at this
  have H1 := Lib.hid h1
  have HS1 := Lib.hid hs1
  have HYE := Lib.hid hye
  have HYZ := Lib.hid hyz
  have HYL := Lib.hid hyl
  have HT1 := Lib.hid ht1
  clear h1 hy hs1 hye hyz hyl ht1
  go_upto_region 2 with (refine wpList_store_mid (by rfl) 140 (.tmp 7) (.tmp 16) (by rfl) w1.heap.size 0 (rc y.1 y.2).toArray (by rfl) (by rfl) (by exact ht' _ rfl) (size140 _ _) (rc_one _ _) ?_)
  generalize hw2 : (w1.alloc _).setCells _ _ _ = w2
  obtain ⟨hc2, hr2, hs2⟩ := laid22 w1 _ (by rfl) y.1 y.2 w2 hw2.symm
  clear hw2 ht' hlook c2
  have h2 := H1.out.kept hc2 (fun _ _ h => h)
  obtain ⟨o, hrun, h3, hc3⟩ := h2.forget i hi
  have c2 := h2.c2
  have lmr := H1.out.results.lt KI
  have hnr : w1.heap.size ≠ s.mr := by omega
  have hs3 : (setBlock w2 s.mr o).heap.size = w2.heap.size := by simp [ChangeMaps.setBlock]
  obtain ⟨hz2, he2⟩ := rc_zone hr2
  have hz3 := hc3.range (by omega) hnr hz2
  have he3 : (setBlock w2 s.mr o).cell? ⟨w1.heap.size, 21, none⟩ = some (.int .i64 y.2) := (hc3.cell (p := ⟨w1.heap.size, 21, none⟩) (by simp only; omega) hnr).trans he2
  have hzn3 : Zn (setBlock w2 s.mr o) y.1 (valOf rs i (none, 0)).1 := (HYZ.out.kept hc2 (fun _ _ h => h)).kept hc3 (fun a ha e => h2.zs (by rw [← e]; exact HYL.out a ha))
  have ht3 : (setBlock w2 s.mr o).there w.heap.size 0 21 := hc3.there (by have := HS1.out; omega) (by have := HS1.out; have := HB1.out.size; intro e; have := HM.out; omega) (hc2.there (by have := HS1.out; omega) (fun h => h) HT1.out)
  have H3 := Lib.hid h3
  have HC : Hid (Ch (fun b => b = s.mr) w (setBlock w2 s.mr o)) := Lib.hid ((Ch.of_none HB1.out (fun b => b = s.mr)).trans ((hc2.mono (fun _ _ h => h.elim)).trans hc3 (fun _ _ h => h)) (fun _ _ h => h))
  have HS3 := Lib.hid (hs3.trans hs2)
  have HZ := Lib.hid hzn3
  have HT := Lib.hid ht3
  clear h2 h3 lmr hs2 hs3 hz2 he2 hc3 hc2 hr2 hzn3 ht3
  go_upto_region 3 with fail
  clear hrun c2
  revert hz3 he3 H3 HC HS3 HZ HT
  generalize setBlock w2 s.mr o = w3
  intro hz he H3 HC HS3 HZ HT
  refine wp_region_held_drew (S := fun w' => w'.rangeAt w1.heap.size 0 (zc (sv y.1)) ∧ w'.cell? ⟨w1.heap.size, 21, none⟩ = some (.int .i64 y.2)) (by kernel_rfl) ⟨hz, he⟩ (fun hH => ?_)
  refine wpAnyH_take (i := 0) (v := .pointer (some ⟨w1.heap.size, 0, none⟩)) rfl (by kernel_rfl) (by kernel_rfl) (by kernel_rfl) (fun _ _ _ h => h) (Or.inl ⟨by rfl, fun w' hS => by go_simp⟩) hH ?_
  refine wpAnyH_take (i := 3) (v := .pointer (some ⟨w1.heap.size, 21, none⟩)) rfl (by kernel_rfl) (by kernel_rfl) (by kernel_rfl) (fun _ _ _ h => h) (Or.inl ⟨by rfl, fun w' hS => by go_simp⟩) hH ?_
  refine wpAnyH_take (i := 1) (v := ZA y.1) rfl (by kernel_rfl) (by kernel_rfl) (by kernel_rfl) (fun _ _ _ h => h) (yieldsIf_load_mid (by rfl) 69 (.tmp 23) (by rfl) w1.heap.size 0 (by rfl) (zc (sv y.1)) _ (fun w' hS => hS.1) Try.underlying69 rfl (size69 _)) hH ?_
  refine wpAnyH_take (i := 4) (v := .int .i64 y.2) rfl (by kernel_rfl) (by kernel_rfl) (by kernel_rfl) (fun _ _ _ h => h) (Or.inl ⟨by rfl, fun w' hS => by obtain ⟨s1, s2⟩ := hS; go_simp⟩) hH ?_
  refine wpAnyH_take (i := 5) (v := .bool (has rs i)) rfl (by kernel_rfl) (by kernel_rfl) (by kernel_rfl) (fun _ _ _ h => h) (Or.inl ⟨by rfl, fun w' hS => by go_simp⟩) hH ?_
  refine wpAnyH_ready (rs := [2]) (by kernel_rfl) (by simp) ?_
  refine AllReadyH.cons rfl (fun K hK => ?_) AllReadyH.nil
  go_simp
  refine (copied65 (w := w3.drew) HZ.out).mono ?_
  rintro e w5 ⟨v', rfl, hz5, hf5, hb5⟩
  have hc5 : Ch (fun _ => False) w3 w5 := (Ch.of_none hb5 (fun _ => False)).of_drew
  have hs1 : w1.heap.size = w.heap.size + 1 := HS1.out
  have hs3 : w3.heap.size = w1.heap.size + 1 := HS3.out
  have hz5' := hc5.range (by omega) (fun h => h) hz
  have he5' : w5.cell? ⟨w1.heap.size, 21, none⟩ = some (.int .i64 y.2) := (hc5.cell (p := ⟨w1.heap.size, 21, none⟩) (by simp only; omega) (fun h => h)).trans he
  have ht5 : w5.there w.heap.size 0 21 := hc5.there (by omega) (fun h => h) HT.out
  have hf5' : Zfrom w3.heap.size v' := hf5
  have HCE := Lib.hid hc5
  have HZ5 := Lib.hid hz5
  have HF5 := Lib.hid hf5'
  have HSS := Lib.hid (And.intro hs1 hs3)
  clear hb5 hs1 hs3 hz5 hf5 hf5' hc5
  refine hK.out _ _ ⟨hz5', he5'⟩ (fun hH => ?_)
  clear hK K
  refine wpAnyH_ready (rs := [6]) (by kernel_rfl) (by simp) ?_
  refine AllReadyH.cons rfl (fun K hK => ?_) AllReadyH.nil
  refine wp_store_mid 69 (.tmp 4) (.tmp 25) (by rfl) w.heap.size 0 (za (sv v')) (by rfl) (by rfl) (by exact ht5) (size69' _) (za_one rfl) ?_
  have hc6 : Ch (fun b => b = w.heap.size) w5 (w5.setCells w.heap.size 0 (za (sv v')).toList) := Ch.setCells (F := fun b => b = w.heap.size) (fun _ => rfl) _ _ (Ch.refl _ _)
  have hr6 := World.rangeAt_setCells_same w5 w.heap.size 0 (za (sv v')).toList ht5
  revert hc6 hr6
  generalize w5.setCells w.heap.size 0 (za (sv v')).toList = w6
  intro hc6 hr6
  obtain ⟨hs1, hs3⟩ := HSS.out
  have hs5 := HCE.out.size
  have hz6 := hc6.range (by omega) (by omega) hz5'
  have he6 : w6.cell? ⟨w1.heap.size, 21, none⟩ = some (.int .i64 y.2) := (hc6.cell (p := ⟨w1.heap.size, 21, none⟩) (by simp only; omega) (by simp only; omega)).trans he5'
  have hfin : Zn w6 v' (valOf rs i (none, 0)).1 ∧ Zfrom w.heap.size v' ∧ ShAt w6 { s with rr := del s.rr i } room d (del rs i) ∧ Ch s.all w w6 := by
    have hlt : ∀ b, s.all b → b < w.heap.size := HA.out
    refine ⟨HZ5.out.kept hc6 (fun a ha => by have := HF5.out a ha; omega), fun a ha => by have := HF5.out a ha; omega, (H3.out.kept HCE.out (fun _ _ h => h)).kept hc6 (fun b hb e => by have := hlt b hb; omega), ?_⟩
    exact (((HC.out.mono (fun b _ h => Or.inr (Or.inr (Or.inl h)))).trans HCE.out (fun _ _ h => h.elim)).trans hc6 (fun b hb e => by omega))
  have hye : y.2 = (valOf rs i (none, 0)).2 := HYE.out
  clear hc6 hs1 hs3 hs5
  refine hK.out _ _ ⟨hz6, he6⟩ (fun hH => ?_)
  clear hK K
  refine wpAnyH_ready (rs := [7]) (by kernel_rfl) (by simp) ?_
  refine AllReadyH.cons rfl (fun K hK => ?_) AllReadyH.nil
  go_simp
  refine hK.out _ _ hH (fun hH => ?_)
  clear hK K
  refine wpAnyH_ready (rs := [8]) (by kernel_rfl) (by simp) ?_
  refine AllReadyH.cons rfl (fun K hK => ?_) AllReadyH.nil
  go_simp
  refine hK.out _ _ hH (fun hH => ?_)
  clear hK K
  refine wpAnyH_done (by kernel_rfl) ?_ _
  go_wp2_with fail
  exact ret_cell_tmp2 Try.results44 rfl rfl rfl rfl hr6 Try.underlying69 rfl (size69 _) (by rw [← hye]; exact ⟨v'.1, v'.2.1, v'.2.2, rfl, hfin⟩)

end Go.Proofs.Ytnnaidladcdbdaa
