/- copied (chapter 15): a zone with lists of its own. -/
import Derived.Test.YtnnaidladcdbdaaCopied
import Derived.Deep.RegionHeld3
namespace Go.Proofs.Ytnnaidladcdbdaa
open Go.RowKit Go.ChangeMaps
open KZ (SV sv ZA)

/-- What copied lays: the zone, and the answer's cells. -/
def CW (w : World) (v : SV) : World := (w.alloc (.cells (za (sv v)) 69)).alloc (.cells (za (.slice none 0 0)) 69)

/-- Behind copied's statement: its zone has kinds of its own. -/
def CopyPost (w wc : World) (o : Option Int) : Prop :=
  ∃ v', wc.rangeAt w.heap.size 0 (zc (sv v')) ∧ Zn wc v' o ∧ Zfrom w.heap.size v' ∧ Below w.heap.size w wc ∧ wc.there (w.heap.size + 1) 0 21 ∧ (∀ a, v'.1 = some a → w.heap.size + 2 ≤ a.block) ∧ w.heap.size + 2 ≤ wc.heap.size

theorem copy_post {w w1 w5 : World} {v v' : SV} {o : Option Int} (hb : Below w.heap.size w w1) (hs : w1.heap.size = w.heap.size + 2) (hr : w1.rangeAt w.heap.size 0 (zc (sv v))) (ht : w1.there (w.heap.size + 1) 0 21)
    (hz : Zn w5 v' o) (hf : Zfrom w1.heap.size v') (hb5 : Below w1.heap.size w1 w5) :
    CopyPost w (((w5.setCell ⟨w.heap.size, 0, none⟩ (sv v')).setCell ⟨w.heap.size, 1, none⟩ (.slice none 0 0)).setCell ⟨w.heap.size, 2, none⟩ (.slice none 0 0)) o := by
  have hc5 : Ch (fun _ => False) w1 w5 := Ch.of_none hb5 _
  have hr5 := hc5.range (by omega) (fun h => h) hr
  have ht5 := hc5.there (by omega) (fun h => h) ht
  have hsc : Ch (fun b => b = w.heap.size) w5 (((w5.setCell ⟨w.heap.size, 0, none⟩ (sv v')).setCell ⟨w.heap.size, 1, none⟩ (.slice none 0 0)).setCell ⟨w.heap.size, 2, none⟩ (.slice none 0 0)) :=
    (((Ch.refl (fun b => b = w.heap.size) w5).setCell (p := ⟨w.heap.size, 0, none⟩) (fun _ => rfl) _).setCell (p := ⟨w.heap.size, 1, none⟩) (fun _ => rfl) _).setCell (p := ⟨w.heap.size, 2, none⟩) (fun _ => rfl) _
  have hs5 := hb5.size
  refine ⟨v', zone_set hr5, hz.kept hsc (fun a ha e => by have := hf a ha; omega), fun a ha => by have := hf a ha; omega, ?_, hsc.there (by omega) (by omega) ht5, fun a ha => by have := hf a ha; omega, by have := hsc.size; omega⟩
  exact ((((Ch.of_below (hb.trans (hb5.mono (by omega)))).setCell (p := ⟨w.heap.size, 0, none⟩) (fun _ => Nat.le_refl _) _).setCell (p := ⟨w.heap.size, 1, none⟩) (fun _ => Nat.le_refl _) _).setCell (p := ⟨w.heap.size, 2, none⟩) (fun _ => Nat.le_refl _) _).below (Nat.le_refl _) (fun b hb h => by omega)

set_option maxRecDepth 100000 in
set_option maxHeartbeats 4000000 in
theorem copied65 {w : World} {v : SV} {o : Option Int} (h : Zn w v o) :
    Calls Try.prog 65 #[ZA v] w fun e w' => ∃ v', e = .returned (ZA v') ∧ Zn w' v' o ∧ Zfrom w.heap.size v' ∧ Below w.heap.size w w' := by
  have hb : Below w.heap.size w (CW w v) := ((Below.refl _ _).alloc (Nat.le_refl _) _).alloc (by simp) _
  have hs : (CW w v).heap.size = w.heap.size + 2 := by simp [CW]
  have hr : (CW w v).rangeAt w.heap.size 0 (zc (sv v)) := World.rangeAt_alloc (range_alloc w (za (sv v)) 69) _
  have htt : (CW w v).there w.heap.size 0 21 := World.there_alloc (there_new w (za (sv v)) 69) _
  have ht : (CW w v).there (w.heap.size + 1) 0 21 := by
    have := there_new (w.alloc (.cells (za (sv v)) 69)) (za (.slice none 0 0)) 69
    simpa [CW, za_size] using this
  have hz := h.below hb
  clear h
  go_enter Try.func65, Try.ntmps65
  go_upto_region 1 with fail
  change Code.wp _ _ _ _ (CW w v)
  revert hb hs hr htt ht hz
  generalize CW w v = w1
  intro hb hs hr htt ht hz
  have c0 : w1.cell? ⟨w.heap.size, 0, none⟩ = some (sv v) := hr 0 _ rfl
  have c1 : w1.cell? ⟨w.heap.size, 1, none⟩ = some (.slice none 0 0) := hr 1 _ rfl
  have c2 : w1.cell? ⟨w.heap.size, 2, none⟩ = some (.slice none 0 0) := hr 2 _ rfl
  have HR := Lib.hid hr
  have HTT := Lib.hid htt
  have HT := Lib.hid ht
  have HZ := Lib.hid hz
  have hs1 : w.heap.size < w1.heap.size := by omega
  have HS := Lib.hid hs
  have HB := Lib.hid hb
  clear hr htt ht hz hs hb
  go_cut [5] (fun _ wc => CopyPost w wc o)
  case first =>
    refine wp_region_held_drew (S := fun w' => w'.cell? ⟨w.heap.size, 1, none⟩ = some (.slice none 0 0) ∧ w'.cell? ⟨w.heap.size, 2, none⟩ = some (.slice none 0 0)) (by kernel_rfl) ⟨c1, c2⟩ (fun hH => ?_)
    refine wpAnyH_take (i := 0) (v := .pointer (some ⟨w.heap.size, 0, none⟩)) rfl (by kernel_rfl) (by kernel_rfl) (by kernel_rfl) (fun _ _ _ h => h) (Or.inl ⟨by rfl, fun w' hS => by go_simp⟩) hH ?_
    refine wpAnyH_take (i := 3) (v := .pointer (some ⟨w.heap.size, 1, none⟩)) rfl (by kernel_rfl) (by kernel_rfl) (by kernel_rfl) (fun _ _ _ h => h) (Or.inl ⟨by rfl, fun w' hS => by go_simp⟩) hH ?_
    refine wpAnyH_take (i := 6) (v := .pointer (some ⟨w.heap.size, 2, none⟩)) rfl (by kernel_rfl) (by kernel_rfl) (by kernel_rfl) (fun _ _ _ h => h) (Or.inl ⟨by rfl, fun w' hS => by go_simp⟩) hH ?_
    refine wpAnyH_take (i := 4) (v := .slice none 0 0) rfl (by kernel_rfl) (by kernel_rfl) (by kernel_rfl) (fun _ _ _ h => h) (Or.inl ⟨by rfl, fun w' hS => by obtain ⟨s1, s2⟩ := hS; go_simp⟩) hH ?_
    refine wpAnyH_take (i := 7) (v := .slice none 0 0) rfl (by kernel_rfl) (by kernel_rfl) (by kernel_rfl) (fun _ _ _ h => h) (Or.inl ⟨by rfl, fun w' hS => by obtain ⟨s1, s2⟩ := hS; go_simp⟩) hH ?_
    refine wpAnyH_ready (rs := [1]) (by kernel_rfl) (by simp) ?_
    refine AllReadyH.cons rfl (fun K hK => ?_) AllReadyH.nil
    go_simp
    refine hK.out _ _ hH (fun hH => ?_)
    clear hK K
    refine wpAnyH_ready (rs := [2]) (by kernel_rfl) (by simp) ?_
    refine AllReadyH.cons rfl (fun K hK => ?_) AllReadyH.nil
    go_simp
    refine (clone77 (w := w1.drew) HZ.out).mono ?_
    rintro e w5 ⟨v', rfl, hz5, hf5, hb5⟩
    have d0 : w5.cell? ⟨w.heap.size, 0, none⟩ = some (sv v) := (hb5.cell (p := ⟨w.heap.size, 0, none⟩) hs1).trans c0
    have d1 : w5.cell? ⟨w.heap.size, 1, none⟩ = some (.slice none 0 0) := (hb5.cell (p := ⟨w.heap.size, 1, none⟩) hs1).trans c1
    have d2 : w5.cell? ⟨w.heap.size, 2, none⟩ = some (.slice none 0 0) := (hb5.cell (p := ⟨w.heap.size, 2, none⟩) hs1).trans c2
    have hfr : ∀ j, j < 21 → w5.frozen? ⟨w.heap.size, j, none⟩ = false := fun j hj => ((Ch.of_none hb5 (fun _ => False)).frozen (p := ⟨w.heap.size, j, none⟩) hs1 (fun h => h)).trans (by have := (HTT.out j hj).2; rwa [Nat.zero_add] at this)
    have f0 := hfr 0 (by omega)
    have f1 := hfr 1 (by omega)
    have f2 := hfr 2 (by omega)
    clear hfr
    refine hK.out _ _ ⟨d1, d2⟩ (fun hH => ?_)
    clear hK K
    refine wpAnyH_take (i := 9) (v := .pointer (some ⟨w.heap.size, 0, none⟩)) rfl (by kernel_rfl) (by kernel_rfl) (by kernel_rfl) (fun _ _ _ h => h) (Or.inl ⟨by rfl, fun w' hS => by go_simp⟩) hH ?_
    refine wpAnyH_ready (rs := [5]) (by kernel_rfl) (by simp) ?_
    refine AllReadyH.cons rfl (fun K hK => ?_) AllReadyH.nil
    go_simp
    refine (clone78 _).mono ?_
    rintro e w6 ⟨rfl, rfl⟩
    refine hK.out _ _ hH (fun hH => ?_)
    clear hK K
    refine wpAnyH_ready (rs := [8]) (by kernel_rfl) (by simp) ?_
    refine AllReadyH.cons rfl (fun K hK => ?_) AllReadyH.nil
    go_simp
    refine (clone79 _).mono ?_
    rintro e w6 ⟨rfl, rfl⟩
    refine hK.out _ _ hH (fun hH => ?_)
    clear hK K
    refine wpAnyH_ready (rs := [10]) (by kernel_rfl) (by simp) ?_
    refine AllReadyH.cons rfl (fun K hK => ?_) AllReadyH.nil
    go_simp
    refine hK.out _ _ ⟨by rw [World.cell?_setCell_other _ _ _ _ (by simp)]; exact d1, by rw [World.cell?_setCell_other _ _ _ _ (by simp)]; exact d2⟩ (fun hH => ?_)
    clear hK K
    have e1 : (w5.setCell ⟨w.heap.size, 0, none⟩ (sv v')).cell? ⟨w.heap.size, 1, none⟩ = some (.slice none 0 0) := by rw [World.cell?_setCell_other _ _ _ _ (by simp)]; exact d1
    have e2 : (w5.setCell ⟨w.heap.size, 0, none⟩ (sv v')).cell? ⟨w.heap.size, 2, none⟩ = some (.slice none 0 0) := by rw [World.cell?_setCell_other _ _ _ _ (by simp)]; exact d2
    refine wpAnyH_take (i := 11) (v := .pointer (some ⟨w.heap.size, 1, none⟩)) rfl (by kernel_rfl) (by kernel_rfl) (by kernel_rfl) (fun _ _ _ h => h) (Or.inl ⟨by rfl, fun w' hS => by go_simp⟩) hH ?_
    refine wpAnyH_ready (rs := [12]) (by kernel_rfl) (by simp) ?_
    refine AllReadyH.cons rfl (fun K hK => ?_) AllReadyH.nil
    go_simp
    have e3 : ((w5.setCell ⟨w.heap.size, 0, none⟩ (sv v')).setCell ⟨w.heap.size, 1, none⟩ (.slice none 0 0)).cell? ⟨w.heap.size, 1, none⟩ = some (.slice none 0 0) := World.cell?_setCell_same _ _ _ e1
    have e4 : ((w5.setCell ⟨w.heap.size, 0, none⟩ (sv v')).setCell ⟨w.heap.size, 1, none⟩ (.slice none 0 0)).cell? ⟨w.heap.size, 2, none⟩ = some (.slice none 0 0) := by rw [World.cell?_setCell_other _ _ _ _ (by simp)]; exact e2
    refine hK.out _ _ ⟨e3, e4⟩ (fun hH => ?_)
    clear hK K
    refine wpAnyH_take (i := 13) (v := .pointer (some ⟨w.heap.size, 2, none⟩)) rfl (by kernel_rfl) (by kernel_rfl) (by kernel_rfl) (fun _ _ _ h => h) (Or.inl ⟨by rfl, fun w' hS => by go_simp⟩) hH ?_
    refine wpAnyH_ready (rs := [14]) (by kernel_rfl) (by simp) ?_
    refine AllReadyH.cons rfl (fun K hK => ?_) AllReadyH.nil
    go_simp
    refine hK.out _ _ ⟨by rw [World.cell?_setCell_other _ _ _ _ (by simp)]; exact e3, World.cell?_setCell_same _ _ _ e4⟩ (fun hH => ?_)
    clear hK K
    refine wpAnyH_done (by kernel_rfl) ?_ _
    go_wp2_with fail
    go_meet
    exact copy_post HB.out HS.out HR.out HT.out hz5 hf5 (((Ch.of_none hb5 (fun _ => False)).of_drew).below (Nat.le_refl _) (fun b _ h => h))
  case rest =>
    obtain ⟨v', hr5, hz5, hf5, hb5, ht5, hf6, hs5⟩ := hcut
    have hss := World.rangeAt_setCells_same wc (w.heap.size + 1) 0 (zc (sv v')) ht5
    have hz6 := hz5.kept (Ch.setCells (F := fun b => b = w.heap.size + 1) (b := w.heap.size + 1) (fun _ => rfl) (zc (sv v')) 0 (Ch.refl _ _)) (fun a ha e => by have := hf6 a ha; omega)
    have hb6 : Below w.heap.size w (wc.setCells (w.heap.size + 1) 0 (zc (sv v'))) := (Ch.setCells (F := fun b => w.heap.size ≤ b) (fun _ => by omega) _ _ (Ch.of_below hb5)).below (Nat.le_refl _) (fun b hb h => by omega)
    clear hz5 hb5 c0 c1 c2
    go_wp2_with (first | (refine wpList_load_mid (by rfl) 69 (.tmp 1) (by rfl) w.heap.size 0 (by rfl) (zc (sv v')) _ hr5 Try.underlying69 rfl (size69 _) ?_) | (refine wpList_store_mid (by rfl) 69 (.tmp 2) (.tmp 15) (by rfl) (w.heap.size + 1) 0 (za (sv v')) (by rfl) (by rfl) ht5 (size69' _) (za_one rfl) ?_))
    exact ret_cell Try.results65 rfl rfl hss Try.underlying69 rfl (size69 _) ⟨v', rfl, hz6, hf5, hb6⟩

end Go.Proofs.Ytnnaidladcdbdaa
