/- copied, zone, number (chapter 15): what they make of a zone that tells a number. -/
import Derived.Test.YtnnaidladcdbdaaZones
namespace Go.Proofs.Ytnnaidladcdbdaa
open Go.RowKit Go.ChangeMaps
open KZ (SV sv ZA)

set_option maxRecDepth 100000 in
set_option maxHeartbeats 1000000 in
theorem number38 {w : World} {v : SV} {o : Option Int} (h : Zn w v o) :
    Calls Try.prog 38 #[ZA v] w fun e w' => e = .returned (.int .i64 (o.getD 0)) ∧ Below w.heap.size w w' := by
  have hr := range_alloc w (za (sv v)) 69
  have c0 : (w.alloc (.cells (za (sv v)) 69)).cell? ⟨w.heap.size, 0, none⟩ = some (sv v) := hr 0 _ rfl
  have hb : Below w.heap.size w (w.alloc (.cells (za (sv v)) 69)) := (Below.refl _ _).alloc (Nat.le_refl _) _
  have h1 := h.below hb
  clear hr h
  go_enter Try.func38, Try.ntmps38
  go_upto_region 1 with fail
  change Code.wp _ _ _ _ (w.alloc (.cells (za (sv v)) 69))
  revert c0 hb h1
  generalize w.alloc (.cells (za (sv v)) 69) = w1
  intro c0 hb h1
  cases o with
  | none =>
    cases h1
    have c0' : w1.cell? ⟨w.heap.size, 0, none⟩ = some (.slice none 0 0) := c0
    clear c0
    go_wp2
    go_ret
    exact ⟨rfl, hb⟩
  | some n =>
    obtain ⟨b, cap, rfl, hr, _⟩ := h1
    have cb : w1.cell? ⟨b, 0, none⟩ = some (.int .i64 n) := hr 0 _ rfl
    have c0' : w1.cell? ⟨w.heap.size, 0, none⟩ = some (.slice (some ⟨b, 0, none⟩) 1 cap) := c0
    clear hr c0
    go_wp2
    go_ret
    exact ⟨rfl, hb⟩

/-- What zone lays. -/
def NW (w : World) (n : Int) : World := (w.alloc (.cells (za (.slice none 0 0)) 69)).alloc (.cells #[.int .i64 n, .bool false, .string ⟨#[]⟩] 63)

set_option maxRecDepth 100000 in
set_option maxHeartbeats 1000000 in
theorem zone43 (w : World) (n : Int) :
    Calls Try.prog 43 #[.int .i64 n] w fun e w' => ∃ v, e = .returned (ZA v) ∧ Zn w' v (some n) ∧ Zfrom w.heap.size v ∧ Below w.heap.size w w' := by
  have ht : (NW w n).there w.heap.size 0 (za (.slice none 0 0)).size := World.there_alloc (there_new w (za (.slice none 0 0)) 69) _
  have hk : (NW w n).rangeAt (w.heap.size + 1) 0 (kind n) := by
    have := range_alloc (w.alloc (.cells (za (.slice none 0 0)) 69)) #[.int .i64 n, .bool false, .string ⟨#[]⟩] 63
    simpa [NW] using this
  have hkt : (NW w n).there (w.heap.size + 1) 0 3 := by
    have := there_new (w.alloc (.cells (za (.slice none 0 0)) 69)) #[.int .i64 n, .bool false, .string ⟨#[]⟩] 63
    simpa [NW] using this
  have hb : Below w.heap.size w (NW w n) := ((Below.refl _ _).alloc (Nat.le_refl _) _).alloc (by simp) _
  go_enter Try.func43, Try.ntmps43
  go_upto_region 1 with fail
  change Code.wp _ _ _ _ (w.alloc (.cells (za (.slice none 0 0)) 69))
  have hss := World.rangeAt_setCells_same (NW w n) w.heap.size 0 (zc (sv (some ⟨w.heap.size + 1, 0, none⟩, 1, 1))) ht
  have hsc : Ch (fun b => b = w.heap.size) (NW w n) ((NW w n).setCells w.heap.size 0 (zc (sv (some ⟨w.heap.size + 1, 0, none⟩, 1, 1)))) := Ch.setCells (F := fun b => b = w.heap.size) (fun _ => rfl) _ _ (Ch.refl _ _)
  have hb5 : Below w.heap.size w ((NW w n).setCells w.heap.size 0 (zc (sv (some ⟨w.heap.size + 1, 0, none⟩, 1, 1)))) := (Ch.setCells (F := fun b => w.heap.size ≤ b) (fun _ => Nat.le_refl _) _ _ (Ch.of_below hb)).below (Nat.le_refl _) (fun b hb h => by omega)
  have hs : (NW w n).heap.size = w.heap.size + 2 := by simp [NW]
  have hk5 := hsc.range (by omega) (by omega) hk
  have hkt5 := hsc.there (by omega) (by omega) hkt
  clear hsc hb hk hkt hs
  go_wp2_with (refine wpList_store_mid (by rfl) 69 (.tmp 2) (.tmp 6) (by rfl) w.heap.size 0 (za (sv (some ⟨w.heap.size + 1, 0, none⟩, 1, 1))) (by rfl) (by rfl) ht (size69' _) (za_one rfl) ?_)
  exact ret_cell Try.results43 rfl rfl hss Try.underlying69 rfl (size69 _) ⟨(some ⟨w.heap.size + 1, 0, none⟩, 1, 1), rfl, ⟨_, _, rfl, hk5, hkt5⟩, (fun a ha => by cases ha; exact Nat.le_succ _), hb5⟩

/-- A zone's cells, the kinds set anew. -/
theorem zone_set {w : World} {B : Nat} {x y : Value} (hr : w.rangeAt B 0 (zc x)) :
    (((w.setCell ⟨B, 0, none⟩ y).setCell ⟨B, 1, none⟩ (.slice none 0 0)).setCell ⟨B, 2, none⟩ (.slice none 0 0)).rangeAt B 0 (zc y) := by
  have c : ∀ j, w.cell? ⟨B, j, none⟩ = (zc x)[j]? ∨ 21 ≤ j := fun j => by
    by_cases hj : j < 21
    · left
      have := hr j _ (List.getElem?_eq_getElem (by rw [zc_length]; exact hj))
      rw [Nat.zero_add] at this
      rw [this, List.getElem?_eq_getElem (by rw [zc_length]; exact hj)]
    · right; omega
  have ne : ∀ i j, i ≠ j → (⟨B, i, none⟩ : Addr) ≠ ⟨B, j, none⟩ := fun i j h e => h (by injection e)
  intro j v hv
  have hj : j < 21 := (List.getElem?_eq_some_iff.1 hv).1
  rw [Nat.zero_add]
  have c0 : w.cell? ⟨B, 0, none⟩ = some x := by rcases c 0 with h | h; exact h; omega
  have c1 : w.cell? ⟨B, 1, none⟩ = some (.slice none 0 0) := by rcases c 1 with h | h; exact h; omega
  have c2 : w.cell? ⟨B, 2, none⟩ = some (.slice none 0 0) := by rcases c 2 with h | h; exact h; omega
  by_cases h2 : j = 2
  · subst h2
    rw [World.cell?_setCell_same _ _ _ (u := .slice none 0 0) (by rw [World.cell?_setCell_other _ _ _ _ (ne _ _ (by omega)), World.cell?_setCell_other _ _ _ _ (ne _ _ (by omega))]; exact c2)]
    exact hv
  rw [World.cell?_setCell_other _ _ _ _ (ne _ _ (by omega))]
  by_cases h1 : j = 1
  · subst h1
    rw [World.cell?_setCell_same _ _ _ (u := .slice none 0 0) (by rw [World.cell?_setCell_other _ _ _ _ (ne _ _ (by omega))]; exact c1)]
    exact hv
  rw [World.cell?_setCell_other _ _ _ _ (ne _ _ (by omega))]
  by_cases h0 : j = 0
  · subst h0
    rw [World.cell?_setCell_same _ _ _ c0]
    exact hv
  rw [World.cell?_setCell_other _ _ _ _ (ne _ _ (by omega))]
  rcases c j with h | h
  · rw [h, ← hv]
    match j, h0, h1, h2 with
    | j + 3, _, _, _ => rfl
  · omega

end Go.Proofs.Ytnnaidladcdbdaa
