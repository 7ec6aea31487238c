/- Zones that tell a number (chapter 15): what lies in memory; slices.Clone, copied, zone, number. -/
import Derived.Test.YtnnaidladcdbdaaKZ3
import Derived.Test.YtnnaidladcdbdaaApp
import Derived.Lib.SliceRun
namespace Go.Proofs.Ytnnaidladcdbdaa
open Go.RowKit Go.ChangeMaps
open KZ (SV sv ZA)

abbrev kind (n : Int) : List Value := [.int .i64 n, .bool false, .string ⟨#[]⟩]

/-- A zone's kinds: none, or one, of which the offset is told. -/
def Zn (w : World) (v : SV) : Option Int → Prop
  | none => v = (none, 0, 0)
  | some n => ∃ b cap, v = (some ⟨b, 0, none⟩, 1, cap) ∧ w.rangeAt b 0 (kind n) ∧ w.there b 0 3

/-- Whatever block it has lies from B on. -/
abbrev Zfrom (B : Nat) (v : SV) : Prop := ∀ a, v.1 = some a → B ≤ a.block

theorem Zn.kept {F : Nat → Prop} {w w' : World} {v : SV} {o : Option Int} (h : Zn w v o) (hc : Ch F w w') (hF : ∀ a, v.1 = some a → ¬ F a.block) : Zn w' v o := by
  cases o with
  | none => exact h
  | some n =>
    obtain ⟨b, cap, rfl, hr, ht⟩ := h
    have hb : b < w.heap.size := World.block_lt_of_cell? (a := ⟨b, 0 + 0, none⟩) _ (hr 0 _ rfl)
    exact ⟨b, cap, rfl, hc.range hb (hF _ rfl) hr, hc.there hb (hF _ rfl) ht⟩
theorem Zn.lt {w : World} {v : SV} {o : Option Int} (h : Zn w v o) : ∀ a, v.1 = some a → a.block < w.heap.size := by
  cases o with
  | none => intro a ha; rw [h] at ha; cases ha
  | some n =>
    obtain ⟨b, cap, rfl, hr, ht⟩ := h
    intro a ha
    cases ha
    exact World.block_lt_of_cell? (a := ⟨b, 0 + 0, none⟩) _ (hr 0 _ rfl)
theorem Zn.below {w w' : World} {v : SV} {o : Option Int} (h : Zn w v o) (hb : Below w.heap.size w w') : Zn w' v o :=
  h.kept (Ch.of_below hb) (fun a ha hge => by have := h.lt a ha; omega)

theorem range_own {w : World} {base e size g n cap : Nat} {xs : List Value} (h : w.ownsRow base e size (.slice (some ⟨g, 0, none⟩) n cap) n xs) : w.rangeAt g 0 xs := fun j v hv => by
  have hj : j < xs.length := (List.getElem?_eq_some_iff.1 hv).1
  rw [Nat.zero_add, h.cellAt j (by rw [← h.1]; exact hj)]; exact hv

theorem there_own {w : World} {base e size g n cap : Nat} {xs : List Value} (h : w.ownsRow base e size (.slice (some ⟨g, 0, none⟩) n cap) n xs) : w.there g 0 xs.length := fun j hj => by
  refine ⟨by rw [range_own h j _ (List.getElem?_eq_getElem hj)]; rfl, ?_⟩
  rcases h.2 with ⟨h, _⟩ | ⟨g', cap', cur, h', _, hg, _⟩
  · cases h
  · injection h' with h' _ _; injection h' with h'; injection h' with h'; subst h'
    simp [World.frozen?, hg]

set_option maxRecDepth 100000 in
set_option maxHeartbeats 400000 in
theorem clone78 (w : World) : Calls Try.prog 78 #[.slice none 0 0] w fun e w' => e = .returned (.slice none 0 0) ∧ w = w' := by
  have hq := Lib.run_eql_slice_nil (P := Try.prog) w 60 _ none 0 0 0 0 Try.underlying60
  simp only [Option.isNone] at hq
  go_enter Try.func78, Try.ntmps78
  go_wp2
  go_ret
  exact ⟨rfl, rfl⟩

set_option maxRecDepth 100000 in
set_option maxHeartbeats 400000 in
theorem clone79 (w : World) : Calls Try.prog 79 #[.slice none 0 0] w fun e w' => e = .returned (.slice none 0 0) ∧ w = w' := by
  have hq := Lib.run_eql_slice_nil (P := Try.prog) w 61 _ none 0 0 0 0 Try.underlying61
  simp only [Option.isNone] at hq
  go_enter Try.func79, Try.ntmps79
  go_wp2
  go_ret
  exact ⟨rfl, rfl⟩

set_option maxRecDepth 100000 in
set_option maxHeartbeats 400000 in
theorem clone77_nil (w : World) : Calls Try.prog 77 #[.slice none 0 0] w fun e w' => e = .returned (.slice none 0 0) ∧ w = w' := by
  have hq := Lib.run_eql_slice_nil (P := Try.prog) w 59 _ none 0 0 0 0 Try.underlying59
  simp only [Option.isNone] at hq
  go_enter Try.func77, Try.ntmps77
  go_wp2
  go_ret
  exact ⟨rfl, rfl⟩

set_option maxRecDepth 100000 in
set_option maxHeartbeats 1000000 in
theorem clone77_one (w : World) (b cap : Nat) (n : Int) (hr : w.rangeAt b 0 (kind n)) :
    Calls Try.prog 77 #[.slice (some ⟨b, 0, none⟩) 1 cap] w fun e w' => ∃ g cap', e = .returned (.slice (some ⟨g, 0, none⟩) 1 cap') ∧ w.heap.size ≤ g ∧ w'.rangeAt g 0 (kind n) ∧ w'.there g 0 3 ∧ Below w.heap.size w w' := by
  obtain ⟨i0, hi, hz0, hz1, hz2⟩ := info_parts info63
  have HR := Lib.hid hr
  have hq := Lib.run_eql_slice_nil (P := Try.prog) w 59 _ (some ⟨b, 0, none⟩) 1 cap 0 0 Try.underlying59
  simp only [Option.isNone] at hq
  clear hr
  go_enter Try.func77, Try.ntmps77
  go_wp2_with (at_builtin; refine wpList_append_lies _ (by rfl) (.tmp 5) (.tmp 6) 59 (by rfl) w.heap.size 63 i0 (.agg #[.int .i64 0, .bool false, .string ⟨#[]⟩]) 3 32 Try.underlying59 hi hz0 hz1 hz2 (by rfl) (by omega) (.slice (some ⟨w.heap.size, 0, none⟩) 0 0) 0 [] (by rfl) (owns_none w 63 3) ⟨b, 0, none⟩ 1 cap (kind n) (by rfl) (by rfl) (fun j u hu => by rw [Addr.add_mid]; exact World.rangeAt_alloc HR.out _ j u hu) (by simp [Value.oneCell']) (by omega) (by unfold maxLen; omega) (by omega) (by simp) (w.heap.size + 1) (by simp) ?_; intro g cap' w1 hown hgrow hat hlt)
  go_ret
  have hch : Ch (fun b => w.heap.size ≤ b) w w1 := ((Ch.refl _ w).alloc _).grown hgrow (fun k hk _ => by simp [Value.ownBlock] at hk; omega)
  refine ⟨g, cap', rfl, ?_, range_own hown, there_own hown, hch.below (Nat.le_refl _) (fun b hb h => by omega)⟩
  rcases hat with h | h
  · simp [Value.ownBlock] at h; omega
  · omega

/-- slices.Clone of a zone's kinds. -/
theorem clone77 {w : World} {v : SV} {o : Option Int} (h : Zn w v o) :
    Calls Try.prog 77 #[sv v] w fun e w' => ∃ v', e = .returned (sv v') ∧ Zn w' v' o ∧ Zfrom w.heap.size v' ∧ Below w.heap.size w w' := by
  cases o with
  | none =>
    cases h
    refine (clone77_nil w).mono fun e w' ⟨h1, h2⟩ => ?_
    subst h2
    exact ⟨(none, 0, 0), h1, rfl, (fun a ha => by cases ha), Below.refl _ _⟩
  | some n =>
    obtain ⟨b, cap, rfl, hr, _⟩ := h
    exact (clone77_one w b cap n hr).mono fun e w' ⟨g, cap', h1, h2, h3, h4, h5⟩ => ⟨(some ⟨g, 0, none⟩, 1, cap'), h1, ⟨g, cap', rfl, h3, h4⟩, fun a ha => by cases ha; exact h2, h5⟩

end Go.Proofs.Ytnnaidladcdbdaa
