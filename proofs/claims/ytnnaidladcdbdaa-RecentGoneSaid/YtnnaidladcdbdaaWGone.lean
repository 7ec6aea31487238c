/- The walk of RecentGone: the call answers true. -/
import Derived.Test.YtnnaidladcdbdaaIS
import Derived.Test.YtnnaidladcdbdaaShown
import Derived.Test.YtnnaidladcdbdaaBits
namespace Go.Proofs.Ytnnaidladcdbdaa
open Go.RowKit Go.ChangeMaps

/-- What the list holds behind k puts: the last R of 0 .. k - 1. -/
def lastR (R k : Nat) : List (Int × ByteArray) := (List.range' (k - R) (min k R)).map fun (j : Nat) => ((j : Int), ⟨#[118]⟩)

theorem lastR_new {R k : Nat} (h : k < R) : lastR R k ++ [((k : Int), ⟨#[118]⟩)] = lastR R (k + 1) := by
  unfold lastR
  have e1 : k - R = 0 := by omega
  have e2 : k + 1 - R = 0 := by omega
  have e3 : min k R = k := by omega
  have e4 : min (k + 1) R = k + 1 := by omega
  rw [e1, e2, e3, e4, List.range'_concat]
  simp

theorem lastR_full {R k : Nat} (hR : 1 ≤ R) (h : R ≤ k) : ∃ t, lastR R k = (((k - R : Nat) : Int), ⟨#[118]⟩) :: t ∧ t ++ [((k : Int), ⟨#[118]⟩)] = lastR R (k + 1) := by
  unfold lastR
  have e3 : min k R = (R - 1) + 1 := by omega
  have e4 : min (k + 1) R = (R - 1) + 1 := by omega
  rw [e3, e4, List.range'_succ]
  refine ⟨_, rfl, ?_⟩
  have e2 : k + 1 - R = k - R + 1 := by omega
  rw [e2, List.range'_concat]
  simp
  omega

theorem lastR_length {R k : Nat} : (lastR R k).length = min k R := by simp [lastR]

theorem lastR_fresh {R k : Nat} : ((k : Int)) ∉ (lastR R k).map Prod.fst := by
  simp only [lastR, List.map_map, List.mem_map, Function.comp, not_exists, not_and]
  intro x hx e
  have := List.mem_range'_1.1 hx
  omega

theorem ok_nat {k : Nat} (h : k < 1000) : KI.ok (k : Int) := by
  show (Lit.int .i64 (k : Int)).wf = true
  exact WalkArith.wf_i64 (by omega)

set_option maxRecDepth 100000 in
set_option maxHeartbeats 2000000 in
theorem gone_walk (a0 a1 : Int) (w : World) :
    Calls Try.prog 5 #[.int .i64 a0, .int .i64 a1] w fun e w' => e = .returned (.bool true) ∧ Below w.heap.size w w' := by
  obtain ⟨R, hR, hR1, hR2⟩ := one_mod a0 20 (by omega) (by omega)
  obtain ⟨M, hM, hM1⟩ := mask_mod a1 61 (by omega)
  have HR := Lib.hid hR
  have HM := Lib.hid hM
  clear hR hM
  go_enter Try.func5, Try.ntmps5
  go_wp2_with fail
  refine (shown14 w).mono ?_
  rintro e w1 ⟨rfl, hb1⟩
  go_wp2_with fail
  rw [HR.out, HM.out]
  refine (IS.new_ge (R : Int) w1 (by omega)).mono ?_
  rintro e w2 ⟨rfl, h2, hb2⟩
  have S2 := Since.new hb2
  go_wp2_with fail
  go_loopw [7] (fun i wr => ∃ k : Nat, i = .int .i64 k ∧ k ≤ R + M ∧ ∃ F, IS.Is wr F (w1.heap.size + 1) R (lastR R k) ∧ Since w1.heap.size w1 wr F) (fun i _ => R + M - (intOf i).toNat)
  case atStart => exact ⟨0, rfl, by omega, _, by simpa [lastR] using h2, S2⟩
  case round =>
    obtain ⟨k, rfl, hk, F, h3, S3⟩ := hrel
    clear h2 S2 hb2
    by_cases hlt : k < R + M
    · by_cases hkR : k < R
      · have hput := IS.put_new (v := ⟨#[118]⟩) h3 lastR_fresh (ok_nat (by omega)) (by rw [lastR_length]; omega)
        rw [lastR_new hkR] at hput
        go_wp2_with fail
        refine hput.mono ?_
        rintro e w4 ⟨rfl, n4, hn4, h4, hc4⟩
        clear hput
        have S4 := S3.grow hc4 hn4
        go_wp2
        go_roundw
        case rel => exact ⟨k + 1, by go_num, by omega, _, h4, S4⟩
        case measure => simp [intOf]; omega
      · obtain ⟨t, ht1, ht2⟩ := lastR_full hR1 (show R ≤ k by omega)
        have hfr := lastR_fresh (R := R) (k := k)
        rw [ht1] at h3 hfr
        have hput := IS.put_full (v := ⟨#[118]⟩) h3 hfr (ok_nat (by omega)) (by rw [← ht1, lastR_length]; omega)
        rw [ht2] at hput
        clear ht1 ht2
        have ek : ((k - R : Nat) : Int) = (k : Int) - R := by omega
        rw [ek] at hput
        clear ek hfr
        go_wp2_with fail
        refine hput.mono ?_
        rintro e w4 ⟨rfl, n4, hn4, h4, hc4⟩
        clear hput
        have S4 := S3.grow hc4 hn4
        go_wp2
        go_roundw
        case rel => exact ⟨k + 1, by go_num, by omega, _, h4, S4⟩
        case measure => simp [intOf]; omega
    · have hl := IS.len_c h3
      rw [lastR_length, show min k R = R from by omega] at hl
      go_wp2_with fail
      refine hl.mono ?_
      rintro e w4 ⟨rfl, rfl⟩
      go_wp2
      go_ret
      exact ⟨rfl, hb1.trans (S3.below.mono hb1.size)⟩

end Go.Proofs.Ytnnaidladcdbdaa
