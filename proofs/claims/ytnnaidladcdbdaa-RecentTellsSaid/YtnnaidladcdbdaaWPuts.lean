/- The walk of RecentPuts: the call answers true. -/
import Derived.Test.YtnnaidladcdbdaaWDrops
namespace Go.Proofs.Ytnnaidladcdbdaa
open Go.RowKit Go.ChangeMaps

theorem use_length {κ ν : Type} [DecidableEq κ] {l : List (κ × ν)} {k : κ} {v : ν} (hn : (l.map Prod.fst).Nodup) (h : k ∈ l.map Prod.fst) : (use l k v).length = l.length := by
  have := del_length hn h
  unfold use
  simp only [List.length_append, List.length_cons, List.length_nil]
  omega

theorem use_last {κ ν : Type} [DecidableEq κ] {l : List (κ × ν)} {k : κ} {v : ν} : (use l k v)[(use l k v).length - 1]? = some (k, v) := by
  unfold use
  simp

set_option maxRecDepth 100000 in
set_option maxHeartbeats 2000000 in
theorem puts_walk (a0 a1 a2 : Int) (w : World) :
    Calls Try.prog 8 #[.int .i64 a0, .int .i64 a1, .int .i64 a2] w fun e w' => e = .returned (.bool true) ∧ Below w.heap.size w w' := by
  obtain ⟨R, hR, hR1, hR2⟩ := one_mod a0 20 (by omega) (by omega)
  obtain ⟨M, hM, hM1⟩ := mask_mod a1 (R : Int) (by omega)
  have nz : ¬ (R : Int) = 0 := by omega
  go_enter Try.func8, Try.ntmps8
  go_wp2_with fail
  refine (shown14 w).mono ?_
  rintro e w1 ⟨rfl, hb1⟩
  go_wp2_with fail
  rw [hR]
  clear hR hM
  refine (II.new_ge (R : Int) w1 (by omega)).mono ?_
  rintro e w2 ⟨rfl, h2, hb2⟩
  have S2 := Since.new hb2
  go_wp2_with fail
  go_loopw [9] (fun i wr => ∃ k : Nat, i = .int .i64 k ∧ k ≤ R ∧ ∃ F, II.Is wr F (w1.heap.size + 1) R (seqL k) ∧ Since w1.heap.size w1 wr F) (fun i _ => R - (intOf i).toNat)
  case atStart => exact ⟨0, rfl, by omega, _, by simpa [seqL] using h2, S2⟩
  case round =>
    obtain ⟨k, rfl, hk, F, h3, S3⟩ := hrel
    clear h2 S2 hb2
    by_cases hlt : k < R
    · have hput := II.put_new (v := (k : Int)) (k := (k : Int)) h3 (fun h => by obtain ⟨j, hj, e⟩ := seqL_keys.1 h; omega) (ok_int (by omega) (by omega)) (by rw [seqL_length]; omega)
      rw [seqL_succ] at hput
      go_wp2_with fail
      refine hput.mono ?_
      rintro e w4 ⟨rfl, n4, hn4, h4, hc4⟩
      clear hput
      have S4 := S3.grow hc4 hn4
      go_wp2
      go_roundw
      case rel => exact ⟨k + 1, by go_num, by omega, _, h4, S4⟩
      case measure => simp [intOf]; omega
    · obtain rfl : k = R := by omega
      have hMk : M < k := by omega
      have g1 := II.put_old (v := a2) h3 (seqL_mem hMk)
      go_wp2_with fail
      refine g1.mono ?_
      clear g1
      rintro e w4 ⟨rfl, n4, hn4, h4, hc4⟩
      have S4 := S3.grow hc4 hn4
      have hlen : (use (seqL k) (M : Int) a2).length = k := by rw [use_length (seqL_nodup k) (seqL_keys.2 ⟨M, hMk, rfl⟩), seqL_length]
      have hlast := use_last (l := seqL k) (k := (M : Int)) (v := a2)
      have hin : ((M : Int), a2) ∈ use (seqL k) (M : Int) a2 := by simp [use]
      rw [hlen] at hlast
      have g2 := II.keys_c h4 (by omega)
      rw [hlen] at g2
      have HL := Lib.hid hlast
      have HI := Lib.hid hin
      clear hlen hlast hin
      go_wp2_with fail
      refine g2.mono ?_
      rintro e w5 ⟨rfl, hown, hb5⟩
      have S5 := S4.later hb5
      have h5 := h4.below hb5
      have hcell : w5.cell? ⟨w4.heap.size, k - 1, none⟩ = some (.int .i64 M) := by
        rw [hown.cellAt (k - 1) (by omega), List.getElem?_map, HL.out]; rfl
      have hg : w4.heap.size < w5.heap.size := by
        have := hown.lt w4.heap.size rfl; exact this.2
      clear g2
      go_wp2_with fail
      refine (II.get_hit h5 HI.out).mono ?_
      rintro e w6 ⟨rfl, h6, hc6⟩
      have S6 := S5.ch hc6
      have hcell6 : w6.cell? ⟨w4.heap.size, k - 1, none⟩ = some (.int .i64 M) := by
        rw [hc6.cell (p := ⟨w4.heap.size, k - 1, none⟩) hg (fun h => absurd (h4.lt _ h) (Nat.lt_irrefl _))]; exact hcell
      clear hown hcell
      go_wp2
      go_ret
      exact ⟨rfl, hb1.trans (S6.below.mono hb1.size)⟩

end Go.Proofs.Ytnnaidladcdbdaa
