/- The walks of RecentDrops and RecentPuts: the calls answer true. -/
import Derived.Test.YtnnaidladcdbdaaII
import Derived.Test.YtnnaidladcdbdaaShown
import Derived.Test.YtnnaidladcdbdaaBits
namespace Go.Proofs.Ytnnaidladcdbdaa
open Go.RowKit Go.ChangeMaps

/-- The numbers below k, each with itself. -/
def seqL (k : Nat) : List (Int × Int) := (List.range k).map fun (j : Nat) => ((j : Int), (j : Int))

theorem seqL_succ (k : Nat) : seqL k ++ [((k : Int), (k : Int))] = seqL (k + 1) := by
  unfold seqL
  rw [List.range_succ]
  simp

theorem seqL_length (k : Nat) : (seqL k).length = k := by simp [seqL]

theorem seqL_keys {k : Nat} {x : Int} : x ∈ (seqL k).map Prod.fst ↔ ∃ j : Nat, j < k ∧ x = (j : Int) := by
  simp only [seqL, List.map_map, List.mem_map, List.mem_range, Function.comp]
  exact ⟨fun ⟨j, h, e⟩ => ⟨j, h, e.symm⟩, fun ⟨j, h, e⟩ => ⟨j, h, e.symm⟩⟩

theorem seqL_mem {k j : Nat} (h : j < k) : ((j : Int), (j : Int)) ∈ seqL k := by
  simp only [seqL, List.mem_map, List.mem_range]
  exact ⟨j, h, rfl⟩

theorem seqL_nodup (k : Nat) : ((seqL k).map Prod.fst).Nodup := by
  simp only [seqL, List.map_map]
  rw [List.Nodup, List.pairwise_map]
  exact (List.pairwise_lt_range (n := k)).imp (fun h e => by simp only [Function.comp] at e; omega)

theorem del_length {κ ν : Type} [DecidableEq κ] : ∀ {l : List (κ × ν)} {k : κ}, (l.map Prod.fst).Nodup → k ∈ l.map Prod.fst → (del l k).length + 1 = l.length
  | [], k, _, h => by simp at h
  | x :: r, k, hn, h => by
    simp only [List.map_cons, List.nodup_cons] at hn
    by_cases e : x.1 = k
    · have : k ∉ r.map Prod.fst := by rw [← e]; exact hn.1
      unfold del
      rw [List.filter_cons_of_neg (by simp [e])]
      have := del_none this
      unfold del at this
      rw [this]; rfl
    · have h' : k ∈ r.map Prod.fst := by
        simp only [List.map_cons, List.mem_cons] at h
        rcases h with h | h
        · exact absurd h.symm e
        · exact h
      have ih := del_length hn.2 h'
      unfold del at ih ⊢
      rw [List.filter_cons_of_pos (by simpa using e)]
      simp only [List.length_cons]
      omega

theorem del_keys {κ ν : Type} [DecidableEq κ] {l : List (κ × ν)} {k x : κ} (h : x ∈ (del l k).map Prod.fst) : x ∈ l.map Prod.fst := by
  obtain ⟨y, hy, e⟩ := List.mem_map.1 h
  exact List.mem_map.2 ⟨y, (List.mem_filter.1 hy).1, e⟩

theorem ok_int {n : Int} (h : -1000000 ≤ n) (h' : n ≤ 1000000) : KI.ok n := by
  show (Lit.int .i64 n).wf = true
  exact WalkArith.wf_i64 (by omega)

set_option maxRecDepth 100000 in
set_option maxHeartbeats 2000000 in
theorem drops_walk (a0 a1 : Int) (w : World) :
    Calls Try.prog 7 #[.int .i64 a0, .int .i64 a1] w fun e w' => e = .returned (.bool true) ∧ Below w.heap.size w w' := by
  obtain ⟨R, hR, hR1, hR2⟩ := one_mod a0 20 (by omega) (by omega)
  obtain ⟨M, hM, hM1⟩ := mask_mod a1 (R : Int) (by omega)
  have nz : ¬ (R : Int) = 0 := by omega
  go_enter Try.func7, Try.ntmps7
  go_wp2_with fail
  refine (shown14 w).mono ?_
  rintro e w1 ⟨rfl, hb1⟩
  go_wp2_with fail
  rw [hR]
  clear hR hM
  refine (II.new_ge (R : Int) w1 (by omega)).mono ?_
  rintro e w2 ⟨rfl, h2, hb2⟩
  have S2 := Since.new hb2
  go_wp2_with fail
  go_loopw [7] (fun i wr => ∃ k : Nat, i = .int .i64 k ∧ k ≤ R ∧ ∃ F, II.Is wr F (w1.heap.size + 1) R (seqL k) ∧ Since w1.heap.size w1 wr F) (fun i _ => R - (intOf i).toNat)
  case atStart => exact ⟨0, rfl, by omega, _, by simpa [seqL] using h2, S2⟩
  case round =>
    obtain ⟨k, rfl, hk, F, h3, S3⟩ := hrel
    clear h2 S2 hb2
    by_cases hlt : k < R
    · have hput := II.put_new (v := (k : Int)) (k := (k : Int)) h3 (fun h => by obtain ⟨j, hj, e⟩ := seqL_keys.1 h; omega) (ok_int (by omega) (by omega)) (by rw [seqL_length]; omega)
      rw [seqL_succ] at hput
      go_wp2_with fail
      refine hput.mono ?_
      rintro e w4 ⟨rfl, n4, hn4, h4, hc4⟩
      clear hput
      have S4 := S3.grow hc4 hn4
      go_wp2
      go_roundw
      case rel => exact ⟨k + 1, by go_num, by omega, _, h4, S4⟩
      case measure => simp [intOf]; omega
    · obtain rfl : k = R := by omega
      have hMk : M < k := by omega
      have g1 := II.drop_hit h3 (seqL_mem hMk)
      go_wp2_with fail
      refine g1.mono ?_
      clear g1
      rintro e w4 ⟨rfl, h4, hc4⟩
      have S4 := S3.ch hc4
      have hlen : (del (seqL k) (M : Int)).length + 1 = k := by rw [del_length (seqL_nodup k) (seqL_keys.2 ⟨M, hMk, rfl⟩), seqL_length]
      have hno : ∀ x : Int, 100 ≤ x → x ∉ (del (seqL k) (M : Int)).map Prod.fst := fun x hx h => by
        obtain ⟨j, hj, e⟩ := seqL_keys.1 (del_keys h); omega
      have hM' : (M : Int) ∉ (del (seqL k) (M : Int)).map Prod.fst := not_mem_del _ _
      revert h4 hlen hno hM'
      generalize del (seqL k) (M : Int) = l4
      intro h4 hlen hno hM'
      have HL := Lib.hid hlen
      have HNO := Lib.hid hno
      have HMN := Lib.hid hM'
      clear hlen hno hM'
      go_wp2_with fail
      refine (II.drop_miss h4 HMN.out (ok_int (by omega) (by omega))).mono ?_
      rintro e w5 ⟨rfl, rfl⟩
      go_wp2_with fail
      refine (II.get_miss h4 HMN.out (ok_int (by omega) (by omega))).mono ?_
      rintro e w5 ⟨rfl, rfl⟩
      go_wp2_with fail
      refine (II.put_new h4 (HNO.out 100 (by omega)) (ok_int (by omega) (by omega)) (by have := HL.out; omega)).mono ?_
      rintro e w5 ⟨rfl, n5, hn5, h5, hc5⟩
      have S5 := S4.grow hc5 hn5
      have hlen5 : (l4 ++ [((100 : Int), (5 : Int))]).length = k := by have := HL.out; simp; omega
      have hno5 : (101 : Int) ∉ (l4 ++ [((100 : Int), (5 : Int))]).map Prod.fst := by
        have := HNO.out 101 (by omega)
        simp only [List.map_append, List.mem_append, not_or]
        exact ⟨this, by simp⟩
      revert h5 hlen5 hno5
      generalize l4 ++ [((100 : Int), (5 : Int))] = l5
      intro h5 hlen5 hno5
      cases l5 with
      | nil => simp at hlen5; omega
      | cons x r =>
        have g6 := II.put_full (v := 6) h5 hno5 (ok_int (by omega) (by omega)) (by rw [hlen5]; omega)
        have hl6 : (r ++ [((101 : Int), (6 : Int))]).length = k := by simp at hlen5 ⊢; omega
        have HL6 := Lib.hid hl6
        clear hlen5 hno5 hl6
        go_wp2_with fail
        refine g6.mono ?_
        rintro e w6 ⟨rfl, n6, hn6, h6, hc6⟩
        have S6 := S5.grow hc6 hn6
        have g7 := II.len_c h6
        rw [HL6.out] at g7
        go_wp2_with fail
        refine g7.mono ?_
        rintro e w7 ⟨rfl, rfl⟩
        go_wp2
        go_ret
        exact ⟨rfl, hb1.trans (S6.below.mono hb1.size)⟩

end Go.Proofs.Ytnnaidladcdbdaa
