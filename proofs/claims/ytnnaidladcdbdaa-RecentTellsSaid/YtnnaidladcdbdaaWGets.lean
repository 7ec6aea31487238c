/- The walk of RecentGets: the call answers true. -/
import Derived.Test.YtnnaidladcdbdaaWPuts
import Derived.OpenShut
namespace Go.Proofs.Ytnnaidladcdbdaa
open Go.RowKit Go.ChangeMaps

/-- What is known of a slice of ints that came in. -/
def InRow (w : World) (a : Option Addr) (len cap : Nat) (zs : List Int) : Prop :=
  (a = none ∧ len = 0 ∧ cap = 0 ∧ zs = []) ∨
  ∃ x, a = some x ∧ len ≤ cap ∧ cap ≤ maxLen ∧ zs.length = cap ∧ (∀ i, i < zs.length → w.cell? (x.add i) = some (.int .i64 (zs.getD i 0))) ∧ ∀ n ∈ zs, (Lit.int .i64 n).wf = true

theorem InRow.len_le {w : World} {a : Option Addr} {len cap : Nat} {zs : List Int} (h : InRow w a len cap zs) : len ≤ 9223372036854775807 := by
  rcases h with ⟨_, rfl, _⟩ | ⟨x, _, h1, h2, _⟩
  · omega
  · unfold maxLen at h2; omega

theorem InRow.at {w : World} {a : Option Addr} {len cap : Nat} {zs : List Int} (h : InRow w a len cap zs) {k : Nat} (hk : k < len) :
    ∃ b off, a = some ⟨b, off, none⟩ ∧ b < w.heap.size ∧ w.cell? ⟨b, off + k, none⟩ = some (.int .i64 (zs.getD k 0)) ∧ (Lit.int .i64 (zs.getD k 0)).wf = true := by
  rcases h with ⟨_, rfl, _⟩ | ⟨x, rfl, h1, h2, h3, h4, h5⟩
  · omega
  · obtain ⟨b, off, rfl, hc⟩ := ints_at h4 (by omega)
    have hck := hc k (by omega)
    refine ⟨b, off, rfl, World.block_lt_of_cell? (a := ⟨b, off + k, none⟩) _ hck, hck, h5 _ ?_⟩
    have hkz : k < zs.length := by omega
    rw [List.getD_eq_getElem?_getD, List.getElem?_eq_getElem hkz]
    exact List.getElem_mem hkz

theorem putS_length {κ ν : Type} [DecidableEq κ] {R : Nat} {l : List (κ × ν)} {k : κ} {v : ν} (hR : 1 ≤ R) (hn : (l.map Prod.fst).Nodup) (h : l.length ≤ R) : (putS R l k v).length ≤ R := by
  unfold putS goes
  cases hh : has l k with
  | true => simp only [if_true]; rw [use_length hn (has_iff.1 hh)]; exact h
  | false =>
    simp only [Bool.false_eq_true, if_false, Bool.not_false, Bool.true_and]
    by_cases hl : (R : Int) ≤ (l.length : Int)
    · rw [if_pos (by simpa using hl)]
      simp only [List.length_append, List.length_tail, List.length_cons, List.length_nil]
      omega
    · rw [if_neg (by simpa using hl)]
      simp only [List.length_append, List.length_cons, List.length_nil]
      omega

/-- The one that was used last stays, if there is room for two. -/
theorem putS_keeps {κ ν : Type} [DecidableEq κ] {R : Nat} {pre : List (κ × ν)} {k k' : κ} {v v' : ν} (hR : 2 ≤ R) (hne : k ≠ k') : (k', v') ∈ putS R (pre ++ [(k', v')]) k v := by
  unfold putS
  cases hh : has (pre ++ [(k', v')]) k with
  | true =>
    simp only [if_true]
    unfold use del
    refine List.mem_append_left _ (List.mem_filter.2 ⟨by simp, ?_⟩)
    simp only [ne_eq, decide_eq_true_eq]
    exact fun e => hne e.symm
  | false =>
    simp only [Bool.false_eq_true, if_false]
    cases hg : goes (R : Int) (pre ++ [(k', v')]) k with
    | false => simp
    | true =>
      simp only [if_true]
      simp only [goes, Bool.and_eq_true, decide_eq_true_eq, List.length_append, List.length_cons, List.length_nil] at hg
      cases pre with
      | nil => simp only [List.length_nil] at hg; omega
      | cons x r => simp

set_option maxRecDepth 100000 in
set_option maxHeartbeats 2000000 in
theorem gets_walk (a0 : Int) (a1 : Option Addr) (len1 cap1 : Nat) (z1 : List Int) (w : World) (hrow : InRow w a1 len1 cap1 z1) :
    Calls Try.prog 6 #[.int .i64 a0, .slice a1 len1 cap1] w fun e w' => e = .returned (.bool true) ∧ Below w.heap.size w w' := by
  obtain ⟨R, hR, hR1, hR2⟩ := two_mod a0 19 (by omega) (by omega)
  have hlen := hrow.len_le
  have HROW := Lib.hid hrow
  clear hrow
  go_enter Try.func6, Try.ntmps6
  go_wp2_with fail
  refine (shown14 w).mono ?_
  rintro e w1 ⟨rfl, hb1⟩
  go_wp2_with fail
  rw [hR]
  clear hR
  refine (II.new_ge (R : Int) w1 (by omega)).mono ?_
  rintro e w2 ⟨rfl, h2, hb2⟩
  have S2 := Since.new hb2
  go_wp2_with fail
  refine (II.put_new (k := -1) (v := 7) h2 (by simp) (ok_int (by omega) (by omega)) (by simp; omega)).mono ?_
  rintro e w3 ⟨rfl, n3, hn3, h3, hc3⟩
  have S3 := S2.grow hc3 hn3
  clear h2 S2 hb2
  go_wp2_with fail
  go_loopw [7] (fun i wr => ∃ k : Nat, i = .int .i64 k ∧ k ≤ len1 ∧ k ≤ 60 ∧ ∃ F pre, II.Is wr F (w1.heap.size + 1) R (pre ++ [(-1, 7)]) ∧ (pre ++ [((-1 : Int), (7 : Int))]).length ≤ R ∧ Since w1.heap.size w1 wr F) (fun i _ => 60 - (intOf i).toNat)
  case atStart => exact ⟨0, rfl, by omega, by omega, _, [], by simpa using h3, by simp; omega, S3⟩
  case round =>
    obtain ⟨k, rfl, hk, hk60, F, pre, h4, hl4, S4⟩ := hrel
    clear h3 S3 hc3
    by_cases hlt : k < len1 ∧ k < 60
    · obtain ⟨hlt1, hlt2⟩ := hlt
      obtain ⟨b, off, ha, hbw, hc, hwf⟩ := HROW.out.at hlt1
      have HA := Lib.hid ha
      have hcr : wr.cell? ⟨b, off + k, none⟩ = some (.int .i64 (z1.getD k 0)) := by
        rw [(S4.below.cell (p := ⟨b, off + k, none⟩) (Nat.lt_of_lt_of_le hbw hb1.size)), hb1.cell (p := ⟨b, off + k, none⟩) hbw]; exact hc
      clear hc hwf
      revert hcr
      generalize z1.getD k 0 = z
      intro hcr
      obtain ⟨u, hu, hu2⟩ : ∃ u : Nat, bits .and .i64 z 65535 = u ∧ u < 65536 := ⟨(z % 65536).toNat, by rw [i64_and65535]; omega, by omega⟩
      have hput := II.put_c (k := (u : Int)) (v := (k : Int)) h4 (ok_int (by omega) (by omega))
      have hin := putS_keeps (pre := pre) (k := (u : Int)) (k' := (-1 : Int)) (v := (k : Int)) (v' := (7 : Int)) (by omega : 2 ≤ R) (by omega)
      have hl5 := putS_length (k := (u : Int)) (v := (k : Int)) (by omega : 1 ≤ R) h4.nodup hl4
      have HI := Lib.hid hin
      have HL := Lib.hid hl5
      clear hin hl5
      go_wp2_with fail
      refine hput.mono ?_
      clear hput
      rintro e w5 ⟨rfl, n5, hn5, h5, hc5⟩
      have S5 := S4.grow hc5 hn5
      clear h4
      have hu6 := use_length (v := (7 : Int)) h5.nodup (List.mem_map_of_mem (f := Prod.fst) HI.out)
      have H6 := Lib.hid hu6
      clear hu6
      go_wp2_with fail
      refine (II.get_hit h5 HI.out).mono ?_
      rintro e w6 ⟨rfl, h6, hc6⟩
      have S6 := S5.ch hc6
      have hl7 := II.len_c h6
      have hle : (use (putS (R : Int) (pre ++ [((-1 : Int), (7 : Int))]) (u : Int) (k : Int)) (-1) 7).length ≤ R := by rw [H6.out]; exact HL.out
      have e6 : use (putS (R : Int) (pre ++ [((-1 : Int), (7 : Int))]) (u : Int) (k : Int)) (-1) 7 = del (putS (R : Int) (pre ++ [((-1 : Int), (7 : Int))]) (u : Int) (k : Int)) (-1) ++ [(-1, 7)] := rfl
      have E6 := Lib.hid e6
      clear e6
      go_wp2_with fail
      refine hl7.mono ?_
      rintro e w7 ⟨rfl, rfl⟩
      go_wp2
      go_roundw
      case rel => (rw [HA.out]; (repeat apply Exists.intro); refine ⟨?_, rfl⟩; exact ⟨k + 1, by go_num, by omega, by omega, _, _, by rw [← E6.out]; exact h6, by rw [← E6.out]; exact hle, S6⟩)
      case measure => simp [intOf]; omega
    · have hd : k = len1 ∨ k = 60 := by omega
      have hend : Below w.heap.size w wr := hb1.trans (S4.below.mono hb1.size)
      rcases hd with rfl | rfl
      · go_wp2
        all_goals
          go_ret
          exact ⟨rfl, hend⟩
      · go_wp2
        all_goals
          go_ret
          exact ⟨rfl, hend⟩

end Go.Proofs.Ytnnaidladcdbdaa
