/- The walk of RecentTells: the call answers true. -/
import Derived.Test.YtnnaidladcdbdaaRefC
import Derived.Test.YtnnaidladcdbdaaShown
import Derived.StillTailTactics
import Derived.Deep.DeepCutAuto
import Derived.Deep.CutBlock
namespace Go.Proofs.Ytnnaidladcdbdaa
open Go.RowKit Go.ChangeMaps

/-- A row of steps: kind, value, key. -/
def StepRow (w : World) (a : Option Addr) (len : Nat) (Ks Vs : Nat → Int) (Ss : Nat → ByteArray) : Prop :=
  ∀ i, i < len → ∃ b off, a = some ⟨b, off, none⟩ ∧ b < w.heap.size ∧ w.cell? ⟨b, off + i * 3, none⟩ = some (.int .i64 (Ks i)) ∧ w.cell? ⟨b, off + i * 3 + 1, none⟩ = some (.int .i64 (Vs i)) ∧
    w.cell? ⟨b, off + i * 3 + 2, none⟩ = some (.string (Ss i)) ∧ KS.ok (Ss i)

theorem getS_length {κ ν : Type} [DecidableEq κ] {l : List (κ × ν)} {k : κ} {z : ν} (hn : (l.map Prod.fst).Nodup) : (getS l k z).length = l.length := by
  unfold getS
  split
  · rename_i h
    obtain ⟨j, hj, _, he⟩ := place_of z hn (has_iff.1 h)
    have hjl := (List.getElem?_eq_some_iff.1 hj).1
    unfold use
    rw [← he, List.length_append, List.length_eraseIdx]
    simp [hjl]
    omega
  · rfl

set_option maxRecDepth 100000 in
set_option maxHeartbeats 4000000 in
theorem tells_walk (a0 : Int) (a1 : Option Addr) (len1 cap1 : Nat) (Ks Vs : Nat → Int) (Ss : Nat → ByteArray) (w : World) (hrow : StepRow w a1 len1 Ks Vs Ss) :
    Calls Try.prog 3 #[.int .i64 a0, .slice a1 len1 cap1] w fun e w' => e = .returned (.bool true) ∧ Below w.heap.size w w' := by
  have HROW := Lib.hid hrow
  clear hrow
  go_enter Try.func3, Try.ntmps3
  go_wp2_with fail
  refine (shown14 w).mono ?_
  rintro e w1 ⟨rfl, hb1⟩
  go_upto_region 2 with fail
  go_cut [0] (fun i wc => ∃ r : Int, i = .int .i64 r ∧ r ≤ 30 ∧ wc = w1)
  case first =>
    by_cases h30 : a0 ≤ 30
    · go_wp2
      all_goals
        go_meet
        first | exact ⟨_, rfl, by omega, rfl⟩ | exact ⟨_, rfl, by simp, rfl⟩
    · go_wp2
      all_goals
        go_meet
        first | exact ⟨_, rfl, by omega, rfl⟩ | exact ⟨_, rfl, by simp, rfl⟩
  case rest =>
    obtain ⟨r, rfl, hr, hw⟩ := hcut
    subst wc
    go_wp2_with fail
    have hnew := two_new r w1
    obtain ⟨R, hR, hR1, hR2⟩ : ∃ R : Nat, max 1 r = (R : Int) ∧ 1 ≤ R ∧ R ≤ 30 := ⟨(max 1 r).toNat, by omega, by omega, by omega⟩
    rw [hR] at hnew
    clear hR
    refine hnew.mono ?_
    clear hnew
    rintro e w2 ⟨rfl, hnew⟩
    have HNEW := Lib.hid hnew
    clear hnew
    go_wp2_with fail
    refine HNEW.out.mono ?_
    clear HNEW
    rintro e w3 ⟨q, rfl, h3⟩
    go_upto_block 0 with fail
    go_cut [8] (fun _ wx => Below w1.heap.size w1 wx)
    case rest =>
      go_wp2
      go_ret
      exact ⟨rfl, hb1.trans (hcut.mono hb1.size)⟩
    case first =>
      go_wp2_with fail
      go_loopw [8] (fun i wr => ∃ k : Nat, i = .int .i64 k ∧ k ≤ len1 ∧ k ≤ 100 ∧ ∃ l, Two w1.heap.size w1 wr (w1.heap.size + 1) q R l l ∧ l.length ≤ R) (fun i _ => 100 - (intOf i).toNat)
      case atStart => exact ⟨0, rfl, by omega, by omega, [], h3, by simp⟩
      case round =>
        obtain ⟨k, rfl, hk, hk100, l, h4, hl4⟩ := hrel
        clear h3
        by_cases hlt : k < len1 ∧ k < 100
        · obtain ⟨hlt1, hlt2⟩ := hlt
          obtain ⟨b, off, ha, hbw, hc0, hc1, hc2, hok⟩ := HROW.out k hlt1
          subst ha
          have hold : ∀ o v, w.cell? ⟨b, o, none⟩ = some v → ∀ wx, Below w1.heap.size w1 wx → wx.cell? ⟨b, o, none⟩ = some v := fun o v hc wx hx => by
            rw [(hx.cell (p := ⟨b, o, none⟩) (Nat.lt_of_lt_of_le hbw hb1.size)), hb1.cell (p := ⟨b, o, none⟩) hbw]; exact hc
          have H0 := hold _ _ hc0 wr h4.below
          have H2 := hold _ _ hc2 wr h4.below
          have H1 := hold _ _ hc1
          clear hold hc0 hc1 hc2
          revert H0 H1 H2 hok
          generalize Ks k = K
          generalize Vs k = V
          generalize Ss k = S
          intro hok H2 H0 H1
          have HV := Lib.hid H1
          have HOK := Lib.hid hok
          clear H1 hok
          have i1 : (k : Int) < (len1 : Int) := by omega
          go_upto_block 2 with fail
          go_cut [9] (fun _ wx => ∃ l, Two w1.heap.size w1 wx (w1.heap.size + 1) q R l l ∧ l.length ≤ R)
          case first =>
            have hn := h4.nodup
            rcases (by omega : K = 0 ∨ K = 1 ∨ K = 2 ∨ K = 3 ∨ K = 4 ∨ (K ≠ 0 ∧ K ≠ 1 ∧ K ≠ 2 ∧ K ≠ 3 ∧ K ≠ 4)) with hk0 | hk1 | hk2 | hk3 | hk4 | ⟨n0, n1, n2, n3, n4⟩
            · subst hk0
              have hg := two_get h4 S HOK.out
              have hg' : ∀ wy, Two w1.heap.size w1 wy (w1.heap.size + 1) q R (getS l S 0) l → _ := fun wy h => two_get' h S hn (by omega)
              have hgl := getS_length (k := S) (z := (0 : Int)) hn
              revert hg hg' hgl
              generalize (if has l S then valOf l S 0 else 0) = x
              generalize has l S = y
              generalize getS l S 0 = l5
              intro hg hg' hgl
              have HG := Lib.hid hg'
              clear hg'
              go_wp2_with fail
              refine hg.mono ?_
              clear hg
              rintro e w5 ⟨rfl, h5⟩
              have hg6 := HG.out w5 h5
              clear h4
              go_wp2_with fail
              refine hg6.mono ?_
              clear hg6
              rintro e w6 ⟨rfl, h6⟩
              have b1 : (x != x) = false := by simp
              have b2 : (y != y) = false := by simp
              go_wp2
              all_goals
                go_meet
                exact ⟨l5, h6, by omega⟩
            · subst hk1
              have hg := two_get h4 S HOK.out
              have hg' : ∀ wy, Two w1.heap.size w1 wy (w1.heap.size + 1) q R (getS l S 0) l → _ := fun wy h => two_get' h S hn (by omega)
              have hgl := getS_length (k := S) (z := (0 : Int)) hn
              revert hg hg' hgl
              generalize (if has l S then valOf l S 0 else 0) = x
              generalize has l S = y
              generalize getS l S 0 = l5
              intro hg hg' hgl
              have HG := Lib.hid hg'
              clear hg'
              go_wp2_with fail
              refine hg.mono ?_
              clear hg
              rintro e w5 ⟨rfl, h5⟩
              have hg6 := HG.out w5 h5
              clear h4
              go_wp2_with fail
              refine hg6.mono ?_
              clear hg6
              rintro e w6 ⟨rfl, h6⟩
              have b1 : (x != x) = false := by simp
              have b2 : (y != y) = false := by simp
              go_wp2
              all_goals
                go_meet
                exact ⟨l5, h6, by omega⟩
            · subst hk2
              have hg := two_put h4 S V HOK.out
              have hg' : ∀ wy, Two w1.heap.size w1 wy (w1.heap.size + 1) q R (putS R l S V) l → _ := fun wy h => two_put' h S V hn (by omega) (by omega)
              have hgl := putS_length (k := S) (v := V) hR1 hn hl4
              revert hg hg' hgl
              generalize goneK (R : Int) l S ⟨#[]⟩ = x
              generalize goes (R : Int) l S = y
              generalize putS (R : Int) l S V = l5
              intro hg hg' hgl
              have HG := Lib.hid hg'
              clear hg'
              have H1 := HV.out wr h4.below
              go_wp2_with fail
              refine hg.mono ?_
              clear hg
              rintro e w5 ⟨rfl, h5⟩
              have hg6 := HG.out w5 h5
              have H1' := HV.out w5 h5.below
              clear h4
              go_wp2_with fail
              refine hg6.mono ?_
              clear hg6
              rintro e w6 ⟨rfl, h6⟩
              have b1 : (x.toList == x.toList) = true := by simp
              have b2 : (y != y) = false := by simp
              go_wp2
              all_goals
                go_meet
                exact ⟨l5, h6, by omega⟩
            · subst hk3
              have hg := two_put h4 S V HOK.out
              have hg' : ∀ wy, Two w1.heap.size w1 wy (w1.heap.size + 1) q R (putS R l S V) l → _ := fun wy h => two_put' h S V hn (by omega) (by omega)
              have hgl := putS_length (k := S) (v := V) hR1 hn hl4
              revert hg hg' hgl
              generalize goneK (R : Int) l S ⟨#[]⟩ = x
              generalize goes (R : Int) l S = y
              generalize putS (R : Int) l S V = l5
              intro hg hg' hgl
              have HG := Lib.hid hg'
              clear hg'
              have H1 := HV.out wr h4.below
              go_wp2_with fail
              refine hg.mono ?_
              clear hg
              rintro e w5 ⟨rfl, h5⟩
              have hg6 := HG.out w5 h5
              have H1' := HV.out w5 h5.below
              clear h4
              go_wp2_with fail
              refine hg6.mono ?_
              clear hg6
              rintro e w6 ⟨rfl, h6⟩
              have b1 : (x.toList == x.toList) = true := by simp
              have b2 : (y != y) = false := by simp
              go_wp2
              all_goals
                go_meet
                exact ⟨l5, h6, by omega⟩
            · subst hk4
              have hg := two_drop h4 S HOK.out
              have hg' : ∀ wy, Two w1.heap.size w1 wy (w1.heap.size + 1) q R (del l S) l → _ := fun wy h => two_drop' h S hn (by omega)
              have hgl : (del l S).length ≤ l.length := List.length_filter_le _ _
              revert hg hg' hgl
              generalize has l S = y
              generalize del l S = l5
              intro hg hg' hgl
              have HG := Lib.hid hg'
              clear hg'
              go_wp2_with fail
              refine hg.mono ?_
              clear hg
              rintro e w5 ⟨rfl, h5⟩
              have hg6 := HG.out w5 h5
              clear h4
              go_wp2_with fail
              refine hg6.mono ?_
              clear hg6
              rintro e w6 ⟨rfl, h6⟩
              have b2 : (y != y) = false := by simp
              go_wp2
              all_goals
                go_meet
                exact ⟨l5, h6, by omega⟩
            · have b0 : (K == 0) = false := beq_eq_false_iff_ne.2 n0
              have b1 : (K == 1) = false := beq_eq_false_iff_ne.2 n1
              have b2 : (K == 2) = false := beq_eq_false_iff_ne.2 n2
              have b3 : (K == 3) = false := beq_eq_false_iff_ne.2 n3
              have b4 : (K == 4) = false := beq_eq_false_iff_ne.2 n4
              go_wp2
              all_goals
                go_meet
                exact ⟨l, h4, hl4⟩
          case rest =>
            clear h4 hl4 HV HOK H0 H2
            obtain ⟨l5, h5, hl5⟩ := hcut
            have hkeys := h5.keys_c (by omega)
            obtain ⟨N, hN⟩ : ∃ N : Nat, N = l5.length := ⟨_, rfl⟩
            have HN := Lib.hid hN
            rw [← hN] at hkeys hl5
            clear hN
            go_wp2_with fail
            refine hkeys.mono ?_
            clear hkeys
            rintro e w6 ⟨rfl, hown, hb6⟩
            have h6 := h5.later hb6
            have hg : wc.heap.size < w6.heap.size := (hown.lt wc.heap.size rfl).2
            have hca : ∀ j, j < N → w6.cell? ⟨wc.heap.size, j, none⟩ = (l5.map fun x => Value.string x.1)[j]? := fun j hj => hown.cellAt j (by omega)
            have HCA := Lib.hid hca
            obtain ⟨ao, cap, cq, hcb, hq⟩ := h6.keys
            rw [← HN.out] at cq hcb
            have HCB := Lib.hid hcb
            have hlen6 : ∀ n, Calls Try.prog 25 #[.pointer (some ⟨w1.heap.size + 1, 0, none⟩)] (w6.drewN n) fun e w' => e = .returned (.int .i64 N) ∧ w6.drewN n = w' := fun n => by
              rw [HN.out]; exact (h6.drewN n).len_c
            have HQ := Lib.hid hlen6
            clear hlen6 hcb hca hown h5
            have b1 : ((N : Int) != (N : Int)) = false := by simp
            have b2 : ((N : Int) == (N : Int)) = true := by simp
            have b3 : (N == N) = true := by simp
            have b4 : (N != N) = false := by simp
            go_wp2_with fail
            refine wp_region_quiet_lit (by kernel_rfl) (by kernel_rfl) ?_
            repeat (go_big_quiet_step ((go_at_call 25; exact quiet_same (HQ.out _))))
            refine wpQuiet_nil ?_
            intro w7 hw7
            obtain ⟨nq, hw7⟩ := hw7
            have h7 := h6.drewN nq
            have cq7 : (w6.drewN nq).cell? ⟨q, 1, none⟩ = some (.slice ao N cap) := cq
            have hq7 : q < (w6.drewN nq).heap.size := hq
            have hg7 : wc.heap.size < (w6.drewN nq).heap.size := hg
            have hca7 : ∀ j, j < N → (w6.drewN nq).cell? ⟨wc.heap.size, j, none⟩ = (l5.map fun x => Value.string x.1)[j]? := HCA.out
            have hcb7 : 0 < N → ∃ g, ao = some ⟨g, 0, none⟩ ∧ g < (w6.drewN nq).heap.size ∧ ∀ j, j < N → (w6.drewN nq).cell? ⟨g, j, none⟩ = (l5.map fun x => Value.string x.1)[j]? := HCB.out
            rw [← hw7] at h7 cq7 hq7 hg7 hca7 hcb7
            have HCA7 := Lib.hid hca7
            have HCB7 := Lib.hid hcb7
            clear hw7 hca7 hcb7 HCA HCB HQ cq hq hg h6 hb6
            go_wp2_with fail
            go_loopw [21] (fun i wr => ∃ j : Nat, i = .int .i64 j ∧ j ≤ N ∧ Below w7.heap.size w7 wr) (fun i _ => N - (intOf i).toNat)
            case atStart => exact ⟨0, rfl, by omega, Below.refl _ _⟩
            case round =>
              obtain ⟨j, rfl, hj, hbj⟩ := hrel
              by_cases hlt : j < N
              · obtain ⟨x, hx⟩ : ∃ x, l5[j]? = some x := ⟨_, List.getElem?_eq_getElem (by rw [← HN.out]; exact hlt)⟩
                obtain ⟨g, hao, hgl, hgc⟩ := HCB7.out (by omega)
                have c1 : wr.cell? ⟨wc.heap.size, j, none⟩ = some (.string x.1) := by
                  rw [hbj.cell (p := ⟨wc.heap.size, j, none⟩) hg7, HCA7.out j hlt, List.getElem?_map, hx]; rfl
                have c2 : wr.cell? ⟨g, j, none⟩ = some (.string x.1) := by
                  rw [hbj.cell (p := ⟨g, j, none⟩) hgl, hgc j hlt, List.getElem?_map, hx]; rfl
                have c3 : wr.cell? ⟨q, 1, none⟩ = some (.slice ao N cap) := by
                  rw [hbj.cell (p := ⟨q, 1, none⟩) hq7]; exact cq7
                subst hao
                have i1' : (j : Int) < (N : Int) := by omega
                have b5 : (x.1.toList == x.1.toList) = true := by simp
                clear hx hgc
                go_wp2_with fail
                go_quiet (fail)
                go_wp2
                exact ⟨⟨j + 1, by go_num, by omega, below_drewN hbj nq⟩, by simp [intOf]; omega⟩
              · obtain rfl : j = N := by omega
                have h8 := h7.later hbj
                go_wp2
                go_roundw
                case rel => exact ⟨k + 1, by go_num, by omega, by omega, l5, h8, by rw [← HN.out]; exact hl5⟩
                case measure => simp [intOf]; omega
        · have hd : k = len1 ∨ k = 100 := by omega
          have hb4 := h4.below
          rcases hd with rfl | rfl
          · go_wp2_with fail
            all_goals
              go_meet
              exact hb4
          · go_wp2_with fail
            all_goals
              go_meet
              exact hb4
end Go.Proofs.Ytnnaidladcdbdaa
