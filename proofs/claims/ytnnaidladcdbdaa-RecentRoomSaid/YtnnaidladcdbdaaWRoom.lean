/- The walk of RecentRoom: the call answers true. -/
import Derived.Test.YtnnaidladcdbdaaWGets
import Derived.StillTailTactics
import Derived.Deep.DeepCutAuto
import Derived.Deep.CutBlock
namespace Go.Proofs.Ytnnaidladcdbdaa
open Go.RowKit Go.ChangeMaps

theorem putS_last {κ ν : Type} [DecidableEq κ] (R : Int) (l : List (κ × ν)) (k : κ) (v : ν) : (putS R l k v)[(putS R l k v).length - 1]? = some (k, v) := by
  unfold putS
  split
  · exact use_last
  · split <;> simp

theorem putS_pos {κ ν : Type} [DecidableEq κ] (R : Int) (l : List (κ × ν)) (k : κ) (v : ν) : 1 ≤ (putS R l k v).length := by
  unfold putS
  split
  · simp [use]
  · split <;> simp

theorem putS_mem {κ ν : Type} [DecidableEq κ] {R : Int} {l : List (κ × ν)} {k : κ} {v : ν} {x : κ × ν} (h : x ∈ putS R l k v) : x = (k, v) ∨ x ∈ l := by
  unfold putS at h
  split at h
  · unfold use del at h
    rcases List.mem_append.1 h with h | h
    · exact Or.inr (List.mem_filter.1 h).1
    · exact Or.inl (by simpa using h)
  · split at h
    · rcases List.mem_append.1 h with h | h
      · exact Or.inr (List.mem_of_mem_tail h)
      · exact Or.inl (by simpa using h)
    · rcases List.mem_append.1 h with h | h
      · exact Or.inr h
      · exact Or.inl (by simpa using h)

theorem use_head {κ ν : Type} [DecidableEq κ] {x : κ × ν} {r : List (κ × ν)} (hn : ((x :: r).map Prod.fst).Nodup) : use (x :: r) x.1 x.2 = r ++ [x] := by
  simp only [List.map_cons, List.nodup_cons] at hn
  unfold use del
  rw [List.filter_cons_of_neg (by simp)]
  have := del_none hn.1
  unfold del at this
  rw [this]

/-- What the list is behind j looks at its keys in their order. -/
def rot {α : Type} (l : List α) (j : Nat) : List α := l.drop j ++ l.take j

theorem rot_step {κ ν : Type} [DecidableEq κ] {l : List (κ × ν)} {j : Nat} {x : κ × ν} (hx : l[j]? = some x) (hn : ((rot l j).map Prod.fst).Nodup) : x ∈ rot l j ∧ use (rot l j) x.1 x.2 = rot l (j + 1) := by
  obtain ⟨hj, hxe⟩ := List.getElem?_eq_some_iff.1 hx
  have e1 : l.drop j = x :: l.drop (j + 1) := by rw [List.drop_eq_getElem_cons hj, hxe]
  have e2 : l.take (j + 1) = l.take j ++ [x] := by rw [List.take_succ_eq_append_getElem hj, hxe]
  unfold rot at hn ⊢
  rw [e1] at hn ⊢
  refine ⟨by simp, ?_⟩
  rw [List.cons_append] at hn ⊢
  rw [use_head hn, e2]
  simp

set_option maxRecDepth 100000 in
set_option maxHeartbeats 2000000 in
theorem room_walk (a0 : Int) (a1 : Option Addr) (len1 cap1 : Nat) (z1 : List Int) (w : World) (hrow : InRow w a1 len1 cap1 z1) :
    Calls Try.prog 4 #[.int .i64 a0, .slice a1 len1 cap1] w fun e w' => e = .returned (.bool true) ∧ Below w.heap.size w w' := by
  obtain ⟨R, hR, hR1, hR2⟩ := one_mod a0 20 (by omega) (by omega)
  have hlen := hrow.len_le
  have HROW := Lib.hid hrow
  clear hrow
  go_enter Try.func4, Try.ntmps4
  go_wp2_with fail
  refine (shown14 w).mono ?_
  rintro e w1 ⟨rfl, hb1⟩
  go_wp2_with fail
  rw [hR]
  clear hR
  refine (II.new_ge (R : Int) w1 (by omega)).mono ?_
  rintro e w2 ⟨rfl, h2, hb2⟩
  have S2 := Since.new hb2
  go_upto_block 0 with fail
  go_cut [7] (fun _ wc => ∃ F l, II.Is wc F (w1.heap.size + 1) R l ∧ l.length ≤ R ∧ (∀ x ∈ l, x.2 = -1 - x.1) ∧ Since w1.heap.size w1 wc F)
  case first =>
    go_wp2_with fail
    go_loopw [7] (fun i wr => ∃ k : Nat, i = .int .i64 k ∧ k ≤ len1 ∧ k ≤ 100 ∧ ∃ F l, II.Is wr F (w1.heap.size + 1) R l ∧ l.length ≤ R ∧ (∀ x ∈ l, x.2 = -1 - x.1) ∧ Since w1.heap.size w1 wr F) (fun i _ => 100 - (intOf i).toNat)
    case atStart => exact ⟨0, rfl, by omega, by omega, _, [], h2, by simp, by simp, S2⟩
    case round =>
      obtain ⟨k, rfl, hk, hk60, F, l, h4, hl4, hv4, S4⟩ := hrel
      clear h2 S2 hb2
      by_cases hlt : k < len1 ∧ k < 100
      · obtain ⟨hlt1, hlt2⟩ := hlt
        obtain ⟨b, off, ha, hbw, hc, hwf⟩ := HROW.out.at hlt1
        have HA := Lib.hid ha
        have hold : ∀ wx, Below w1.heap.size w1 wx → wx.cell? ⟨b, off + k, none⟩ = some (.int .i64 (z1.getD k 0)) := fun wx hx => by
          rw [(hx.cell (p := ⟨b, off + k, none⟩) (Nat.lt_of_lt_of_le hbw hb1.size)), hb1.cell (p := ⟨b, off + k, none⟩) hbw]; exact hc
        clear hc
        revert hold hwf
        generalize z1.getD k 0 = z
        intro hwf hold
        have HOLD := Lib.hid hold
        have hcr := hold wr S4.below
        have HV := Lib.hid hv4
        have HW := Lib.hid hwf
        clear hv4 hwf hold
        have i1 : (k : Int) < (len1 : Int) := by omega
        have hx := i64_not' z HW.out
        have hput := Lib.hid (II.put_c (k := z) (v := -1 - z) h4.drew HW.out)
        have hl5 := putS_length (k := z) (v := -1 - z) hR1 h4.nodup hl4
        have hp5 := putS_pos (R : Int) l z (-1 - z)
        have hla5 := Lib.hid (putS_last (R : Int) l z (-1 - z))
        have hv5 : Hid (∀ x ∈ putS (R : Int) l z (-1 - z), x.2 = -1 - x.1) := fun x h => by
          rcases putS_mem h with rfl | h
          · rfl
          · exact HV.out x h
        go_wp2_with fail
        go_still_tail 10, (by kernel_rfl)
        change wpList _ _ _ _ _ wr.drew
        go_wp2_with fail
        refine hput.out.mono ?_
        clear hput h4
        rintro e w5 ⟨rfl, n5, hn5, h5, hc5⟩
        have S5 := S4.grow hc5.of_drew hn5
        revert h5 hl5 hp5 hla5 hv5
        generalize putS (R : Int) l z (-1 - z) = l5
        intro hl5 hp5 hla5 hv5 h5
        have hkeys := II.keys_c h5 (by omega)
        obtain ⟨N, hN⟩ : ∃ N : Nat, N = l5.length := ⟨_, rfl⟩
        have HN := Lib.hid hN
        rw [← hN] at hkeys hl5 hp5
        clear hN
        go_wp2_with fail
        refine hkeys.mono ?_
        clear hkeys
        rintro e w6 ⟨rfl, hown, hb6⟩
        have S6 := S5.later hb6
        have h6 := h5.below hb6
        have hlen6 : ∀ n, Calls Try.prog 29 #[.pointer (some ⟨w1.heap.size + 1, 0, none⟩)] (w6.drewN n) fun e w' => e = .returned (.int .i64 N) ∧ w6.drewN n = w' := fun n => by
          rw [HN.out]; exact II.len_c (h6.drewN n)
        have HQ := Lib.hid hlen6
        clear hlen6
        have hlastc : w6.cell? ⟨w5.heap.size, N - 1, none⟩ = some (.int .i64 z) := by
          rw [hown.cellAt (N - 1) (by omega), List.getElem?_map, HN.out, hla5.out]; rfl
        have hcr6 := HOLD.out w6 S6.below
        have b1 : ((N : Int) == 0) = false := by simp; omega
        have b2 : decide (R < N) = false := by simp; omega
        have b5 : (N == 0) = false := by simp; omega
        have b3 : (0 : Int) ≤ (N : Int) - 1 := by omega
        have b4 : (N : Int) - 1 < (N : Int) := by omega
        have q1 : IntKind.i64.wrap ((N : Int) - 1) = (N : Int) - 1 := IntWalk.i64_in _ (by omega)
        have q2 : ((N : Int) - 1).toNat = N - 1 := by omega
        clear hown hcr
        go_wp2_with fail
        refine wp_region_quiet_lit (by kernel_rfl) (by kernel_rfl) ?_
        repeat (go_big_quiet_step ((go_at_call 29; exact quiet_same (HQ.out _))))
        refine wpQuiet_nil ?_
        intro w7 hw7
        obtain ⟨nq, hw7⟩ := hw7
        have h7 := h6.drewN nq
        have S7 := S6.later (w' := w6.drewN nq) (below_drewN (Below.refl _ _) nq)
        rw [← hw7] at h7 S7
        clear hw7
        go_wp2
        go_roundw
        case rel =>
          rw [HA.out]
          (repeat apply Exists.intro)
          refine ⟨?_, rfl⟩
          exact ⟨k + 1, by go_num, by omega, by omega, _, l5, h7, by rw [← HN.out]; exact hl5, hv5.out, S7⟩
        case measure => simp [intOf]; omega
      · have hd : k = len1 ∨ k = 100 := by omega
        have HV := Lib.hid hv4
        clear hv4
        rcases hd with rfl | rfl
        · go_wp2_with fail
          all_goals
            go_meet
            exact ⟨F, l, h4, hl4, HV.out, S4⟩
        · go_wp2_with fail
          all_goals
            go_meet
            exact ⟨F, l, h4, hl4, HV.out, S4⟩
  case rest =>
    obtain ⟨F, l, h4, hl4, hv4, S4⟩ := hcut
    have HV := Lib.hid hv4
    clear hv4 h2 S2 hb2
    have hkeys := II.keys_c h4 (by omega)
    obtain ⟨N, hN⟩ : ∃ N : Nat, N = l.length := ⟨_, rfl⟩
    have HN := Lib.hid hN
    rw [← hN] at hkeys hl4
    clear hN
    go_wp2_with fail
    refine hkeys.mono ?_
    clear hkeys
    rintro e w6 ⟨rfl, hown, hb6⟩
    have S6 := S4.later hb6
    have h6 := h4.below hb6
    have hg : wc.heap.size < w6.heap.size := (hown.lt wc.heap.size rfl).2
    have hnF : ¬ F wc.heap.size := fun h => absurd (h4.lt _ h) (Nat.lt_irrefl _)
    have hcells : ∀ j, j < N → w6.cell? ⟨wc.heap.size, j, none⟩ = (l.map fun x => Value.int .i64 x.1)[j]? := fun j hj => hown.cellAt j (by omega)
    have HC := Lib.hid hcells
    have HNF := Lib.hid hnF
    clear hown hcells hnF
    go_wp2_with fail
    go_loopw [10] (fun i wr => ∃ j : Nat, i = .int .i64 j ∧ j ≤ N ∧ II.Is wr F (w1.heap.size + 1) R (rot l j) ∧ Ch F w6 wr) (fun i _ => N - (intOf i).toNat)
    case atStart => exact ⟨0, rfl, by omega, by simpa [rot] using h6, Ch.refl _ _⟩
    case round =>
      obtain ⟨j, rfl, hj, h7, hc7⟩ := hrel
      clear h4 h6
      by_cases hlt : j < N
      · obtain ⟨x, hx⟩ : ∃ x, l[j]? = some x := ⟨_, List.getElem?_eq_getElem (by rw [← HN.out]; exact hlt)⟩
        have hcx : wr.cell? ⟨wc.heap.size, j, none⟩ = some (.int .i64 x.1) := by
          rw [hc7.cell (p := ⟨wc.heap.size, j, none⟩) hg HNF.out, HC.out j hlt, List.getElem?_map, hx]; rfl
        have hxv : x.2 = -1 - x.1 := HV.out x (List.mem_of_getElem? hx)
        obtain ⟨hxin, hxuse⟩ := rot_step hx h7.nodup
        have hok := h7.keys_ok x hxin
        have hnot := i64_not' x.1 hok
        have hget := II.get_hit (k := x.1) (v := x.2) h7 hxin
        rw [hxuse] at hget
        have HX := Lib.hid hxv
        clear hxv hxuse hxin hx hok
        go_wp2_with fail
        refine hget.mono ?_
        clear hget
        rintro e w8 ⟨rfl, h8, hc8⟩
        have hcx8 : w8.cell? ⟨wc.heap.size, j, none⟩ = some (.int .i64 x.1) := by
          rw [hc8.cell (p := ⟨wc.heap.size, j, none⟩) (Nat.lt_of_lt_of_le hg hc7.size) HNF.out]; exact hcx
        have hbne : (x.2 != -1 - x.1) = false := by rw [HX.out]; simp
        have hbne' : (x.2 == -1 - x.1) = true := by rw [HX.out]; simp
        clear hcx
        go_wp2
        exact ⟨⟨j + 1, by go_num, by omega, h8, hc7.trans hc8 (fun _ _ h => h)⟩, by simp [intOf]; omega⟩
      · obtain rfl : j = N := by omega
        have hrot : rot l j = l := by unfold rot; rw [HN.out]; simp
        rw [hrot] at h7
        have hkeys := II.keys_c h7 (by rw [← HN.out]; omega)
        rw [← HN.out] at hkeys
        clear hrot
        have S7 := S6.ch hc7
        go_wp2_with fail
        refine hkeys.mono ?_
        clear hkeys
        rintro e w9 ⟨rfl, hown9, hb9⟩
        have S9 := S7.later hb9
        have hg9 : wr.heap.size < w9.heap.size := (hown9.lt wr.heap.size rfl).2
        have hca : ∀ i, i < j → w9.cell? ⟨wr.heap.size, i, none⟩ = (l.map fun x => Value.int .i64 x.1)[i]? := fun i hi => hown9.cellAt i (by omega)
        have hcb : ∀ i, i < j → w9.cell? ⟨wc.heap.size, i, none⟩ = (l.map fun x => Value.int .i64 x.1)[i]? := fun i hi => by
          rw [hb9.cell (p := ⟨wc.heap.size, i, none⟩) (Nat.lt_of_lt_of_le hg hc7.size), hc7.cell (p := ⟨wc.heap.size, i, none⟩) hg HNF.out]; exact HC.out i hi
        have HCA := Lib.hid hca
        have HCB := Lib.hid hcb
        have hgc : wc.heap.size < w9.heap.size := Nat.lt_of_lt_of_le hg (Nat.le_trans hc7.size hb9.size)
        clear hca hcb hown9 HC h7 hlt
        obtain ⟨wo, hwo⟩ : ∃ wo : World, wo = wr := ⟨_, rfl⟩
        rw [← hwo] at HCA hg9 ⊢
        clear hwo
        go_wp2_with fail
        go_loopw [14] (fun i wr => ∃ k : Nat, i = .int .i64 k ∧ k ≤ j ∧ Below w9.heap.size w9 wr) (fun i _ => j - (intOf i).toNat)
        case atStart => exact ⟨0, rfl, by omega, Below.refl _ _⟩
        case round =>
          obtain ⟨k, rfl, hk, hbk⟩ := hrel
          by_cases hlt : k < j
          · obtain ⟨x, hx⟩ : ∃ x, l[k]? = some x := ⟨_, List.getElem?_eq_getElem (by rw [← HN.out]; exact hlt)⟩
            have c1 : wr.cell? ⟨wo.heap.size, k, none⟩ = some (.int .i64 x.1) := by
              rw [hbk.cell (p := ⟨wo.heap.size, k, none⟩) hg9, HCA.out k hlt, List.getElem?_map, hx]; rfl
            have c2 : wr.cell? ⟨wc.heap.size, k, none⟩ = some (.int .i64 x.1) := by
              rw [hbk.cell (p := ⟨wc.heap.size, k, none⟩) hgc, HCB.out k hlt, List.getElem?_map, hx]; rfl
            have i1 : (k : Int) < (j : Int) := by omega
            clear hx
            go_wp2_with fail
            go_quiet (fail)
            go_wp2
            exact ⟨⟨k + 1, by go_num, by omega, below_drewN hbk nq⟩, by simp [intOf]; omega⟩
          · obtain rfl : k = j := by omega
            go_wp2
            go_ret
            exact ⟨rfl, hb1.trans ((S9.below.trans (hbk.mono S9.size)).mono hb1.size)⟩

end Go.Proofs.Ytnnaidladcdbdaa
