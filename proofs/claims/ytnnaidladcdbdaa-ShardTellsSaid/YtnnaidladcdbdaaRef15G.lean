/- The reference of chapter 15: Result. -/
import Derived.Test.YtnnaidladcdbdaaRef15F
namespace Go.Proofs.Ytnnaidladcdbdaa
open Go.RowKit Go.ChangeMaps
open KZ (KK)

theorem info148 : (Try.prog.info? 148).map (fun i => (i.zero, i.size, i.bytes)) = some (some (.agg #[.int .i64 0, .int .i64 0, .int .i64 0]), 3, 24) := by kernel_rfl
theorem rrow_one (l : List (Int × Int × Int)) : ∀ u ∈ rrow l, u.oneCell' = true := by
  induction l with
  | nil => intro u hu; simp [rrow] at hu
  | cons x r ih =>
    intro u hu
    simp only [rrow, List.mem_cons] at hu
    rcases hu with rfl | rfl | rfl | hu
    · rfl
    · rfl
    · rfl
    · exact ih u hu

variable {w w' : World} {G : Nat → Prop} {q : Nat} {room : Int} {vk vv vf vr : Value} {ks : List PK} {vs : List Int} {fs : List FR} {rs : List (Int × Int × Int)}

set_option maxRecDepth 100000 in
set_option maxHeartbeats 8000000 in
theorem r15_result_a (q gk n ck k : Nat) (i : Int) (rs : List (Int × Int × Int)) (x : Int × Int × Int) (w : World)
    (c1w : w.cell? ⟨q, 4, none⟩ = some (.slice (some ⟨gk, 0, none⟩) n ck)) (fq : ∀ o, w.frozen? ⟨q, o, none⟩ = false) (hownw : w.ownsRow 0 148 3 (.slice (some ⟨gk, 0, none⟩) n ck) n (rrow rs))
    (hlen : rs.length = n) (hn : n ≤ 10000) (_hqk : gk ≠ q) (hx : rs[k]? = some x) (hxi : x.1 = i) (hne : ∀ m, m < k → ∀ y, rs[m]? = some y → y.1 ≠ i) :
    Calls Try.prog 50 #[.pointer (some ⟨q, 0, none⟩), .int .i64 i] w fun e w' => e = .returned (.tuple #[.int .i64 x.2.1, .int .i64 x.2.2, .bool true]) ∧
      ∃ wx wc, Below w.heap.size w wx ∧ CutPost q 4 148 3 (n - 1) ((rrow rs).take (k * 3) ++ (rrow rs).drop ((k + 1) * 3)) wx wc ∧ Below wc.heap.size wc w' := by
  have hkn : k < n := by rw [← hlen]; exact (List.getElem?_eq_some_iff.1 hx).1
  have HX := Lib.hid hx
  have HNE := Lib.hid hne
  have HLEN := Lib.hid hlen
  have HOWNW := Lib.hid hownw
  have FQ := Lib.hid fq
  have C1W := Lib.hid c1w
  have H1C := Lib.hid (rrow_one rs)
  have HXI := Lib.hid hxi
  clear hx hne hlen hownw fq c1w hxi
  go_enter Try.func50, Try.ntmps50
  go_wp2_with fail
  go_loopw [7] (fun y wr => ∃ m : Nat, y = .int .i64 m ∧ m ≤ k ∧ Below w.heap.size w wr) (fun y _ => k - (intOf y).toNat)
  case atStart => exact ⟨0, rfl, by omega, Below.refl _ _⟩
  case round =>
    obtain ⟨m, rfl, hm, hbr⟩ := hrel
    have keep : ∀ b o v, w.cell? ⟨b, o, none⟩ = some v → wr.cell? ⟨b, o, none⟩ = some v := fun b o v h => (hbr.cell (p := ⟨b, o, none⟩) (cell15_lt h)).trans h
    have c1 := keep _ _ _ C1W.out
    obtain ⟨y, hy⟩ : ∃ y, rs[m]? = some y := ⟨_, List.getElem?_eq_getElem (by rw [HLEN.out]; omega)⟩
    obtain ⟨r0, r1, r2⟩ := rrow_at _ m y hy
    have hmn : m < n := by omega
    have e0 := keep _ _ _ ((HOWNW.out.cellAt (m * 3) (by omega)).trans r0)
    have e1 := keep _ _ _ ((HOWNW.out.cellAt (m * 3 + 1) (by omega)).trans r1)
    have e2 := keep _ _ _ ((HOWNW.out.cellAt (m * 3 + 2) (by omega)).trans r2)
    have i1 : (m : Int) < (n : Int) := by omega
    have HY := Lib.hid hy
    have HBR := Lib.hid hbr
    clear keep hy r0 r1 r2
    by_cases hmk : m < k
    · have hb : (y.1 == i) = false := beq_eq_false_iff_ne.2 (HNE.out m hmk y HY.out)
      go_wp2
      go_roundw
      case rel => exact ⟨m + 1, by go_num, by omega, HBR.out.alloc HBR.out.size _⟩
      case measure => simp [intOf]; omega
    · obtain rfl : m = k := by omega
      obtain rfl : x = y := by have := HX.out.symm.trans HY.out; simpa using this
      have hb : (x.1 == i) = true := beq_iff_eq.2 HXI.out
      go_upto_region 6 with fail
      have hbx : Below w.heap.size w (wr.alloc (.cells #[.int .i64 x.1, .int .i64 x.2.1, .int .i64 x.2.2] 148)) := HBR.out.alloc HBR.out.size _
      have hv : ∀ j, (wr.alloc (.cells #[.int .i64 x.1, .int .i64 x.2.1, .int .i64 x.2.2] 148)).cell? ⟨wr.heap.size, j, none⟩ = #[Value.int .i64 x.1, .int .i64 x.2.1, .int .i64 x.2.2][j]? := fun j => World.cell?_alloc_new _ _ _ _
      have v1 : (wr.alloc (.cells #[.int .i64 x.1, .int .i64 x.2.1, .int .i64 x.2.2] 148)).cell? ⟨wr.heap.size, 1, none⟩ = some (.int .i64 x.2.1) := by rw [hv]; rfl
      have v2 : (wr.alloc (.cells #[.int .i64 x.1, .int .i64 x.2.1, .int .i64 x.2.2] 148)).cell? ⟨wr.heap.size, 2, none⟩ = some (.int .i64 x.2.2) := by rw [hv]; rfl
      have hqr : q ≠ wr.heap.size := fun e => by have := cell15_lt C1W.out; have := HBR.out.size; omega
      have hvs : wr.heap.size < (wr.alloc (.cells #[.int .i64 x.1, .int .i64 x.2.1, .int .i64 x.2.2] 148)).heap.size := by simp
      clear hv c1 e0 e1 e2
      revert hbx v1 v2 hvs
      generalize wr.alloc (.cells #[.int .i64 x.1, .int .i64 x.2.1, .int .i64 x.2.2] 148) = wx
      intro hbx v1 v2 hvs
      have lqw := cell15_lt C1W.out
      have c1 : wx.cell? ⟨q, 4, none⟩ = some (.slice (some ⟨gk, 0, none⟩) n ck) := (hbx.cell (p := ⟨q, 4, none⟩) lqw).trans C1W.out
      have fq1 : wx.frozen? ⟨q, 4, none⟩ = false := ((Ch.of_none hbx (fun _ => False)).frozen (p := ⟨q, 4, none⟩) lqw (fun h => h)).trans (FQ.out 4)
      have lgw := (HOWNW.out.lt gk rfl).2
      have HOWN := Lib.hid (owned_kept HOWNW.out (w' := wx) (fun b hb => by cases hb; exact hbx.block gk lgw))
      have lq : q < wx.heap.size := Nat.lt_of_lt_of_le lqw hbx.size
      have lg : gk < wx.heap.size := Nat.lt_of_lt_of_le lgw hbx.size
      obtain ⟨i0k, hik, hz0k, hz1k, hz2k⟩ := info_parts info148
      have hcapk := owned_cap HOWN.out
      have s1k : ∀ w, (Instr.slice 99 (.slice (some ⟨gk, 0, none⟩) n ck) none (some (.int .i64 m)) none).run Try.prog w = .ok (.slice (some ⟨gk, 0, none⟩) m ck) w := slice_low Try.underlying99 hik (by omega)
      have s2k : ∀ w, (Instr.slice 99 (.slice (some ⟨gk, 0, none⟩) n ck) (some (.int .i64 ((m : Int) + 1))) none none).run Try.prog w = .ok (.slice (some (behind gk ck (m + 1) 3)) (n - (m + 1)) (ck - (m + 1))) w := slice_high (k := m + 1) Try.underlying99 hik hz1k (by omega)
      have q1 : IntKind.i64.wrap ((m : Int) + 1) = (m : Int) + 1 := IntWalk.i64_in _ (by omega)
      have HV := Lib.hid (And.intro v1 v2)
      have HBX := Lib.hid hbx
      clear v1 v2 hbx
      go_cut [29] (fun _ wc => CutPost q 4 148 3 (n - 1) ((rrow rs).take (m * 3) ++ (rrow rs).drop ((m + 1) * 3)) wx wc)
      case first =>
        go_region_law (first | (refine step_append_at (by rfl) (.tmp 30) (.tmp 36) 99 (by rfl) wx.heap.size 148 i0k (.agg #[.int .i64 0, .int .i64 0, .int .i64 0]) 3 24 Try.underlying99 hik hz0k hz1k hz2k rfl (by omega) wx.heap.size 0 0 [] (by rfl) (owns_none wx 148 3) ⟨gk, 0, none⟩ m ck ((rrow rs).take (m * 3)) (by rfl) (by rw [List.length_take, HOWN.out.1]; omega) (ahead_cells HOWN.out (m * 3) (Below.heap_alloc _ _ _ lg)) (fun u hu => H1C.out u (List.mem_of_mem_take hu)) m (by omega) ((rrow rs).take (m * 3)) rfl (by unfold maxLen; omega) (by omega) (by simp) (wx.heap.size + 1) (by simp) ?_; intro g1 cap1 w1 hown1 hgrow1 hat1 hlt1; have c1' : w1.cell? ⟨q, 4, none⟩ = some (.slice (some ⟨gk, 0, none⟩) n ck) := (World.cell?_of_block (hgrow1.block q (by simp; omega) (by simp; omega))).trans ((World.cell?_of_block (Below.heap_alloc wx _ q lq)).trans c1)) | (refine step_append_at (by rfl) (.tmp 37) (.tmp 44) 99 (by rfl) wx.heap.size 148 i0k (.agg #[.int .i64 0, .int .i64 0, .int .i64 0]) 3 24 Try.underlying99 hik hz0k hz1k hz2k rfl (by omega) g1 m cap1 ((rrow rs).take (m * 3)) (by rfl) hown1 (behind gk ck (m + 1) 3) (n - (m + 1)) (ck - (m + 1)) ((rrow rs).drop ((m + 1) * 3)) (by rfl) (by rw [List.length_drop, HOWN.out.1]; omega) (behind_cells' HOWN.out (by omega) ((hgrow1.block gk (by simp; omega) (by simp; omega)).trans (Below.heap_alloc _ _ _ lg))) (fun u hu => H1C.out u (List.mem_of_mem_drop hu)) (n - 1) (by omega) ((rrow rs).take (m * 3) ++ (rrow rs).drop ((m + 1) * 3)) rfl (by unfold maxLen; omega) (by omega) (by have := hgrow1.size; simp at this; omega) w1.heap.size rfl ?_; intro g2 cap2 w2 hown2 hgrow2 hat2 hlt2; have c2' : w2.cell? ⟨q, 4, none⟩ = some (.slice (some ⟨gk, 0, none⟩) n ck) := (World.cell?_of_block (hgrow2.block q (by have := hgrow1.size; simp at this; omega) (by simp; omega))).trans c1'; have f2' : w2.frozen? ⟨q, 4, none⟩ = false := (World.frozen?_of_block (hgrow2.block q (by have := hgrow1.size; simp at this; omega) (by simp; omega))).trans ((World.frozen?_of_block (hgrow1.block q (by simp; omega) (by simp; omega))).trans ((World.frozen?_of_block (Below.heap_alloc wx _ q lq)).trans fq1))))
        all_goals
          go_wp2_with fail
          go_meet
          exact cut_post c1 hgrow1 hgrow2 hat1 hat2 hown2
      case rest =>
        obtain ⟨gn, capn, d1, hownn, hgn, hgl, hch, hcl, hfl⟩ := id hcut
        have P1 := Lib.hid hcut
        have v1 : wc.cell? ⟨wr.heap.size, 1, none⟩ = some (.int .i64 x.2.1) := (hch.cell (p := ⟨wr.heap.size, 1, none⟩) hvs (fun e => hqr e.symm)).trans HV.out.1
        have v2 : wc.cell? ⟨wr.heap.size, 2, none⟩ = some (.int .i64 x.2.2) := (hch.cell (p := ⟨wr.heap.size, 2, none⟩) hvs (fun e => hqr e.symm)).trans HV.out.2
        clear hcut hownn hcl hfl hch d1 s1k s2k c1 fq1 q1
        go_wp2_with (go_quiet (fail))
        go_ret3
        exact ⟨rfl, wx, wc, HBX.out, P1.out, below_drewN (Below.refl _ _) nq⟩

end Go.Proofs.Ytnnaidladcdbdaa
