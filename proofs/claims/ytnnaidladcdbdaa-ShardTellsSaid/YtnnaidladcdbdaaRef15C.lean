/- The contract of the reference's cut (chapter 15): what lies at a place is gone from both rows. (Turned from this seat's own text for chapter 14.) -/
import Derived.Test.YtnnaidladcdbdaaRef15B
import Derived.Deep.RegionLaw
namespace Go.Proofs.Ytnnaidladcdbdaa
open Go.RowKit Go.ChangeMaps
open KZ (KK)

theorem info89 : (Try.prog.info? 89).map (fun i => (i.zero, i.size, i.bytes)) = some (some (.agg #[.int .i64 0, .string ⟨#[]⟩]), 2, 24) := by kernel_rfl
theorem infoI : (Try.prog.info? 3).map (fun i => (i.zero, i.size, i.bytes)) = some (some (.int .i64 0), 1, 8) := by kernel_rfl

set_option maxRecDepth 100000 in
set_option maxHeartbeats 8000000 in
theorem r15_cut_a (q gk gv n ck cv k : Nat) (xs ys : List Value) (w : World)
    (c1 : w.cell? ⟨q, 1, none⟩ = some (.slice (some ⟨gk, 0, none⟩) n ck)) (c2 : w.cell? ⟨q, 2, none⟩ = some (.slice (some ⟨gv, 0, none⟩) n cv)) (fq : ∀ o, w.frozen? ⟨q, o, none⟩ = false)
    (hown : w.ownsRow 0 89 2 (.slice (some ⟨gk, 0, none⟩) n ck) n xs) (hownv : w.ownsRow 0 3 1 (.slice (some ⟨gv, 0, none⟩) n cv) n ys) (hk : k < n) (hn : n ≤ 1000) (_hqk : gk ≠ q) (hqv : gv ≠ q)
    (h1c : ∀ u ∈ xs, u.oneCell' = true) (h1v : ∀ u ∈ ys, u.oneCell' = true) :
    Calls Try.prog 72 #[.pointer (some ⟨q, 0, none⟩), .int .i64 k] w fun e w' => e = .returned (.tuple #[]) ∧ ∃ wc, CutPost q 1 89 2 (n - 1) (xs.take (k * 2) ++ xs.drop ((k + 1) * 2)) w wc ∧ CutPost q 2 3 1 (n - 1) (ys.take (k * 1) ++ ys.drop ((k + 1) * 1)) wc w' := by
  obtain ⟨i0k, hik, hz0k, hz1k, hz2k⟩ := info_parts info89
  have hcapk := owned_cap hown
  have s1k : ∀ w, (Instr.slice 97 (.slice (some ⟨gk, 0, none⟩) n ck) none (some (.int .i64 k)) none).run Try.prog w = .ok (.slice (some ⟨gk, 0, none⟩) k ck) w := slice_low Try.underlying97 hik (by omega)
  have s2k : ∀ w, (Instr.slice 97 (.slice (some ⟨gk, 0, none⟩) n ck) (some (.int .i64 ((k : Int) + 1))) none none).run Try.prog w = .ok (.slice (some (behind gk ck (k + 1) 2)) (n - (k + 1)) (ck - (k + 1))) w := slice_high (k := k + 1) Try.underlying97 hik hz1k (by omega)
  have lq : q < w.heap.size := World.block_lt_of_cell? (a := ⟨q, 1, none⟩) _ c1
  have lg : gk < w.heap.size := (hown.lt gk rfl).2
  have lv : gv < w.heap.size := (hownv.lt gv rfl).2
  have q1 : IntKind.i64.wrap ((k : Int) + 1) = (k : Int) + 1 := IntWalk.i64_in _ (by omega)
  have fq1 := fq 1
  have HOWN := Lib.hid hown
  have H1C := Lib.hid h1c
  have FQ := Lib.hid fq
  have HOWNV := Lib.hid hownv
  have H1V := Lib.hid h1v
  have C2 := Lib.hid c2
  clear hown h1c fq hownv h1v c2
  go_enter Try.func72, Try.ntmps72
  go_upto_region 0 with fail
  go_cut [22] (fun _ wc => CutPost q 1 89 2 (n - 1) (xs.take (k * 2) ++ xs.drop ((k + 1) * 2)) w wc)
  case first =>
    go_region_law (first | (refine step_append_at (by rfl) (.tmp 5) (.tmp 11) 97 (by rfl) w.heap.size 89 i0k (.agg #[.int .i64 0, .string ⟨#[]⟩]) 2 24 Try.underlying97 hik hz0k hz1k hz2k rfl (by omega) w.heap.size 0 0 [] (by rfl) (owns_none w 89 2) ⟨gk, 0, none⟩ k ck (xs.take (k * 2)) (by rfl) (by rw [List.length_take, HOWN.out.1]; omega) (ahead_cells HOWN.out (k * 2) (Below.heap_alloc _ _ _ lg)) (fun u hu => H1C.out u (List.mem_of_mem_take hu)) k (by omega) (xs.take (k * 2)) rfl (by unfold maxLen; omega) (by omega) (by simp) (w.heap.size + 1) (by simp) ?_; intro g1 cap1 w1 hown1 hgrow1 hat1 hlt1; have c1' : w1.cell? ⟨q, 1, none⟩ = some (.slice (some ⟨gk, 0, none⟩) n ck) := (World.cell?_of_block (hgrow1.block q (by simp; omega) (by simp; omega))).trans ((World.cell?_of_block (Below.heap_alloc w _ q lq)).trans c1)) | (refine step_append_at (by rfl) (.tmp 12) (.tmp 19) 97 (by rfl) w.heap.size 89 i0k (.agg #[.int .i64 0, .string ⟨#[]⟩]) 2 24 Try.underlying97 hik hz0k hz1k hz2k rfl (by omega) g1 k cap1 (xs.take (k * 2)) (by rfl) hown1 (behind gk ck (k + 1) 2) (n - (k + 1)) (ck - (k + 1)) (xs.drop ((k + 1) * 2)) (by rfl) (by rw [List.length_drop, HOWN.out.1]; omega) (behind_cells' HOWN.out (by omega) ((hgrow1.block gk (by simp; omega) (by simp; omega)).trans (Below.heap_alloc _ _ _ lg))) (fun u hu => H1C.out u (List.mem_of_mem_drop hu)) (n - 1) (by omega) (xs.take (k * 2) ++ xs.drop ((k + 1) * 2)) rfl (by unfold maxLen; omega) (by omega) (by have := hgrow1.size; simp at this; omega) w1.heap.size rfl ?_; intro g2 cap2 w2 hown2 hgrow2 hat2 hlt2; have c2' : w2.cell? ⟨q, 1, none⟩ = some (.slice (some ⟨gk, 0, none⟩) n ck) := (World.cell?_of_block (hgrow2.block q (by have := hgrow1.size; simp at this; omega) (by simp; omega))).trans c1'; have f2' : w2.frozen? ⟨q, 1, none⟩ = false := (World.frozen?_of_block (hgrow2.block q (by have := hgrow1.size; simp at this; omega) (by simp; omega))).trans ((World.frozen?_of_block (hgrow1.block q (by simp; omega) (by simp; omega))).trans ((World.frozen?_of_block (Below.heap_alloc w _ q lq)).trans fq1))))
    all_goals
      go_wp2_with fail
      go_meet
      exact cut_post c1 hgrow1 hgrow2 hat1 hat2 hown2
  case rest =>
    obtain ⟨gn, capn, d1, hownn, hgn, hgl, hch, hcl, hfl⟩ := id hcut
    have P1 := Lib.hid hcut
    clear c1 fq1 s1k s2k
    have c2 : wc.cell? ⟨q, 2, none⟩ = some (.slice (some ⟨gv, 0, none⟩) n cv) := (hcl 2 (by omega)).trans C2.out
    have fq2 : wc.frozen? ⟨q, 2, none⟩ = false := (hfl 2).trans (FQ.out 2)
    have hownv : wc.ownsRow 0 3 1 (.slice (some ⟨gv, 0, none⟩) n cv) n ys := owned_kept HOWNV.out (fun b hb => by cases hb; exact hch.block gv lv hqv)
    have lqc : q < wc.heap.size := Nat.lt_of_lt_of_le lq hch.size
    have lvc : gv < wc.heap.size := Nat.lt_of_lt_of_le lv hch.size
    obtain ⟨i0v, hiv, hz0v, hz1v, hz2v⟩ := info_parts infoI
    have hcapv := owned_cap hownv
    have s1v : ∀ w, (Instr.slice 38 (.slice (some ⟨gv, 0, none⟩) n cv) none (some (.int .i64 k)) none).run Try.prog w = .ok (.slice (some ⟨gv, 0, none⟩) k cv) w := slice_low Try.underlying38 hiv (by omega)
    have s2v : ∀ w, (Instr.slice 38 (.slice (some ⟨gv, 0, none⟩) n cv) (some (.int .i64 ((k : Int) + 1))) none none).run Try.prog w = .ok (.slice (some (behind gv cv (k + 1) 1)) (n - (k + 1)) (cv - (k + 1))) w := slice_high (k := k + 1) Try.underlying38 hiv hz1v (by omega)
    have HOWNVC := Lib.hid hownv
    clear hcut hcl hfl hownn d1 hownv hch
    go_wp2_with fail
    go_region_law (first | (refine step_append_at (by rfl) (.tmp 24) (.tmp 30) 38 (by rfl) wc.heap.size 3 i0v (.int .i64 0) 1 8 Try.underlying38 hiv hz0v hz1v hz2v rfl (by omega) wc.heap.size 0 0 [] (by rfl) (owns_none wc 3 1) ⟨gv, 0, none⟩ k cv (ys.take (k * 1)) (by rfl) (by rw [List.length_take, HOWNVC.out.1]; omega) (ahead_cells HOWNVC.out (k * 1) (Below.heap_alloc _ _ _ lvc)) (fun u hu => H1V.out u (List.mem_of_mem_take hu)) k (by omega) (ys.take (k * 1)) rfl (by unfold maxLen; omega) (by omega) (by simp) (wc.heap.size + 1) (by simp) ?_; intro g1 cap1 w1 hown1 hgrow1 hat1 hlt1; have c1' : w1.cell? ⟨q, 2, none⟩ = some (.slice (some ⟨gv, 0, none⟩) n cv) := (World.cell?_of_block (hgrow1.block q (by simp; omega) (by simp; omega))).trans ((World.cell?_of_block (Below.heap_alloc wc _ q lqc)).trans c2)) | (refine step_append_at (by rfl) (.tmp 31) (.tmp 38) 38 (by rfl) wc.heap.size 3 i0v (.int .i64 0) 1 8 Try.underlying38 hiv hz0v hz1v hz2v rfl (by omega) g1 k cap1 (ys.take (k * 1)) (by rfl) hown1 (behind gv cv (k + 1) 1) (n - (k + 1)) (cv - (k + 1)) (ys.drop ((k + 1) * 1)) (by rfl) (by rw [List.length_drop, HOWNVC.out.1]; omega) (behind_cells' HOWNVC.out (by omega) ((hgrow1.block gv (by simp; omega) (by simp; omega)).trans (Below.heap_alloc _ _ _ lvc))) (fun u hu => H1V.out u (List.mem_of_mem_drop hu)) (n - 1) (by omega) (ys.take (k * 1) ++ ys.drop ((k + 1) * 1)) rfl (by unfold maxLen; omega) (by omega) (by have := hgrow1.size; simp at this; omega) w1.heap.size rfl ?_; intro g2 cap2 w2 hown2 hgrow2 hat2 hlt2; have c2' : w2.cell? ⟨q, 2, none⟩ = some (.slice (some ⟨gv, 0, none⟩) n cv) := (World.cell?_of_block (hgrow2.block q (by have := hgrow1.size; simp at this; omega) (by simp; omega))).trans c1'; have f2' : w2.frozen? ⟨q, 2, none⟩ = false := (World.frozen?_of_block (hgrow2.block q (by have := hgrow1.size; simp at this; omega) (by simp; omega))).trans ((World.frozen?_of_block (hgrow1.block q (by simp; omega) (by simp; omega))).trans ((World.frozen?_of_block (Below.heap_alloc wc _ q lqc)).trans fq2))))
    all_goals
      go_end0
      exact ⟨rfl, wc, P1.out, cut_post c2 hgrow1 hgrow2 hat1 hat2 hown2⟩

end Go.Proofs.Ytnnaidladcdbdaa
