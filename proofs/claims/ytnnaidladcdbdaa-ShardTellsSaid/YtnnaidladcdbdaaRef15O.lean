/- The reference of chapter 15: Begin, the key is not complete. -/
import Derived.Test.YtnnaidladcdbdaaRef15N
namespace Go.Proofs.Ytnnaidladcdbdaa
open Go.RowKit Go.ChangeMaps
open KZ (KK)

theorem KZ.cell_four15 (w : World) (a b c d : Value) (t : TypeId) : ∀ j u, [a, b, c, d][j]? = some u → (w.alloc (.cells #[a, b, c, d] t)).cell? ((⟨w.heap.size, 0, none⟩ : Addr).add j) = some u := by
  intro j u hj
  match j, hj with
  | 0, hj => simp at hj; subst hj; simp [Addr.add]
  | 1, hj => simp at hj; subst hj; simp [Addr.add]
  | 2, hj => simp at hj; subst hj; simp [Addr.add]
  | 3, hj => simp at hj; subst hj; simp [Addr.add]
theorem info146 : (Try.prog.info? 146).map (fun i => (i.zero, i.size, i.bytes)) = some (some (.agg #[.int .i64 0, .string ⟨#[]⟩, .int .i64 0, .slice none 0 0]), 4, 56) := by kernel_rfl

variable {w w' : World} {G : Nat → Prop} {q : Nat} {room : Int} {l : List (PK × Int)} {tl : List (PK × Int × List Int)} {rs : List (Int × Int × Int)}

set_option maxRecDepth 100000 in
set_option maxHeartbeats 4000000 in
theorem begin_lead15 (h : TL w G q room l tl rs) (i : Int) (k : PK) (hn : l.length ≤ 1000) (ht : tl.length ≤ 1000) (hw : ∀ x ∈ tl, x.2.2.length ≤ 1000) (hrs : rs.length ≤ 10000) (hk : has l k = false) (hf : ∀ y ∈ tl, y.1 ≠ k) :
    Calls Try.prog 48 #[.pointer (some ⟨q, 0, none⟩), .int .i64 i, KK k] w fun e w' => e = .returned (.tuple #[.int .i64 0, .int .i64 2]) ∧ TLs w G q room l (fgT i tl ++ [(k, i, [])]) (fgR i rs) w' := by
  obtain ⟨fs, hfs, vk, vv, vf, vr, h0⟩ := h
  have hkk : ∀ i, (w.alloc (.cells #[.int .i64 k.1, .string k.2] 89)).cell? ⟨w.heap.size, i, none⟩ = #[Value.int .i64 k.1, .string k.2][i]? := fun i => World.cell?_alloc_new _ _ _ _
  have hk0 : (w.alloc (.cells #[.int .i64 k.1, .string k.2] 89)).cell? ⟨w.heap.size, 0, none⟩ = some (.int .i64 k.1) := by rw [hkk]; rfl
  have hk1 : (w.alloc (.cells #[.int .i64 k.1, .string k.2] 89)).cell? ⟨w.heap.size, 1, none⟩ = some (.string k.2) := by rw [hkk]; rfl
  have hb1 : Below w.heap.size w (w.alloc (.cells #[.int .i64 k.1, .string k.2] 89)) := (Below.refl _ _).alloc (Nat.le_refl _) _
  have h1 := h0.kept (Ch.of_none hb1 (fun _ => False)) (fun _ _ h => h)
  have F := Lib.hid (forget_a h1.lt ⟨G, vf, vr, fs, h1, hfs, fun b hb => Or.inl hb, Ch.refl _ _⟩ i ht hw hrs)
  have HLT := Lib.hid h0.lt
  have HK := Lib.hid hk
  have HF := Lib.hid hf
  have hsz : w.heap.size < (w.alloc (.cells #[.int .i64 k.1, .string k.2] 89)).heap.size := by simp
  clear hkk hk hf h0 h1 hfs hw hrs
  go_enter Try.func48, Try.ntmps48
  go_upto_region 1 with fail
  change Code.wp _ _ _ _ (w.alloc (.cells #[.int .i64 k.1, .string k.2] 89))
  revert hk0 hk1 hb1 F hsz
  generalize w.alloc (.cells #[.int .i64 k.1, .string k.2] 89) = w1
  intro hk0 hk1 hb1 F hsz
  go_wp2_with fail
  refine F.out.mono ?_
  rintro e w2 ⟨rfl, G2, vf2, vr2, fs2, h2, ht2, hG2, hc2⟩
  have hbox : ¬ G w.heap.size := fun e => by have := HLT.out _ e; omega
  have hk0 := (hc2.cell (p := ⟨w.heap.size, 0, none⟩) hsz hbox).trans hk0
  have hk1 := (hc2.cell (p := ⟨w.heap.size, 1, none⟩) hsz hbox).trans hk1
  have HC2 := Lib.hid hc2
  have HG2 := Lib.hid hG2
  have HT2 := Lib.hid ht2
  have hbox2 : ¬ G2 w.heap.size := fun e => (hG2 _ e).elim hbox (fun e => by omega)
  have hsz2 := Nat.lt_of_lt_of_le hsz hc2.size
  have F2 := Lib.hid (rl_find_miss ⟨vk, vv, vf2, vr2, h2⟩ k hn HK.out)
  have H2 := Lib.hid h2
  clear h2 ht2 hG2 hc2 hbox hsz
  go_wp2_with fail
  refine F2.out.mono ?_
  rintro e w3 ⟨rfl, hb3⟩
  have hk0 : w3.cell? ⟨w.heap.size, 0, none⟩ = _ := (hb3.cell (p := ⟨w.heap.size, 0, none⟩) hsz2).trans hk0
  have hk1 : w3.cell? ⟨w.heap.size, 1, none⟩ = _ := (hb3.cell (p := ⟨w.heap.size, 1, none⟩) hsz2).trans hk1
  have h3 := H2.out.kept (Ch.of_none hb3 (fun _ => False)) (fun _ _ h => h)
  have hsz3 := Nat.lt_of_lt_of_le hsz2 hb3.size
  have hfl : fs2.length = tl.length := by have := congrArg List.length HT2.out; simpa using this
  have FL := Lib.hid (r15_flies h3 k fs2.length (by omega) (Nat.le_refl _) (fun m hm y hy e => by
    have h5 : (fs2.map FR.told)[m]? = some y.told := by rw [List.getElem?_map, hy]; rfl
    rw [HT2.out, List.getElem?_map] at h5
    obtain ⟨z, hz, hze⟩ := Option.map_eq_some_iff.1 h5
    exact HF.out z (List.mem_of_getElem? hz) (by rw [← e]; exact congrArg Prod.fst hze)) (fun y hy => by have := (List.getElem?_eq_some_iff.1 hy).1; omega))
  rw [place15_ge (Nat.lt_irrefl _)] at FL
  have H3 := Lib.hid h3
  have HB3 := Lib.hid hb3
  clear h3 hb3
  go_wp2_with fail
  refine FL.out.mono ?_
  rintro e w4 ⟨rfl, hb4⟩
  have h4 := H3.out.kept (Ch.of_none hb4 (fun _ => False)) (fun _ _ h => h)
  have hk0 : w4.cell? ⟨w.heap.size, 0, none⟩ = _ := (hb4.cell (p := ⟨w.heap.size, 0, none⟩) hsz3).trans hk0
  have hk1 : w4.cell? ⟨w.heap.size, 1, none⟩ = _ := (hb4.cell (p := ⟨w.heap.size, 1, none⟩) hsz3).trans hk1
  have HB4 := Lib.hid hb4
  have HFL := Lib.hid hfl
  have hfn : fs2.length ≤ 1000 := by omega
  obtain ⟨i0, hi, hz0, hz1, hz2⟩ := info_parts info146
  have oF : w4.ownsRow 0 146 4 vf2 fs2.length (frow fs2) := (h4.rows.1 (frowV vf2 fs2) (by simp)).1
  have c3 := h4.c3
  have fq := h4.fz 3
  have H4 := Lib.hid h4
  have lq := h4.lt q h4.gq
  clear h4 hb4 hfl ht
  go_upto_region 13 with fail
  go_cut [73] (fun _ wx => ∃ g cap, R15 wx (fresh15 G2 w4 wx) q room vk vv (.slice (some ⟨g, 0, none⟩) (fs2.length + 1) cap) vr2 (l.map Prod.fst) (l.map Prod.snd) (fs2 ++ [⟨k, i, [], .slice none 0 0⟩]) (fgR i rs) ∧ Ch G2 w4 wx)
  case first =>
    go_region_law (refine step_append_lies _ (by rfl) (.tmp 77) (.tmp 81) 98 (by rfl) 0 146 i0 (.agg #[.int .i64 0, .string ⟨#[]⟩, .int .i64 0, .slice none 0 0]) 4 56 Try.underlying98 hi hz0 hz1 hz2 rfl (by omega) vf2 fs2.length (frow fs2) (by rfl) (oF.alloc _) ⟨w4.heap.size, 0, none⟩ 1 1 [.int .i64 k.1, .string k.2, .int .i64 i, .slice none 0 0] (by rfl) (by rfl) (KZ.cell_four15 _ _ _ _ _ _) (by simp [Value.oneCell']) (by omega) (by unfold maxLen; omega) (by omega) (Nat.zero_le _) (w4.heap.size + 1) (by simp) ?_; intro g cap w5 hown hgrow hat hlt; obtain ⟨c5, f5, h5, hc5⟩ := H4.out.pushFly k i (grown_of_drew hgrow) hown hat hlt)
    all_goals
      go_wp2_with fail
      go_meet
      exact ⟨g, cap, by rw [fresh15_set]; exact h5, hc5⟩
  case rest =>
    obtain ⟨g5, cap5, h5, hc5⟩ := hcut
    have H5 := Lib.hid h5
    have HC5 := Lib.hid hc5
    clear h5 hc5
    go_wp2
    go_ret2
    have S1 : St15 G w G w1 := St15.start.below hb1
    have S2 := S1.step HG2.out HC2.out
    have S4 := (S2.below HB3.out).below HB4.out
    have S5 := S4.step (fun b hb => hb) HC5.out
    have h7 := H5.out.more S5.1 (fun b hb => hb.elim (fun hb => Nat.lt_of_lt_of_le (HLT.out b hb) S5.2.size) (fun hb => hb.2))
    exact ⟨rfl, ⟨_, by rw [List.map_append, HT2.out]; rfl, _, _, _, _, h7⟩, S5.2⟩

end Go.Proofs.Ytnnaidladcdbdaa
