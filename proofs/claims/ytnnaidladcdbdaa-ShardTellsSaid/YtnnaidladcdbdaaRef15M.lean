/- The reference of chapter 15: forget. -/
import Derived.Test.YtnnaidladcdbdaaRef15L
namespace Go.Proofs.Ytnnaidladcdbdaa
open Go.RowKit Go.ChangeMaps
open KZ (KK)

/-- The reference with its flights as told. -/
def FLs (w : World) (G : Nat → Prop) (q : Nat) (room : Int) (vk vv : Value) (ks : List PK) (vs : List Int) (tl : List (PK × Int × List Int)) (rs : List (Int × Int × Int)) (wr : World) : Prop :=
  ∃ G' vf vr fs', R15 wr G' q room vk vv vf vr ks vs fs' rs ∧ fs'.map FR.told = tl ∧ (∀ b, G' b → fresh15 G w wr b) ∧ Ch G w wr

variable {w w' : World} {G : Nat → Prop} {q : Nat} {room : Int} {vk vv : Value} {ks : List PK} {vs : List Int} {tl : List (PK × Int × List Int)} {rs : List (Int × Int × Int)}

theorem KZ.cell_one15 (w : World) (a : Value) (t : TypeId) : ∀ j u, [a][j]? = some u → (w.alloc (.cells #[a] t)).cell? ((⟨w.heap.size, 0, none⟩ : Addr).add j) = some u := by
  intro j u hj
  match j, hj with
  | 0, hj => simp at hj; subst hj; simp [Addr.add]

theorem KZ.cell_three15 (w : World) (a b c : Value) (t : TypeId) : ∀ j u, [a, b, c][j]? = some u → (w.alloc (.cells #[a, b, c] t)).cell? ((⟨w.heap.size, 0, none⟩ : Addr).add j) = some u := by
  intro j u hj
  match j, hj with
  | 0, hj => simp at hj; subst hj; simp [Addr.add]
  | 1, hj => simp at hj; subst hj; simp [Addr.add]
  | 2, hj => simp at hj; subst hj; simp [Addr.add]

set_option maxRecDepth 100000 in
set_option maxHeartbeats 4000000 in
theorem forget_a (hlt : ∀ b, G b → b < w.heap.size) (h : FLs w G q room vk vv ks vs tl rs w) (i : Int) (hn : tl.length ≤ 1000) (hw : ∀ x ∈ tl, x.2.2.length ≤ 1000) (hrs : rs.length ≤ 10000) :
    Calls Try.prog 70 #[.pointer (some ⟨q, 0, none⟩), .int .i64 i] w fun e w' => e = .returned (.tuple #[]) ∧ FLs w G q room vk vv ks vs (tl.map fun x => (x.1, x.2.1, x.2.2.filter (· ≠ i))) (rs.filter fun x => decide (x.1 ≠ i)) w' := by
  have HLT := Lib.hid hlt
  have H := Lib.hid h
  have HW := Lib.hid hw
  clear hlt h hw
  obtain ⟨N, hN⟩ : ∃ N, tl.length = N := ⟨_, rfl⟩
  have HN := Lib.hid hN
  rw [hN] at hn
  clear hN
  go_enter Try.func70, Try.ntmps70
  go_upto_block 0 with fail
  go_cut [4] (fun _ wx => FLs w G q room vk vv ks vs (tl.map fun x => (x.1, x.2.1, x.2.2.filter (· ≠ i))) rs wx)
  case first =>
    go_wp2_with fail
    go_loopw [4] (fun x wr => ∃ m : Nat, x = .int .i64 m ∧ m ≤ N ∧ FLs w G q room vk vv ks vs (cutW i m tl) rs wr) (fun x _ => N - (intOf x).toNat)
    case atStart => exact ⟨0, rfl, by omega, by rw [cutW_zero]; exact H.out⟩
    case round =>
      obtain ⟨m, rfl, hm, h1⟩ := hrel
      obtain ⟨w1, hw1⟩ : ∃ x, x = wr := ⟨_, rfl⟩
      subst hw1
      obtain ⟨G1, vf, vr, fs, hr, ht, hG1, hc1⟩ := h1
      have hlen : fs.length = N := by have := congrArg List.length ht; simp only [List.length_map] at this; rw [this, ← HN.out]; unfold cutW; simp; have := HN.out; omega
      have hq3 := hr.c3
      by_cases hlt : m < N
      · obtain ⟨f, hf⟩ : ∃ f, fs[m]? = some f := ⟨_, List.getElem?_eq_getElem (by omega)⟩
        obtain ⟨g, cf, aw, cw, rfl, hfv, hlead, hcell, hfz, hws⟩ := hr.flyAt hf
        have htm : tl[m]? = some f.told := by rw [← cutW_at (i := i) (by rw [HN.out]; exact hlt), ← ht, List.getElem?_map, hf]; rfl
        have hM : f.ws.length ≤ 1000 := HW.out f.told (List.mem_of_getElem? htm)
        obtain ⟨M, hMe⟩ : ∃ M, f.ws.length = M := ⟨_, rfl⟩
        rw [hMe] at hcell hM
        rw [hlen] at hq3
        have i1 : (m : Int) < (N : Int) := by omega
        have HR := Lib.hid hr
        have HT := Lib.hid ht
        have HG1 := Lib.hid hG1
        have HC1 := Lib.hid hc1
        have HF := Lib.hid hf
        have HWS := Lib.hid hws
        have HTM := Lib.hid htm
        have HME := Lib.hid hMe
        have HLEN := Lib.hid hlen
        have hql := hr.lt q hr.gq
        have hgl : g < w1.heap.size := cell15_lt hlead
        have hown0 : (w1.alloc (.cells #[] 3)).ownsRow w1.heap.size 3 1 (.slice (some ⟨w1.heap.size, 0, none⟩) 0 0) 0 [] := owns_none w1 3 1
        obtain ⟨i0, hi, hz0, hz1, hz2⟩ := info_parts infoI
        have CQ := Lib.hid hq3
        have CF := Lib.hid hcell
        have CZ := Lib.hid hfz
        clear hr ht hG1 hc1 hf hws htm hMe hlen hlead
        go_wp2_with fail
        go_loopw [5, 6] (fun v y wr => ∃ (j n : Nat), y = .int .i64 j ∧ j ≤ M ∧ n = ((f.ws.take j).filter (· ≠ i)).length ∧ wr.ownsRow w1.heap.size 3 1 v n (((f.ws.take j).filter (· ≠ i)).map (.int .i64)) ∧ Below w1.heap.size w1 wr ∧ w1.heap.size < wr.heap.size) (fun _ y _ => M - (intOf y).toNat)
        case atStart => exact ⟨0, 0, rfl, by omega, by simp, by simpa using hown0, (Below.refl _ _).alloc (Nat.le_refl _) _, by simp⟩
        case round =>
          obtain ⟨j, n, rfl, hj, hne, hown, hbj, hsz⟩ := hrel
          have c1 : wr.cell? ⟨q, 3, none⟩ = some (.slice (some ⟨g, 0, none⟩) N cf) := (hbj.cell (p := ⟨q, 3, none⟩) hql).trans CQ.out
          have c2 : wr.cell? ⟨g, m * 4 + 3, none⟩ = some (.slice aw M cw) := (hbj.cell (p := ⟨g, m * 4 + 3, none⟩) hgl).trans CF.out
          clear hown0 hq3 hcell hfz
          by_cases hjl : j < M
          · obtain ⟨y, hy⟩ : ∃ y, f.ws[j]? = some y := ⟨_, List.getElem?_eq_getElem (by rw [HME.out]; exact hjl)⟩
            obtain ⟨gw, haw, cy⟩ := HWS.out j y hy
            subst haw
            have cy' : wr.cell? ⟨gw, j, none⟩ = some (.int .i64 y) := (hbj.cell (p := ⟨gw, j, none⟩) (cell15_lt cy)).trans cy
            have i2 : (j : Int) < (M : Int) := by omega
            have HY := Lib.hid hy
            have HB := Lib.hid hbj
            have HO := Lib.hid hown
            have HNE := Lib.hid hne
            have htk : f.ws.take (j + 1) = f.ws.take j ++ [y] := by obtain ⟨hl, e⟩ := List.getElem?_eq_some_iff.1 hy; rw [List.take_succ_eq_append_getElem hl, e]
            have HTK := Lib.hid htk
            have hnl : n ≤ 1000 := by rw [hne]; exact Nat.le_trans (List.length_filter_le _ _) (by rw [List.length_take, HME.out]; omega)
            clear hy cy hbj hne htk
            by_cases hyi : y = i
            · have hb : (y != i) = false := by simp [hyi]
              have HYI := Lib.hid hyi
              clear hyi hown
              go_wp2
              go_roundw
              case rel =>
                refine ⟨j + 1, n, by go_num, by omega, ?_, ?_, HB.out, hsz⟩
                · rw [HTK.out, List.filter_append, List.filter_cons_of_neg (by simp [HYI.out]), List.filter_nil, List.append_nil]; exact HNE.out
                · rw [HTK.out, List.filter_append, List.filter_cons_of_neg (by simp [HYI.out]), List.filter_nil, List.append_nil]; exact HO.out
              case measure => simp [intOf]; omega
            · have hb : (y != i) = true := by simpa using hyi
              have HYI := Lib.hid hyi
              clear hyi
              go_wp2_with (at_builtin; refine wpList_append_lies _ (by rfl) (.tmp 45) (.tmp 57) 38 (by rfl) w1.heap.size 3 i0 (.int .i64 0) 1 8 Try.underlying38 hi hz0 hz1 hz2 (by rfl) (by omega) u5 n (((f.ws.take j).filter (· ≠ i)).map (.int .i64)) (by rfl) (hown.alloc _) ⟨wr.heap.size, 0, none⟩ 1 1 [.int .i64 y] (by rfl) (by rfl) (KZ.cell_one15 _ _ _) (by simp [Value.oneCell']) (by omega) (by unfold maxLen; omega) (by omega) (by simp; omega) (wr.heap.size + 1) (by simp) ?_; intro g2 cap2 w2 hown2 hg2 hat2 hlt2)
              have hbl := HB.out
              have hb2 : Below w1.heap.size w1 w2 := (hbl.alloc hbl.size _).grown hg2 (by have := hbl.size; simp; omega) (fun b hb => (HO.out.lt b hb).1)
              refine ⟨⟨j + 1, n + 1, by go_num, by omega, ?_, ?_, hb2, by have := hg2.size; simp at this; omega⟩, by simp [intOf]; omega⟩
              · rw [HTK.out, List.filter_append, List.filter_cons_of_pos (by simpa using HYI.out), List.filter_nil, List.length_append, ← HNE.out]; rfl
              · rw [HTK.out, List.filter_append, List.filter_cons_of_pos (by simpa using HYI.out), List.filter_nil, List.map_append]; exact hown2
          · obtain rfl : j = M := by omega
            have hfull : f.ws.take j = f.ws := List.take_of_length_le (by rw [HME.out]; exact Nat.le_refl _)
            rw [hfull] at hne hown
            obtain ⟨ao5, cap5, hu5, -⟩ := own_shape3 hown
            subst hu5
            have hrr := HR.out.kept (Ch.of_none hbj (fun _ => False)) (fun _ _ h => h)
            have hnew : ∀ b, (Value.slice ao5 n cap5).ownBlock = some b → ¬ G1 b := fun b hb hg => by have := (hown.lt b hb).1; have := HR.out.lt b hg; omega
            have hsw := hrr.setWaits (ws := f.ws.filter (· ≠ i)) HF.out (by rw [← hne]; exact ⟨hown.1, hown.2.imp id (fun ⟨g, cap, cur, a, _, r⟩ => ⟨g, cap, cur, a, Nat.zero_le _, r⟩)⟩) hnew
            have hz : wr.frozen? ⟨g, m * 4 + 3, none⟩ = false := ((Ch.of_none hbj (fun _ => False)).frozen (p := ⟨g, m * 4 + 3, none⟩) hgl (fun h => h)).trans CZ.out
            have HS := Lib.hid hsw
            have HBJ := Lib.hid hbj
            have HOW := Lib.hid hown
            clear hsw hown hrr hnew hbj hfull hne
            go_wp2
            go_roundw
            case rel =>
              have s1 := HC1.out.size
              have s2 := HBJ.out.size
              refine ⟨m + 1, by go_num, by omega, _, _, vr, _, HS.out.1, ?_, fun b hb => ?_, (HC1.out.trans (Ch.of_none HBJ.out (fun _ => False)) (fun _ _ h => h.elim)).trans HS.out.2 (fun b hb hg => ?_)⟩
              · rw [cutW_succ HTM.out, List.map_set, HT.out]
              · show G b ∨ (w.heap.size ≤ b ∧ b < (wr.setCell _ _).heap.size)
                rw [World.size_setCell]
                rcases hb with hb | hb
                · rcases HG1.out b hb with h | h
                  · exact Or.inl h
                  · exact Or.inr ⟨h.1, by omega⟩
                · exact Or.inr ⟨by have := (HOW.out.lt b hb).1; omega, (HOW.out.lt b hb).2⟩
              · rcases HG1.out b hg with h | h
                · exact h
                · omega
            case measure => simp [intOf]; omega
      · obtain rfl : m = N := by omega
        obtain ⟨ao, cap, hv, -⟩ : ∃ ao cap, vf = .slice ao fs.length cap ∧ True := by
          obtain ⟨ao, cap, hv, _⟩ := own_shape3 (hr.rows.1 (frowV vf fs) (by simp)).1
          exact ⟨ao, cap, hv, trivial⟩
        rw [hv, hlen] at hq3
        have HF := Lib.hid (show FLs w G q room vk vv ks vs (tl.map fun x => (x.1, x.2.1, x.2.2.filter (· ≠ i))) rs w1 from ⟨G1, vf, vr, fs, hr, by rw [ht, ← HN.out, cutW_all], hG1, hc1⟩)
        clear hr ht hG1 hc1 hv hlen
        go_wp2_with fail
        all_goals
          go_meet
          exact HF.out
  case rest =>
    obtain ⟨w1, hw1⟩ : ∃ x, x = wc := ⟨_, rfl⟩
    subst hw1
    obtain ⟨G1, vf, vr, fs, hr, ht, hG1, hc1⟩ := hcut
    obtain ⟨ao, cap, hv, hcr⟩ : ∃ ao cap, vr = .slice ao rs.length cap ∧ (0 < rs.length → ∃ g, ao = some ⟨g, 0, none⟩ ∧ ∀ j, j < rs.length * 3 → w1.cell? ⟨g, j, none⟩ = (rrow rs)[j]?) := own_shape3 (hr.rows.1 (rrowV vr rs) (by simp)).1
    have hq4 := hr.c4
    rw [hv] at hq4
    obtain ⟨M, hM⟩ : ∃ M, rs.length = M := ⟨_, rfl⟩
    rw [hM] at hq4 hcr
    have hM1 : M ≤ 10000 := by rw [← hM]; exact hrs
    have hrow : ∀ j, j < M → ∃ (x : Int × Int × Int) (g : Nat), rs[j]? = some x ∧ ao = some ⟨g, 0, none⟩ ∧ w1.cell? ⟨g, j * 3, none⟩ = some (.int .i64 x.1) ∧ w1.cell? ⟨g, j * 3 + 1, none⟩ = some (.int .i64 x.2.1) ∧ w1.cell? ⟨g, j * 3 + 2, none⟩ = some (.int .i64 x.2.2) := fun j hj => by
      obtain ⟨x, hx⟩ : ∃ x, rs[j]? = some x := ⟨_, List.getElem?_eq_getElem (by rw [hM]; exact hj)⟩
      obtain ⟨h1, h2, h3⟩ := rrow_at _ j x hx
      obtain ⟨g, hg, hgc⟩ := hcr (by omega)
      exact ⟨x, g, hx, hg, (hgc (j * 3) (by omega)).trans h1, (hgc (j * 3 + 1) (by omega)).trans h2, (hgc (j * 3 + 2) (by omega)).trans h3⟩
    have HROW := Lib.hid hrow
    have HR := Lib.hid hr
    have HT := Lib.hid ht
    have HG1 := Lib.hid hG1
    have HC1 := Lib.hid hc1
    have HM := Lib.hid hM
    have CQ := Lib.hid hq4
    have hql := hr.lt q hr.gq
    have hown0 : (w1.alloc (.cells #[] 148)).ownsRow w1.heap.size 148 3 (.slice (some ⟨w1.heap.size, 0, none⟩) 0 0) 0 [] := owns_none w1 148 3
    obtain ⟨i0, hi, hz0, hz1, hz2⟩ := info_parts info148
    clear hr ht hG1 hc1 hv hcr hrow hM hq4
    go_wp2_with fail
    go_loopw [7, 8] (fun v y wr => ∃ (j n g cap : Nat), y = .int .i64 j ∧ j ≤ M ∧ v = .slice (some ⟨g, 0, none⟩) n cap ∧ n = ((rs.take j).filter fun x => decide (x.1 ≠ i)).length ∧ wr.ownsRow w1.heap.size 148 3 (.slice (some ⟨g, 0, none⟩) n cap) n (rrow ((rs.take j).filter fun x => decide (x.1 ≠ i))) ∧ Below w1.heap.size w1 wr ∧ w1.heap.size < wr.heap.size) (fun _ y _ => M - (intOf y).toNat)
    case atStart => exact ⟨0, 0, w1.heap.size, 0, rfl, by omega, rfl, by simp, by simpa [rrow] using hown0, (Below.refl _ _).alloc (Nat.le_refl _) _, by simp⟩
    case round =>
      obtain ⟨j, n, g, cap, rfl, hj, rfl, hne, hown, hbj, hsz⟩ := hrel
      have c1 : wr.cell? ⟨q, 4, none⟩ = some (.slice ao M _) := (hbj.cell (p := ⟨q, 4, none⟩) hql).trans CQ.out
      clear hown0
      have HB := Lib.hid hbj
      have HO := Lib.hid hown
      have HNE := Lib.hid hne
      have hnl : n ≤ 10000 := by rw [hne]; exact Nat.le_trans (List.length_filter_le _ _) (by rw [List.length_take, HM.out]; omega)
      by_cases hjl : j < M
      · obtain ⟨x, g0, hx, hao, e0, e1, e2⟩ := HROW.out j hjl
        subst hao
        have f0 : wr.cell? ⟨g0, j * 3, none⟩ = some (.int .i64 x.1) := (hbj.cell (p := ⟨g0, j * 3, none⟩) (cell15_lt e0)).trans e0
        have f1 : wr.cell? ⟨g0, j * 3 + 1, none⟩ = some (.int .i64 x.2.1) := (hbj.cell (p := ⟨g0, j * 3 + 1, none⟩) (cell15_lt e1)).trans e1
        have f2 : wr.cell? ⟨g0, j * 3 + 2, none⟩ = some (.int .i64 x.2.2) := (hbj.cell (p := ⟨g0, j * 3 + 2, none⟩) (cell15_lt e2)).trans e2
        have i2 : (j : Int) < (M : Int) := by omega
        have HTK := Lib.hid (show rs.take (j + 1) = rs.take j ++ [x] by obtain ⟨hl, e⟩ := List.getElem?_eq_some_iff.1 hx; rw [List.take_succ_eq_append_getElem hl, e])
        clear hx e0 e1 e2 hbj hne
        by_cases hyi : x.1 = i
        · have hb : (x.1 != i) = false := by simp [hyi]
          have HYI := Lib.hid hyi
          clear hyi hown
          go_wp2
          go_roundw
          case rel =>
            refine ⟨j + 1, n, g, cap, by go_num, by omega, rfl, ?_, ?_, HB.out, hsz⟩
            · rw [HTK.out, List.filter_append, List.filter_cons_of_neg (by simp [HYI.out]), List.filter_nil, List.append_nil]; exact HNE.out
            · rw [HTK.out, List.filter_append, List.filter_cons_of_neg (by simp [HYI.out]), List.filter_nil, List.append_nil]; exact HO.out
          case measure => simp [intOf]; omega
        · have hb : (x.1 != i) = true := by simpa using hyi
          have HYI := Lib.hid hyi
          clear hyi
          go_wp2_with (at_builtin; refine wpList_append_lies _ (by rfl) (.tmp 87) (.tmp 95) 99 (by rfl) w1.heap.size 148 i0 (.agg #[.int .i64 0, .int .i64 0, .int .i64 0]) 3 24 Try.underlying99 hi hz0 hz1 hz2 (by rfl) (by omega) (.slice (some ⟨g, 0, none⟩) n cap) n (rrow ((rs.take j).filter fun x => decide (x.1 ≠ i))) (by rfl) (hown.alloc _) ⟨wr.heap.size, 0, none⟩ 1 1 [.int .i64 x.1, .int .i64 x.2.1, .int .i64 x.2.2] (by rfl) (by rfl) (KZ.cell_three15 _ _ _ _ _) (by simp [Value.oneCell']) (by omega) (by unfold maxLen; omega) (by omega) (by simp; omega) (wr.heap.size + 1) (by simp) ?_; intro g2 cap2 w2 hown2 hg2 hat2 hlt2)
          have hbl := HB.out
          have hb2 : Below w1.heap.size w1 w2 := (hbl.alloc hbl.size _).grown hg2 (by have := hbl.size; simp; omega) (fun b hb => (HO.out.lt b hb).1)
          refine ⟨⟨j + 1, n + 1, g2, cap2, by go_num, by omega, rfl, ?_, ?_, hb2, by have := hg2.size; simp at this; omega⟩, by simp [intOf]; omega⟩
          · rw [HTK.out, List.filter_append, List.filter_cons_of_pos (by simpa using HYI.out), List.filter_nil, List.length_append, ← HNE.out]; rfl
          · rw [HTK.out, List.filter_append, List.filter_cons_of_pos (by simpa using HYI.out), List.filter_nil, rrow_append]; exact hown2
      · obtain rfl : j = M := by omega
        have hfull : rs.take j = rs := List.take_of_length_le (by rw [HM.out]; exact Nat.le_refl _)
        rw [hfull] at hne hown
        have fz : wr.frozen? ⟨q, 4, none⟩ = false := ((Ch.of_none hbj (fun _ => False)).frozen (p := ⟨q, 4, none⟩) hql (fun h => h)).trans (HR.out.fz 4)
        have hgq : g ≠ q := by have := (hown.lt g rfl).1; omega
        have hch : Ch (fun b => b = q) w1 (wr.setCell ⟨q, 4, none⟩ (.slice (some ⟨g, 0, none⟩) n cap)) := (Ch.of_none hbj (fun b => b = q)).setCell (p := ⟨q, 4, none⟩) (fun _ => rfl) _
        have hcut : CutPost q 4 148 3 (rs.filter fun x => decide (x.1 ≠ i)).length (rrow (rs.filter fun x => decide (x.1 ≠ i))) w1 (wr.setCell ⟨q, 4, none⟩ (.slice (some ⟨g, 0, none⟩) n cap)) := by
          rw [← hne]
          refine ⟨g, cap, World.cell?_setCell_same _ _ _ c1, owned_kept ⟨hown.1, hown.2.imp id (fun ⟨g, cap, cur, a, _, r⟩ => ⟨g, cap, cur, a, Nat.zero_le _, r⟩)⟩ (fun b hb => by cases hb; exact Below.heap_setCell _ _ _ _ hgq), (hown.lt g rfl).1, by rw [World.size_setCell]; exact (hown.lt g rfl).2, hch, fun o ho => ?_, fun o => ?_⟩
          · rw [World.cell?_setCell_other _ _ _ _ (by intro e; injection e with _ e; exact ho e.symm)]
            exact hbj.cell (p := ⟨q, o, none⟩) hql
          · rw [World.frozen?_setCell]
            exact (Ch.of_none hbj (fun _ => False)).frozen (p := ⟨q, o, none⟩) hql (fun h => h)
        obtain ⟨vr', h5, hc5⟩ := HR.out.newRes hcut
        have HF := Lib.hid (show FLs w G q room vk vv ks vs (tl.map fun x => (x.1, x.2.1, x.2.2.filter (· ≠ i))) (rs.filter fun x => decide (x.1 ≠ i)) (wr.setCell ⟨q, 4, none⟩ (.slice (some ⟨g, 0, none⟩) n cap)) from by
          have s1 := HC1.out.size
          have s2 := hc5.size
          refine ⟨_, _, vr', _, h5, HT.out, fun b hb => ?_, HC1.out.trans hc5 (fun b hb e => ?_)⟩
          · rcases hb with hb | hb
            · rcases HG1.out b hb with h | h
              · exact Or.inl h
              · exact Or.inr ⟨h.1, by omega⟩
            · exact Or.inr ⟨by omega, hb.2⟩
          · rcases HG1.out q HR.out.gq with h | h
            · rw [e]; exact h
            · omega)
        clear hcut h5 hc5 hch hown hne hfull hbj
        go_wp2
        go_end0
        exact ⟨rfl, HF.out⟩

end Go.Proofs.Ytnnaidladcdbdaa
