/- The reference of chapter 15: End: the leader is done. -/
import Derived.Test.YtnnaidladcdbdaaRef15Q
namespace Go.Proofs.Ytnnaidladcdbdaa
open Go.RowKit Go.ChangeMaps
open KZ (KK)

variable {w w' : World} {G : Nat → Prop} {q : Nat} {room : Int} {l : List (PK × Int)} {tl : List (PK × Int × List Int)} {rs : List (Int × Int × Int)}

/-- What is complete behind End. -/
def endL (room : Int) (l : List (PK × Int)) (k : PK) (z e : Int) : List (PK × Int) := if e = 0 then (if (l.length : Int) = room then l.eraseIdx 0 else l) ++ [(k, z)] else l

theorem St15.mono {G G' Ga : Nat → Prop} {w wa : World} (h : St15 G w Ga wa) (hG : ∀ b, G b → G' b) : St15 G' w Ga wa :=
  ⟨fun b hb => (h.1 b hb).imp (hG b) id, h.2.mono (fun b _ hb => hG b hb)⟩

set_option maxRecDepth 100000 in
set_option maxHeartbeats 8000000 in
theorem end_yes15 (h : TL w G q room l tl rs) (i : Int) (k : PK) (z e : Int) (ws : List Int) (m : Nat) (hn : l.length ≤ 1000) (ht : tl.length ≤ 1000) (hwl : ws.length ≤ 1000) (hrs : rs.length ≤ 5000) (hr1 : 1 ≤ room) (hm : tl[m]? = some (k, i, ws)) (hfi : ∀ j, j < m → ∀ y, tl[j]? = some y → y.1 ≠ k) (zz : Int) (le : List (PK × Int)) (hzz : (if e = 0 then z else 0) = zz) (hle : endL room l k z e = le) :
    Calls Try.prog 49 #[.pointer (some ⟨q, 0, none⟩), .int .i64 i, KK k, .int .i64 z, .int .i64 e] w fun x w' => x = .returned (.int .i64 0) ∧ TLs w G q room le (tl.eraseIdx m) (rs ++ ws.map fun j => (j, zz, e)) w' := by
  have HZZ := Lib.hid hzz
  have HLE := Lib.hid hle
  clear hzz hle
  obtain ⟨fs, hfs, vk, vv, vf, vr, h0⟩ := h
  have hkk : ∀ i, (w.alloc (.cells #[.int .i64 k.1, .string k.2] 89)).cell? ⟨w.heap.size, i, none⟩ = #[Value.int .i64 k.1, .string k.2][i]? := fun i => World.cell?_alloc_new _ _ _ _
  have hk0 : (w.alloc (.cells #[.int .i64 k.1, .string k.2] 89)).cell? ⟨w.heap.size, 0, none⟩ = some (.int .i64 k.1) := by rw [hkk]; rfl
  have hk1 : (w.alloc (.cells #[.int .i64 k.1, .string k.2] 89)).cell? ⟨w.heap.size, 1, none⟩ = some (.string k.2) := by rw [hkk]; rfl
  have hb1 : Below w.heap.size w (w.alloc (.cells #[.int .i64 k.1, .string k.2] 89)) := (Below.refl _ _).alloc (Nat.le_refl _) _
  have hsz : w.heap.size < (w.alloc (.cells #[.int .i64 k.1, .string k.2] 89)).heap.size := by simp
  have h1 := h0.kept (Ch.of_none hb1 (fun _ => False)) (fun _ _ h => h)
  have hfl : fs.length = tl.length := by have := congrArg List.length hfs; simpa using this
  have hml : m < tl.length := (List.getElem?_eq_some_iff.1 hm).1
  obtain ⟨f, hf⟩ : ∃ f, fs[m]? = some f := ⟨_, List.getElem?_eq_getElem (by omega)⟩
  have hft : f.told = (k, i, ws) := by
    have h5 : (fs.map FR.told)[m]? = some f.told := by rw [List.getElem?_map, hf]; rfl
    rw [hfs, hm] at h5
    exact (Option.some.inj h5).symm
  simp only [FR.told, Prod.mk.injEq] at hft
  obtain ⟨hfk, hfl', hfw⟩ := hft
  subst hfw
  have hlead : (f.lead != i) = false := by simp [hfl']
  have FL := Lib.hid (r15_flies h1 k m (by omega) (by omega) (fun a ha y hy e => hfi a ha y.told (by rw [← hfs, List.getElem?_map, hy]; rfl) e) (fun y hy => by rw [hf] at hy; cases hy; exact hfk))
  rw [place15_lt (by omega)] at FL
  have H1 := Lib.hid h1
  have HF := Lib.hid hf
  have HFS := Lib.hid hfs
  have HLT := Lib.hid h0.lt
  have hneg : decide ((m : Int) < 0) = false := decide_eq_false (by omega)
  obtain ⟨n, hN⟩ : ∃ N, fs.length = N := ⟨_, rfl⟩
  have i1 : (m : Int) < (n : Int) := by omega
  have hn' : n ≤ 1000 := by omega
  have HN := Lib.hid hN
  obtain ⟨M, hMe⟩ : ∃ M, f.ws.length = M := ⟨_, rfl⟩
  have HME := Lib.hid hMe
  rw [hMe] at hwl
  clear hkk h0 h1 hfs hfi hf hfk hfl' hm hN hMe ht hml hfl
  go_enter Try.func49, Try.ntmps49
  go_upto_region 1 with fail
  change Code.wp _ _ _ _ (w.alloc (.cells #[.int .i64 k.1, .string k.2] 89))
  revert hk0 hk1 hb1 hsz FL H1
  generalize w.alloc (.cells #[.int .i64 k.1, .string k.2] 89) = w1
  intro hk0 hk1 hb1 hsz FL H1
  go_wp2_with fail
  refine FL.out.mono ?_
  rintro x w2 ⟨rfl, hb2⟩
  have hk0 : w2.cell? ⟨w.heap.size, 0, none⟩ = _ := (hb2.cell (p := ⟨w.heap.size, 0, none⟩) hsz).trans hk0
  have hk1 : w2.cell? ⟨w.heap.size, 1, none⟩ = _ := (hb2.cell (p := ⟨w.heap.size, 1, none⟩) hsz).trans hk1
  have hsz2 := Nat.lt_of_lt_of_le hsz hb2.size
  have h2 := H1.out.kept (Ch.of_none hb2 (fun _ => False)) (fun _ _ h => h)
  obtain ⟨gk, ck, aw, cw, rfl, hfv, c2, c4, -, hws⟩ := h2.flyAt HF.out
  have c1 := h2.c3
  have hown := (h2.rows.1 (frowV (.slice (some ⟨gk, 0, none⟩) fs.length ck) fs) (by simp)).1
  simp only [HN.out] at hown
  rw [HN.out] at c1
  rw [HME.out] at c4
  have HB := Lib.hid (hb1.trans (hb2.mono hb1.size))
  have fq1 := h2.fz 3
  have lq : q < w2.heap.size := h2.lt q h2.gq
  have lg : gk < w2.heap.size := (hown.lt gk rfl).2
  have hcapk := owned_cap hown
  obtain ⟨i0k, hik, hz0k, hz1k, hz2k⟩ := info_parts info146
  have s1k : ∀ w, (Instr.slice 98 (.slice (some ⟨gk, 0, none⟩) n ck) none (some (.int .i64 m)) none).run Try.prog w = .ok (.slice (some ⟨gk, 0, none⟩) m ck) w := slice_low Try.underlying98 hik (by omega)
  have s2k : ∀ w, (Instr.slice 98 (.slice (some ⟨gk, 0, none⟩) n ck) (some (.int .i64 ((m : Int) + 1))) none none).run Try.prog w = .ok (.slice (some (behind gk ck (m + 1) 4)) (n - (m + 1)) (ck - (m + 1))) w := slice_high (k := m + 1) Try.underlying98 hik hz1k (by omega)
  have q1 : IntKind.i64.wrap ((m : Int) + 1) = (m : Int) + 1 := IntWalk.i64_in _ (by omega)
  have HOWN := Lib.hid hown
  have H1C := Lib.hid (frow_one fs h2.slices)
  have hwb : ∀ b, (Value.slice aw M cw).ownBlock = some b → b < w2.heap.size := fun b hb => by
    have := (h2.rows.1 (wrowV f) (by simp only [List.mem_append]; exact Or.inr (List.mem_map_of_mem (List.mem_of_getElem? HF.out)))).1.lt b (by show f.v.ownBlock = some b; rw [hfv, HME.out]; exact hb)
    exact this.2
  have H2 := Lib.hid h2
  have HWS := Lib.hid hws
  have HFV := Lib.hid hfv
  have HWB := Lib.hid hwb
  have HK := Lib.hid (And.intro hk0 hk1)
  clear h2 hws hfv hown hwb hk0 hk1
  go_upto_region 5 with fail
  clear c2 c4
  go_cut [39] (fun _ wc => CutPost q 3 146 4 (n - 1) ((frow fs).take (m * 4) ++ (frow fs).drop ((m + 1) * 4)) w2 wc)
  case first =>
    go_region_law (first | (refine step_append_at (by rfl) (.tmp 40) (.tmp 46) 98 (by rfl) w2.heap.size 146 i0k (.agg #[.int .i64 0, .string ⟨#[]⟩, .int .i64 0, .slice none 0 0]) 4 56 Try.underlying98 hik hz0k hz1k hz2k rfl (by omega) w2.heap.size 0 0 [] (by rfl) (owns_none w2 146 4) ⟨gk, 0, none⟩ m ck ((frow fs).take (m * 4)) (by rfl) (by rw [List.length_take, HOWN.out.1]; omega) (ahead_cells HOWN.out (m * 4) (Below.heap_alloc _ _ _ lg)) (fun u hu => H1C.out u (List.mem_of_mem_take hu)) m (by omega) ((frow fs).take (m * 4)) rfl (by unfold maxLen; omega) (by omega) (by simp) (w2.heap.size + 1) (by simp) ?_; intro g1 cap1 wa hown1 hgrow1 hat1 hlt1; have c1' : wa.cell? ⟨q, 3, none⟩ = some (.slice (some ⟨gk, 0, none⟩) n ck) := (World.cell?_of_block (hgrow1.block q (by simp; omega) (by simp; omega))).trans ((World.cell?_of_block (Below.heap_alloc w2 _ q lq)).trans c1)) | (refine step_append_at (by rfl) (.tmp 47) (.tmp 54) 98 (by rfl) w2.heap.size 146 i0k (.agg #[.int .i64 0, .string ⟨#[]⟩, .int .i64 0, .slice none 0 0]) 4 56 Try.underlying98 hik hz0k hz1k hz2k rfl (by omega) g1 m cap1 ((frow fs).take (m * 4)) (by rfl) hown1 (behind gk ck (m + 1) 4) (n - (m + 1)) (ck - (m + 1)) ((frow fs).drop ((m + 1) * 4)) (by rfl) (by rw [List.length_drop, HOWN.out.1]; omega) (behind_cells' HOWN.out (by omega) ((hgrow1.block gk (by simp; omega) (by simp; omega)).trans (Below.heap_alloc _ _ _ lg))) (fun u hu => H1C.out u (List.mem_of_mem_drop hu)) (n - 1) (by omega) ((frow fs).take (m * 4) ++ (frow fs).drop ((m + 1) * 4)) rfl (by unfold maxLen; omega) (by omega) (by have := hgrow1.size; simp at this; omega) wa.heap.size rfl ?_; intro g2 cap2 wb hown2 hgrow2 hat2 hlt2; have c2' : wb.cell? ⟨q, 3, none⟩ = some (.slice (some ⟨gk, 0, none⟩) n ck) := (World.cell?_of_block (hgrow2.block q (by have := hgrow1.size; simp at this; omega) (by simp; omega))).trans c1'; have f2' : wb.frozen? ⟨q, 3, none⟩ = false := (World.frozen?_of_block (hgrow2.block q (by have := hgrow1.size; simp at this; omega) (by simp; omega))).trans ((World.frozen?_of_block (hgrow1.block q (by simp; omega) (by simp; omega))).trans ((World.frozen?_of_block (Below.heap_alloc w2 _ q lq)).trans fq1))))
    all_goals
      go_wp2_with fail
      go_meet
      exact cut_post c1 hgrow1 hgrow2 hat1 hat2 hown2
  case rest =>
    clear c1 fq1 lq lg hcapk hik hz0k hz1k hz2k s1k s2k q1
    have l1 : (fs.eraseIdx m).length = n - 1 := by rw [List.length_eraseIdx, HN.out]; simp; omega
    rw [frow_cut, ← l1] at hcut
    obtain ⟨vf', h3, hc3⟩ := H2.out.cutFly HF.out hcut
    obtain ⟨w3, hw3⟩ : ∃ x, x = wc := ⟨_, rfl⟩
    subst hw3
    have hS : St15 (offF G f) w2 (fresh15 (offF G f) w2 w3) w3 := ⟨fun b hb => hb, hc3.mono (fun b _ e => by rw [e]; exact ⟨H2.out.gq, fun e => ((H2.out.rows.1 (wrowV f) (by simp only [List.mem_append]; exact Or.inr (List.mem_map_of_mem (List.mem_of_getElem? HF.out)))).2 q e).2 rfl⟩)⟩
    have HS := Lib.hid hS
    have H3 := Lib.hid h3
    have hboxG : ¬ offF G f w.heap.size := fun e => by have := HLT.out _ e.1; omega
    have HBX := Lib.hid hboxG
    clear hcut h3 hc3 l1 hS hboxG
    go_upto_if 59 with fail
    go_cut [3] (fun zv wx => ∃ Gx vk vv, zv = .int .i64 zz ∧ R15 wx Gx q room vk vv vf' vr (le.map Prod.fst) (le.map Prod.snd) (fs.eraseIdx m) rs ∧ St15 (offF G f) w2 Gx wx)
    case first =>
      by_cases he : e = 0
      · subst he
        have h3 := H3.out
        obtain ⟨aok, cpk, hvk, -⟩ := own_shape3 (h3.rows.1 (krowV vk (l.map Prod.fst)) (by simp)).1
        have hvk' : vk = .slice aok (l.map Prod.fst).length cpk := hvk
        have c1 := h3.c1
        have c0 := h3.c0
        rw [hvk', List.length_map] at c1
        obtain ⟨L, hL⟩ : ∃ L, l.length = L := ⟨_, rfl⟩
        have HL := Lib.hid hL
        rw [hL] at c1 hn
        clear h3 hvk hL
        go_upto_if 69 with (go_quiet (fail))
        go_cut [71] (fun _ wx => ∃ Gx vk vv, R15 wx Gx q room vk vv vf' vr ((if (l.length : Int) = room then l.eraseIdx 0 else l).map Prod.fst) ((if (l.length : Int) = room then l.eraseIdx 0 else l).map Prod.snd) (fs.eraseIdx m) rs ∧ St15 (offF G f) w2 Gx wx)
        case first =>
          have h4 := H3.out.kept (Ch.of_none (below_drewN (Below.refl w3.heap.size w3) nq) (fun _ => False)) (fun _ _ h => h)
          have S4 := HS.out.below (below_drewN (Below.refl w3.heap.size w3) nq)
          by_cases hfull : (l.length : Int) = room
          · have hb : ((L : Int) == room) = true := by rw [HL.out] at hfull; exact beq_iff_eq.2 hfull
            have CUT := Lib.hid (r15_cut h4 (k := 0) (by rw [List.length_map]; omega) (by simp) (by rw [List.length_map, HL.out]; exact hn))
            have HFU := Lib.hid hfull
            have HS4 := Lib.hid S4
            clear h4 hfull S4
            go_wp2_with fail
            refine CUT.out.mono ?_
            rintro x w4 ⟨rfl, ⟨vk4, vv4, h4⟩, hc4⟩
            have e1 : (l.eraseIdx 0).map Prod.fst = (l.map Prod.fst).eraseIdx 0 := by rw [List.eraseIdx_eq_take_drop_succ, List.eraseIdx_eq_take_drop_succ]; simp
            have e2 : (l.eraseIdx 0).map Prod.snd = (l.map Prod.snd).eraseIdx 0 := by rw [List.eraseIdx_eq_take_drop_succ, List.eraseIdx_eq_take_drop_succ]; simp
            have H4 := Lib.hid (show R15 w4 _ q room vk4 vv4 vf' vr ((if (l.length : Int) = room then l.eraseIdx 0 else l).map Prod.fst) ((if (l.length : Int) = room then l.eraseIdx 0 else l).map Prod.snd) (fs.eraseIdx m) rs from by rw [if_pos HFU.out, e1, e2]; exact h4)
            have HS5 := Lib.hid (HS4.out.step (fun b hb => hb) hc4)
            clear h4 e1 e2 hc4
            go_wp2
            go_meet
            exact ⟨_, vk4, vv4, H4.out, HS5.out⟩
          · have hb : ((L : Int) == room) = false := by rw [HL.out] at hfull; exact beq_eq_false_iff_ne.2 hfull
            have H4 := Lib.hid (show R15 (w3.drewN nq) _ q room vk vv vf' vr ((if (l.length : Int) = room then l.eraseIdx 0 else l).map Prod.fst) ((if (l.length : Int) = room then l.eraseIdx 0 else l).map Prod.snd) (fs.eraseIdx m) rs from by rw [if_neg hfull]; exact h4)
            have HS4 := Lib.hid S4
            clear h4 S4 hfull
            go_wp2
            go_meet
            exact ⟨_, vk, vv, H4.out, HS4.out⟩
        case rest =>
          obtain ⟨G4, vk4, vv4, h4, S4⟩ := hcut
          obtain ⟨w4, hw4⟩ : ∃ x, x = wc := ⟨_, rfl⟩
          subst hw4
          obtain ⟨l1, hl1⟩ : ∃ l1, (if (l.length : Int) = room then l.eraseIdx 0 else l) = l1 := ⟨_, rfl⟩
          have hl1n : l1.length ≤ 1000 := by
            rw [← hl1]
            split
            · exact Nat.le_trans (List.length_eraseIdx_le _ _) (by rw [HL.out]; exact hn)
            · rw [HL.out]; exact hn
          rw [hl1] at h4
          have HL1 := Lib.hid hl1
          obtain ⟨ks4, hks⟩ : ∃ ks4, l1.map Prod.fst = ks4 := ⟨_, rfl⟩
          obtain ⟨vs4, hvs⟩ : ∃ vs4, l1.map Prod.snd = vs4 := ⟨_, rfl⟩
          rw [hks, hvs] at h4
          have hkl : ks4.length ≤ 1000 := by rw [← hks, List.length_map]; exact hl1n
          have hvl : vs4.length ≤ 1000 := by rw [← hvs, List.length_map]; exact hl1n
          have HKS := Lib.hid hks
          have HVS := Lib.hid hvs
          have HS4 := Lib.hid S4
          obtain ⟨i0, hi, hz0, hz1, hz2⟩ := info_parts info89
          have oK : w4.ownsRow 0 89 2 vk4 ks4.length (KZ.krow ks4) := (h4.rows.1 (krowV vk4 ks4) (by simp)).1
          have c1 := h4.c1
          have fq := h4.fz 1
          have H4 := Lib.hid h4
          have lq := h4.lt q h4.gq
          have hk0 : w4.cell? ⟨w.heap.size, 0, none⟩ = _ := (S4.2.cell (p := ⟨w.heap.size, 0, none⟩) hsz2 HBX.out).trans HK.out.1
          have hk1 : w4.cell? ⟨w.heap.size, 1, none⟩ = _ := (S4.2.cell (p := ⟨w.heap.size, 1, none⟩) hsz2 HBX.out).trans HK.out.2
          have hszw : w.heap.size < w4.heap.size := Nat.lt_of_lt_of_le hsz2 S4.2.size
          clear hl1 hks hvs h4 S4 c0
          go_upto_region 9 with fail
          go_cut [72] (fun _ wx => ∃ g cap, R15 wx (fresh15 G4 w4 wx) q room (.slice (some ⟨g, 0, none⟩) (ks4.length + 1) cap) vv4 vf' vr (ks4 ++ [k]) vs4 (fs.eraseIdx m) rs ∧ Ch G4 w4 wx)
          case first =>
            go_region_law (refine step_append_lies _ (by rfl) (.tmp 76) (.tmp 78) 97 (by rfl) 0 89 i0 (.agg #[.int .i64 0, .string ⟨#[]⟩]) 2 24 Try.underlying97 hi hz0 hz1 hz2 rfl (by omega) vk4 ks4.length (KZ.krow ks4) (by rfl) (oK.alloc _) ⟨w4.heap.size, 0, none⟩ 1 1 [.int .i64 k.1, .string k.2] (by rfl) (by rfl) (KZ.cell_two15 _ _ _ _) (by simp [Value.oneCell']) (by omega) (by unfold maxLen; omega) (by omega) (Nat.zero_le _) (w4.heap.size + 1) (by simp) ?_; intro g cap w5 hown hgrow hat hlt; obtain ⟨c5, f5, h5, hc5⟩ := H4.out.pushKey k (grown_of_drew hgrow) hown hat hlt)
            all_goals
              go_wp2_with fail
              go_meet
              exact ⟨g, cap, by rw [fresh15_set]; exact h5, hc5⟩
          case rest =>
            obtain ⟨g5, cap5, h5, hc5⟩ := hcut
            obtain ⟨w5, hw5⟩ : ∃ x, x = wc := ⟨_, rfl⟩
            subst hw5
            clear c1 fq hi hz0 hz1 hz2 oK
            obtain ⟨i0, hi, hz0, hz1, hz2⟩ := info_parts infoI
            have oV : w5.ownsRow 0 3 1 vv4 vs4.length (vs4.map (.int .i64)) := (h5.rows.1 (vrowV vv4 vs4) (by simp)).1
            have c2 := h5.c2
            have fq := h5.fz 2
            have H5 := Lib.hid h5
            have HC5 := Lib.hid hc5
            clear h5 hc5
            go_wp2_with (at_builtin; refine wpList_append_lies _ (by rfl) (.tmp 86) (.tmp 88) 38 (by rfl) 0 3 i0 (.int .i64 0) 1 8 Try.underlying38 hi hz0 hz1 hz2 rfl (by omega) vv4 vs4.length (vs4.map (.int .i64)) (by rfl) (oV.alloc _) ⟨w5.heap.size, 0, none⟩ 1 1 [.int .i64 z] (by rfl) (by rfl) (KZ.cell_one15 _ _ _) (by simp [Value.oneCell']) (by omega) (by unfold maxLen; omega) (by omega) (Nat.zero_le _) (w5.heap.size + 1) (by simp) ?_; intro g cap w6 hown hgrow hat hlt; obtain ⟨c6, f6, h6, hc6⟩ := H5.out.pushVal z hgrow hown hat hlt)
            have S5 := HS4.out.step (fun b hb => hb) HC5.out
            have S6 := S5.step (fun b hb => by rw [fresh15_set]; exact hb) hc6
            have e1 : le.map Prod.fst = ks4 ++ [k] := by rw [← HLE.out]; unfold endL; rw [if_pos rfl, HL1.out, List.map_append, HKS.out]; rfl
            have e2 : le.map Prod.snd = vs4 ++ [z] := by rw [← HLE.out]; unfold endL; rw [if_pos rfl, HL1.out, List.map_append, HVS.out]; rfl
            rw [← e1, ← e2] at h6
            have H6 := Lib.hid h6
            have HS6 := Lib.hid S6
            clear S5 S6 e1 e2 h6 hc6
            go_meet
            exact ⟨_, _, _, by rw [← HZZ.out]; simp, H6.out, HS6.out⟩
      · have hb : (e == 0) = false := beq_eq_false_iff_ne.2 he
        have hle : l = le := by rw [← HLE.out]; unfold endL; rw [if_neg he]
        have h4 : R15 w3 (fresh15 (offF G f) w2 w3) q room vk vv vf' vr (le.map Prod.fst) (le.map Prod.snd) (fs.eraseIdx m) rs := by rw [← hle]; exact H3.out
        have H4 := Lib.hid h4
        have HE := Lib.hid he
        clear h4 he hle
        go_wp2
        go_meet
        exact ⟨_, vk, vv, by rw [← HZZ.out, if_neg HE.out], H4.out, HS.out⟩
    case rest =>
      obtain ⟨Gx, vk5, vv5, hzv, h5, S5⟩ := hcut
      subst hzv
      obtain ⟨w5, hw5⟩ : ∃ x, x = wc := ⟨_, rfl⟩
      subst hw5
      have H5 := Lib.hid h5
      have HS5 := Lib.hid S5
      clear h5 S5 H3 HS HZZ HLE
      go_wp2_with fail
      go_loopw [13] (fun jv wr => ∃ (j : Nat) (Gr : Nat → Prop) (vr' : Value), jv = .int .i64 j ∧ j ≤ M ∧ R15 wr Gr q room vk5 vv5 vf' vr' (le.map Prod.fst) (le.map Prod.snd) (fs.eraseIdx m) (rs ++ (f.ws.take j).map fun y => (y, zz, e)) ∧ St15 (offF G f) w2 Gr wr) (fun jv _ => M - (intOf jv).toNat)
      case atStart => exact ⟨0, Gx, vr, rfl, by omega, by simpa using H5.out, HS5.out⟩
      case round =>
        obtain ⟨j, Gr, vr', rfl, hj, hr, hs⟩ := hrel
        obtain ⟨w6, hw6⟩ : ∃ x, x = wr := ⟨_, rfl⟩
        subst hw6
        have HR := Lib.hid hr
        have HSR := Lib.hid hs
        by_cases hlt : j < M
        · obtain ⟨y, hy⟩ : ∃ y, f.ws[j]? = some y := ⟨_, List.getElem?_eq_getElem (by rw [HME.out]; exact hlt)⟩
          obtain ⟨gw, haw, cy⟩ := HWS.out j y hy
          subst haw
          have cyr : w6.cell? ⟨gw, j, none⟩ = some (.int .i64 y) := (hs.2.cell (p := ⟨gw, j, none⟩) (cell15_lt cy) (fun e => e.2 (by rw [HFV.out]; rfl))).trans cy
          have htk : f.ws.take (j + 1) = f.ws.take j ++ [y] := by obtain ⟨hl, e⟩ := List.getElem?_eq_some_iff.1 hy; rw [List.take_succ_eq_append_getElem hl, e]
          have HTK := Lib.hid htk
          obtain ⟨rj, hrj⟩ : ∃ rj, (rs ++ (f.ws.take j).map fun y => (y, zz, e)) = rj := ⟨_, rfl⟩
          have hrl : rj.length ≤ 10000 := by rw [← hrj, List.length_append, List.length_map, List.length_take, HME.out]; omega
          rw [hrj] at hr
          have HRJ := Lib.hid hrj
          have HR := Lib.hid hr
          obtain ⟨i0, hi, hz0, hz1, hz2⟩ := info_parts info148
          have oR : w6.ownsRow 0 148 3 vr' rj.length (rrow rj) := (hr.rows.1 (rrowV vr' rj) (by simp)).1
          have c4 := hr.c4
          have fq := hr.fz 4
          have lq := hr.lt q hr.gq
          have lgw : gw < w6.heap.size := cell15_lt cyr
          have i2 : (j : Int) < (M : Int) := by omega
          clear hr hs hy cy htk hrj
          go_upto_block 1 with fail
          go_cut [98] (fun _ wx => ∃ g cap, R15 wx (fresh15 Gr w6 wx) q room vk5 vv5 vf' (.slice (some ⟨g, 0, none⟩) (rj.length + 1) cap) (le.map Prod.fst) (le.map Prod.snd) (fs.eraseIdx m) (rj ++ [(y, zz, e)]) ∧ Ch Gr w6 wx)
          case first =>
            go_upto_region 15 with fail
            go_region_law (refine step_append_lies _ (by rfl) (.tmp 102) (.tmp 110) 99 (by rfl) 0 148 i0 (.agg #[.int .i64 0, .int .i64 0, .int .i64 0]) 3 24 Try.underlying99 hi hz0 hz1 hz2 rfl (by omega) vr' rj.length (rrow rj) (by rfl) (oR.alloc _) ⟨w6.heap.size, 0, none⟩ 1 1 [.int .i64 y, .int .i64 zz, .int .i64 e] (by rfl) (by rfl) (KZ.cell_three15 _ _ _ _ _) (by simp [Value.oneCell']) (by omega) (by unfold maxLen; omega) (by omega) (Nat.zero_le _) (w6.heap.size + 1) (by simp) ?_; intro g cap w7 hown hgrow hat hlt; obtain ⟨c7, f7, h7, hc7⟩ := HR.out.pushRes (y, zz, e) (grown_of_drew hgrow) hown hat hlt)
            all_goals
              go_wp2_with fail
              go_meet
              exact ⟨g, cap, by rw [fresh15_set]; exact h7, hc7⟩
          case rest =>
            obtain ⟨g7, cap7, h7, hc7⟩ := hcut
            have HS7 := Lib.hid (HSR.out.step (fun b hb => hb) hc7)
            have H7 := Lib.hid h7
            clear h7 hc7 c4 fq oR cyr
            go_wp2
            go_roundw
            case rel => exact ⟨j + 1, _, _, by go_num, by omega, by rw [HTK.out, List.map_append, ← List.append_assoc, HRJ.out]; exact H7.out, HS7.out⟩
            case measure => simp [intOf]; omega
        · obtain rfl : j = M := by omega
          have hfull : f.ws.take j = f.ws := List.take_of_length_le (by rw [HME.out]; exact Nat.le_refl _)
          rw [hfull] at hr
          have S1 : St15 G w G w2 := St15.start.below HB.out
          have S2 : St15 G w Gr w6 := S1.step (fun b hb => (hs.1 b hb).imp (fun h => h.1) id) (hs.2.mono (fun b _ hb => hb.1))
          have h7 := hr.more S2.1 (fun b hb => hb.elim (fun hb => Nat.lt_of_lt_of_le (HLT.out b hb) S2.2.size) (fun hb => hb.2))
          have H7 := Lib.hid h7
          have HS2 := Lib.hid S2
          clear hr hs S1 S2 h7 hfull
          go_wp2
          go_ret
          exact ⟨rfl, ⟨_, by rw [← HFS.out, List.eraseIdx_eq_take_drop_succ, List.eraseIdx_eq_take_drop_succ]; simp, _, _, _, _, H7.out⟩, HS2.out.2⟩

end Go.Proofs.Ytnnaidladcdbdaa
