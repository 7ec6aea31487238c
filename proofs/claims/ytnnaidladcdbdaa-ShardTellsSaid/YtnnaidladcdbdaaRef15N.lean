/- The reference of chapter 15: Begin, the key is complete. -/
import Derived.Test.YtnnaidladcdbdaaRef15M
namespace Go.Proofs.Ytnnaidladcdbdaa
open Go.RowKit Go.ChangeMaps
open KZ (KK)

/-- The reference, its flights as told. -/
def TL (w : World) (G : Nat → Prop) (q : Nat) (room : Int) (l : List (PK × Int)) (tl : List (PK × Int × List Int)) (rs : List (Int × Int × Int)) : Prop := ∃ fs, fs.map FR.told = tl ∧ RL w G q room l fs rs
/-- The same behind some of its methods. -/
def TLs (w : World) (G : Nat → Prop) (q : Nat) (room : Int) (l : List (PK × Int)) (tl : List (PK × Int × List Int)) (rs : List (Int × Int × Int)) (w' : World) : Prop := TL w' (fresh15 G w w') q room l tl rs ∧ Ch G w w'
/-- A worker forgotten. -/
abbrev fgT (i : Int) (tl : List (PK × Int × List Int)) : List (PK × Int × List Int) := tl.map fun x => (x.1, x.2.1, x.2.2.filter (· ≠ i))
abbrev fgR (i : Int) (rs : List (Int × Int × Int)) : List (Int × Int × Int) := rs.filter fun x => decide (x.1 ≠ i)

theorem KZ.cell_two15 (w : World) (a b : Value) (t : TypeId) : ∀ j u, [a, b][j]? = some u → (w.alloc (.cells #[a, b] t)).cell? ((⟨w.heap.size, 0, none⟩ : Addr).add j) = some u := by
  intro j u hj
  match j, hj with
  | 0, hj => simp at hj; subst hj; simp [Addr.add]
  | 1, hj => simp at hj; subst hj; simp [Addr.add]

theorem grown_of_drew {w w' : World} {r : Option Nat} (h : w.drew.grownBy w' r) : w.grownBy w' r := ⟨h.os, h.tape, h.output, h.size, h.block⟩
theorem fresh15_set {G : Nat → Prop} {w w' : World} {a : Addr} {v : Value} : fresh15 G w (w'.setCell a v) = fresh15 G w w' := by
  unfold fresh15; rw [World.size_setCell]

/-- What some calls leave of the reference's blocks. -/
def St15 (G : Nat → Prop) (w : World) (G' : Nat → Prop) (w' : World) : Prop := (∀ b, G' b → fresh15 G w w' b) ∧ Ch G w w'
theorem St15.start {G : Nat → Prop} {w : World} : St15 G w G w := ⟨fun _ hb => Or.inl hb, Ch.refl _ _⟩
theorem St15.step {G Ga Gb : Nat → Prop} {w wa wb : World} (h : St15 G w Ga wa) (h2 : ∀ b, Gb b → fresh15 Ga wa wb b) (hc : Ch Ga wa wb) : St15 G w Gb wb := by
  have s1 := h.2.size
  have s2 := hc.size
  refine ⟨fun b hb => ?_, h.2.trans hc (fun b hb hg => ?_)⟩
  · rcases h2 b hb with hb | hb
    · rcases h.1 b hb with hb | hb
      · exact Or.inl hb
      · exact Or.inr ⟨hb.1, by omega⟩
    · exact Or.inr ⟨by omega, hb.2⟩
  · rcases h.1 b hg with hg | hg
    · exact hg
    · omega
theorem St15.below {G Ga : Nat → Prop} {w wa wb : World} (h : St15 G w Ga wa) (hb : Below wa.heap.size wa wb) : St15 G w Ga wb :=
  h.step (fun _ hb => Or.inl hb) (Ch.of_none hb Ga)

variable {w w' : World} {G : Nat → Prop} {q : Nat} {room : Int} {l : List (PK × Int)} {tl : List (PK × Int × List Int)} {rs : List (Int × Int × Int)}

set_option maxRecDepth 100000 in
set_option maxHeartbeats 4000000 in
theorem begin_hit (h : TL w G q room l tl rs) (i : Int) (k : PK) (x : Int) (j : Nat) (hn : l.length ≤ 1000) (ht : tl.length ≤ 1000) (hw : ∀ x ∈ tl, x.2.2.length ≤ 1000) (hrs : rs.length ≤ 10000) (hj : l[j]? = some (k, x)) (hne : ∀ i, i < j → ∀ y, l[i]? = some y → y.1 ≠ k) :
    Calls Try.prog 48 #[.pointer (some ⟨q, 0, none⟩), .int .i64 i, KK k] w fun e w' => e = .returned (.tuple #[.int .i64 x, .int .i64 1]) ∧ TLs w G q room (l.eraseIdx j ++ [(k, x)]) (fgT i tl) (fgR i rs) w' := by
  obtain ⟨fs, hfs, vk, vv, vf, vr, h0⟩ := h
  have hk : ∀ i, (w.alloc (.cells #[.int .i64 k.1, .string k.2] 89)).cell? ⟨w.heap.size, i, none⟩ = #[Value.int .i64 k.1, .string k.2][i]? := fun i => World.cell?_alloc_new _ _ _ _
  have hk0 : (w.alloc (.cells #[.int .i64 k.1, .string k.2] 89)).cell? ⟨w.heap.size, 0, none⟩ = some (.int .i64 k.1) := by rw [hk]; rfl
  have hk1 : (w.alloc (.cells #[.int .i64 k.1, .string k.2] 89)).cell? ⟨w.heap.size, 1, none⟩ = some (.string k.2) := by rw [hk]; rfl
  have hb1 : Below w.heap.size w (w.alloc (.cells #[.int .i64 k.1, .string k.2] 89)) := (Below.refl _ _).alloc (Nat.le_refl _) _
  have h1 := h0.kept (Ch.of_none hb1 (fun _ => False)) (fun _ _ h => h)
  have F := Lib.hid (forget_a h1.lt ⟨G, vf, vr, fs, h1, hfs, fun b hb => Or.inl hb, Ch.refl _ _⟩ i ht hw hrs)
  have HLT := Lib.hid h0.lt
  have HJ := Lib.hid (And.intro hj hne)
  have hsz : w.heap.size < (w.alloc (.cells #[.int .i64 k.1, .string k.2] 89)).heap.size := by simp
  clear hk h0 h1 hfs hw hrs ht hj hne
  go_enter Try.func48, Try.ntmps48
  go_upto_region 1 with fail
  change Code.wp _ _ _ _ (w.alloc (.cells #[.int .i64 k.1, .string k.2] 89))
  revert hk0 hk1 hb1 F hsz
  generalize w.alloc (.cells #[.int .i64 k.1, .string k.2] 89) = w1
  intro hk0 hk1 hb1 F hsz
  go_wp2_with fail
  refine F.out.mono ?_
  rintro e w2 ⟨rfl, G2, vf2, vr2, fs2, h2, ht2, hG2, hc2⟩
  have hbox : ¬ G w.heap.size := fun e => by have := HLT.out _ e; omega
  have hk0 := (hc2.cell (p := ⟨w.heap.size, 0, none⟩) hsz hbox).trans hk0
  have hk1 := (hc2.cell (p := ⟨w.heap.size, 1, none⟩) hsz hbox).trans hk1
  have HC2 := Lib.hid hc2
  have HG2 := Lib.hid hG2
  have HT2 := Lib.hid ht2
  have hjl : j < l.length := (List.getElem?_eq_some_iff.1 HJ.out.1).1
  have hbox2 : ¬ G2 w.heap.size := fun e => (hG2 _ e).elim hbox (fun e => by omega)
  have hsz2 := Nat.lt_of_lt_of_le hsz hc2.size
  have F2 := Lib.hid (rl_find_hit ⟨vk, vv, vf2, vr2, h2⟩ k hn j x HJ.out.1 HJ.out.2)
  have H2 := Lib.hid h2
  clear h2 ht2 hG2 hc2 hbox hsz
  go_wp2_with fail
  refine F2.out.mono ?_
  rintro e w3 ⟨rfl, hb3⟩
  have hk0 : w3.cell? ⟨w.heap.size, 0, none⟩ = _ := (hb3.cell (p := ⟨w.heap.size, 0, none⟩) hsz2).trans hk0
  have hk1 : w3.cell? ⟨w.heap.size, 1, none⟩ = _ := (hb3.cell (p := ⟨w.heap.size, 1, none⟩) hsz2).trans hk1
  have h3 := H2.out.kept (Ch.of_none hb3 (fun _ => False)) (fun _ _ h => h)
  have hsz3 := Nat.lt_of_lt_of_le hsz2 hb3.size
  obtain ⟨oV, -⟩ := h3.rows.1 (vrowV vv (l.map Prod.snd)) (by simp)
  obtain ⟨gv, cv, ev, _, _⟩ := oV.form (show 0 < (l.map Prod.snd).length by rw [List.length_map]; omega)
  have ev' : vv = .slice (some ⟨gv, 0, none⟩) (l.map Prod.snd).length cv := ev
  have c2 := h3.c2
  rw [ev', List.length_map] at c2
  have cj : w3.cell? ⟨gv, j, none⟩ = some (.int .i64 x) := by
    subst ev'
    rw [oV.cellAt j (by simp only; rw [List.length_map]; omega)]
    show ((l.map Prod.snd).map (Value.int .i64))[j]? = _
    rw [List.getElem?_map, List.getElem?_map, HJ.out.1]; rfl
  have CUT := Lib.hid (r15_cut h3 (k := j) (by rw [List.length_map]; exact hjl) (by simp) (by rw [List.length_map]; exact hn))
  obtain ⟨N, hN⟩ : ∃ N, l.length = N := ⟨_, rfl⟩
  rw [hN] at c2 hjl hn
  have HN := Lib.hid hN
  have HB3 := Lib.hid hb3
  have hneg : decide ((j : Int) ≥ 0) = true := decide_eq_true (by omega)
  have i1 : (j : Int) < (N : Int) := by omega
  clear h3 hb3 oV ev ev' hN
  go_wp2_with fail
  refine CUT.out.mono ?_
  rintro e w4 ⟨rfl, ⟨vk4, vv4, h4⟩, hc4⟩
  have hk0 : w4.cell? ⟨w.heap.size, 0, none⟩ = _ := (hc4.cell (p := ⟨w.heap.size, 0, none⟩) hsz3 hbox2).trans hk0
  have hk1 : w4.cell? ⟨w.heap.size, 1, none⟩ = _ := (hc4.cell (p := ⟨w.heap.size, 1, none⟩) hsz3 hbox2).trans hk1
  obtain ⟨G4, hG4⟩ : ∃ G4, fresh15 G2 w3 w4 = G4 := ⟨_, rfl⟩
  obtain ⟨ks4, hks⟩ : ∃ ks4, (l.map Prod.fst).eraseIdx j = ks4 := ⟨_, rfl⟩
  obtain ⟨vs4, hvs⟩ : ∃ vs4, (l.map Prod.snd).eraseIdx j = vs4 := ⟨_, rfl⟩
  rw [hG4, hks, hvs] at h4
  have hkl : ks4.length ≤ 1000 := by rw [← hks]; exact Nat.le_trans (List.length_eraseIdx_le _ _) (by rw [List.length_map, HN.out]; exact hn)
  have hvl : vs4.length ≤ 1000 := by rw [← hvs]; exact Nat.le_trans (List.length_eraseIdx_le _ _) (by rw [List.length_map, HN.out]; exact hn)
  have HG4 := Lib.hid hG4
  have HKS := Lib.hid hks
  have HVS := Lib.hid hvs
  have HC4 := Lib.hid hc4
  obtain ⟨i0, hi, hz0, hz1, hz2⟩ := info_parts info89
  have oK : w4.ownsRow 0 89 2 vk4 ks4.length (KZ.krow ks4) := (h4.rows.1 (krowV vk4 ks4) (by simp)).1
  have c1 := h4.c1
  have fq := h4.fz 1
  have H4 := Lib.hid h4
  have lq := h4.lt q h4.gq
  clear hG4 hks hvs hc4 h4 c2 cj
  go_upto_region 6 with fail
  go_cut [29] (fun _ wx => ∃ g cap, R15 wx (fresh15 G4 w4 wx) q room (.slice (some ⟨g, 0, none⟩) (ks4.length + 1) cap) vv4 vf2 vr2 (ks4 ++ [k]) vs4 fs2 (fgR i rs) ∧ Ch G4 w4 wx)
  case first =>
    go_region_law (refine step_append_lies _ (by rfl) (.tmp 33) (.tmp 35) 97 (by rfl) 0 89 i0 (.agg #[.int .i64 0, .string ⟨#[]⟩]) 2 24 Try.underlying97 hi hz0 hz1 hz2 rfl (by omega) vk4 ks4.length (KZ.krow ks4) (by rfl) (oK.alloc _) ⟨w4.heap.size, 0, none⟩ 1 1 [.int .i64 k.1, .string k.2] (by rfl) (by rfl) (KZ.cell_two15 _ _ _ _) (by simp [Value.oneCell']) (by omega) (by unfold maxLen; omega) (by omega) (Nat.zero_le _) (w4.heap.size + 1) (by simp) ?_; intro g cap w5 hown hgrow hat hlt; obtain ⟨c5, f5, h5, hc5⟩ := H4.out.pushKey k (grown_of_drew hgrow) hown hat hlt)
    all_goals
      go_wp2_with fail
      go_meet
      exact ⟨g, cap, by rw [fresh15_set]; exact h5, hc5⟩
  case rest =>
    obtain ⟨g5, cap5, h5, hc5⟩ := hcut
    obtain ⟨w5, hw5⟩ : ∃ x, x = wc := ⟨_, rfl⟩
    subst hw5
    clear c1 fq hi hz0 hz1 hz2 oK
    obtain ⟨i0, hi, hz0, hz1, hz2⟩ := info_parts infoI
    have oV : w5.ownsRow 0 3 1 vv4 vs4.length (vs4.map (.int .i64)) := (h5.rows.1 (vrowV vv4 vs4) (by simp)).1
    have c2 := h5.c2
    have fq := h5.fz 2
    have H5 := Lib.hid h5
    have HC5 := Lib.hid hc5
    clear h5 hc5
    go_wp2_with (at_builtin; refine wpList_append_lies _ (by rfl) (.tmp 43) (.tmp 45) 38 (by rfl) 0 3 i0 (.int .i64 0) 1 8 Try.underlying38 hi hz0 hz1 hz2 rfl (by omega) vv4 vs4.length (vs4.map (.int .i64)) (by rfl) (oV.alloc _) ⟨w5.heap.size, 0, none⟩ 1 1 [.int .i64 x] (by rfl) (by rfl) (KZ.cell_one15 _ _ _) (by simp [Value.oneCell']) (by omega) (by unfold maxLen; omega) (by omega) (Nat.zero_le _) (w5.heap.size + 1) (by simp) ?_; intro g cap w6 hown hgrow hat hlt; obtain ⟨c6, f6, h6, hc6⟩ := H5.out.pushVal x hgrow hown hat hlt)
    go_ret2
    have S1 : St15 G w G w1 := St15.start.below hb1
    have S2 := S1.step HG2.out HC2.out
    have S4 := (S2.below HB3.out).step (fun b hb => by rw [HG4.out]; exact hb) HC4.out
    have S5 := S4.step (fun b hb => hb) HC5.out
    have S6 := S5.step (fun b hb => by rw [fresh15_set]; exact hb) hc6
    have e1 : (l.eraseIdx j ++ [(k, x)]).map Prod.fst = ks4 ++ [k] := by rw [List.map_append, ← HKS.out, List.eraseIdx_eq_take_drop_succ, List.eraseIdx_eq_take_drop_succ]; simp
    have e2 : (l.eraseIdx j ++ [(k, x)]).map Prod.snd = vs4 ++ [x] := by rw [List.map_append, ← HVS.out, List.eraseIdx_eq_take_drop_succ, List.eraseIdx_eq_take_drop_succ]; simp
    have h7 := h6.more S6.1 (fun b hb => hb.elim (fun hb => Nat.lt_of_lt_of_le (HLT.out b hb) S6.2.size) (fun hb => hb.2))
    rw [← e1, ← e2] at h7
    exact ⟨rfl, ⟨fs2, HT2.out, _, _, _, _, h7⟩, S6.2⟩

end Go.Proofs.Ytnnaidladcdbdaa
