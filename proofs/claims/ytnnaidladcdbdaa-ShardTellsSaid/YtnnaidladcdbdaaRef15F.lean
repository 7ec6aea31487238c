/- The reference of chapter 15: Purge. -/
import Derived.Test.YtnnaidladcdbdaaRef15E
namespace Go.Proofs.Ytnnaidladcdbdaa
open Go.RowKit Go.ChangeMaps
open KZ (KK)

variable {w w' : World} {G : Nat → Prop} {q : Nat} {room : Int} {l : List (PK × Int)} {fs : List FR} {rs : List (Int × Int × Int)}

/-- The keys' slice. -/
theorem RL.keys (h : RL w G q room l fs rs) : ∃ ao cap, w.cell? ⟨q, 1, none⟩ = some (.slice ao l.length cap) ∧ ∀ i x, l[i]? = some x → ∃ g, ao = some ⟨g, 0, none⟩ ∧ w.cell? ⟨g, i * 2, none⟩ = some (.int .i64 x.1.1) := by
  obtain ⟨vk, vv, vf, vr, h⟩ := h
  obtain ⟨ao, cap, hv, hcr⟩ : ∃ ao cap, vk = .slice ao (l.map Prod.fst).length cap ∧ (0 < (l.map Prod.fst).length → ∃ g, ao = some ⟨g, 0, none⟩ ∧ ∀ j, j < (l.map Prod.fst).length * 2 → w.cell? ⟨g, j, none⟩ = (KZ.krow (l.map Prod.fst))[j]?) := own_shape3 (h.rows.1 (krowV vk (l.map Prod.fst)) (by simp)).1
  rw [List.length_map] at hv hcr
  refine ⟨ao, cap, by rw [← hv]; exact h.c1, fun i x hx => ?_⟩
  have hi := (List.getElem?_eq_some_iff.1 hx).1
  obtain ⟨g, hg, hgc⟩ := hcr (by omega)
  obtain ⟨h1, -⟩ := KZ.krow_at (l.map Prod.fst) i x.1 (by rw [List.getElem?_map, hx]; rfl)
  exact ⟨g, hg, (hgc (i * 2) (by omega)).trans h1⟩

/-- The reference behind some of its methods: its blocks are the old ones or new. -/
def RLs (w : World) (G : Nat → Prop) (q : Nat) (room : Int) (l : List (PK × Int)) (fs : List FR) (rs : List (Int × Int × Int)) (w' : World) : Prop := RL w' (fresh15 G w w') q room l fs rs ∧ Ch G w w'

theorem RLs.start (h : RL w G q room l fs rs) : RLs w G q room l fs rs w := by
  obtain ⟨_, _, _, _, h⟩ := h
  exact ⟨⟨_, _, _, _, h.more (fun b hb => Or.inl hb) (fun b hb => hb.elim (h.lt b) (fun hb => hb.2))⟩, Ch.refl _ _⟩

theorem RLs.step {w1 w2 : World} {l' : List (PK × Int)} {fs' : List FR} {rs' : List (Int × Int × Int)} (h : RLs w G q room l fs rs w1) (hlt : ∀ b, G b → b < w.heap.size) (h2 : RL w2 (fresh15 (fresh15 G w w1) w1 w2) q room l' fs' rs') (hc : Ch (fresh15 G w w1) w1 w2) : RLs w G q room l' fs' rs' w2 := by
  have hs1 := h.2.size
  have hs2 := hc.size
  obtain ⟨_, _, _, _, h3⟩ := h2
  refine ⟨⟨_, _, _, _, h3.more (fun b hb => ?_) (fun b hb => hb.elim (fun hb => by have := hlt b hb; omega) (fun hb => hb.2))⟩, h.2.trans hc (fun b hb hf => hf.elim id (fun hf => by omega))⟩
  rcases hb with (hb | hb) | hb
  · exact Or.inl hb
  · exact Or.inr ⟨hb.1, by omega⟩
  · exact Or.inr ⟨by omega, hb.2⟩

theorem filt_len (rel : Int) : ∀ P : List (PK × Int), (P.filter fun x => decide (x.1.1 ≠ rel)).length + (P.filter fun x => decide (x.1.1 = rel)).length = P.length
  | [] => rfl
  | x :: r => by
    have ih := filt_len rel r
    by_cases hx : x.1.1 = rel
    · rw [List.filter_cons_of_neg (by simp [hx]), List.filter_cons_of_pos (by simp [hx])]; simp only [List.length_cons]; omega
    · rw [List.filter_cons_of_pos (by simp [hx]), List.filter_cons_of_neg (by simp [hx])]; simp only [List.length_cons]; omega

set_option maxRecDepth 100000 in
set_option maxHeartbeats 2000000 in
theorem rl_purge (h : RL w G q room l fs rs) (rel : Int) (hn : l.length ≤ 1000) :
    Calls Try.prog 53 #[.pointer (some ⟨q, 0, none⟩), .int .i64 rel] w fun e w' => e = .returned (.int .i64 ((l.filter fun x => decide (x.1.1 = rel)).length : Nat)) ∧ RLs w G q room (l.filter fun x => decide (x.1.1 ≠ rel)) fs rs w' := by
  have HG := Lib.hid h.lt
  have H := Lib.hid (RLs.start h)
  clear h
  go_enter Try.func53, Try.ntmps53
  go_wp2_with fail
  go_loopw [5, 6] (fun n i wr => ∃ P C : List (PK × Int), l = P ++ C ∧ i = .int .i64 ((P.filter fun x => decide (x.1.1 ≠ rel)).length : Nat) ∧ n = .int .i64 ((P.filter fun x => decide (x.1.1 = rel)).length : Nat) ∧
    RLs w G q room ((P.filter fun x => decide (x.1.1 ≠ rel)) ++ C) fs rs wr) (fun n i _ => l.length - ((intOf n).toNat + (intOf i).toNat))
  case atStart => exact ⟨[], l, rfl, rfl, rfl, H.out⟩
  case round =>
    obtain ⟨P, C, hl, rfl, rfl, h1⟩ := hrel
    obtain ⟨A, hA⟩ : ∃ A, (P.filter fun x => decide (x.1.1 ≠ rel)) = A := ⟨_, rfl⟩
    obtain ⟨D, hD⟩ : ∃ D, (P.filter fun x => decide (x.1.1 = rel)) = D := ⟨_, rfl⟩
    have hAD : A.length + D.length = P.length := by
      rw [← hA, ← hD]
      exact filt_len rel P
    have hll : l.length = P.length + C.length := by rw [hl, List.length_append]
    rw [hA] at h1
    rw [hA, hD]
    obtain ⟨ao, cap, c1, hk⟩ := h1.1.keys
    rw [List.length_append] at c1
    have H1 := Lib.hid h1
    have HA := Lib.hid hA
    have HD := Lib.hid hD
    have HL := Lib.hid hl
    have HK := Lib.hid hk
    clear h1 hA hD hl hk H
    obtain ⟨a, ha⟩ : ∃ a, A.length = a := ⟨_, rfl⟩
    obtain ⟨dd, hd⟩ : ∃ dd, D.length = dd := ⟨_, rfl⟩
    have Ha := Lib.hid ha
    have Hd := Lib.hid hd
    rw [ha] at c1 hAD
    rw [hd] at hAD
    rw [ha, hd]
    clear ha hd
    cases C with
    | nil =>
      have HF := Lib.hid (show (l.filter fun x => decide (x.1.1 ≠ rel)) = A ∧ (l.filter fun x => decide (x.1.1 = rel)) = D from by
        have := HL.out; rw [List.append_nil] at this; rw [this]; exact ⟨HA.out, HD.out⟩)
      have H2 := Lib.hid (show RLs w G q room A fs rs wr from by have := H1.out; rw [List.append_nil] at this; exact this)
      simp only [List.length_nil, Nat.add_zero] at c1
      go_wp2
      go_ret
      rw [HF.out.1, HF.out.2, Hd.out]
      exact ⟨rfl, H2.out⟩
    | cons x C =>
      obtain ⟨g, hao, ck⟩ := HK.out a x (by rw [List.getElem?_append_right (by rw [Ha.out]; exact Nat.le_refl _), Ha.out]; simp)
      subst hao
      obtain ⟨N, hN⟩ : ∃ N, a + (x :: C).length = N := ⟨_, rfl⟩
      rw [hN] at c1
      have haN : a < N := by simp at hN; omega
      have hNl : N ≤ 1000 := by simp at hN hll; omega
      have i1 : (a : Int) < (N : Int) := by omega
      have HN := Lib.hid hN
      clear hN
      simp only [List.length_cons] at hll
      by_cases hx : x.1.1 = rel
      · have hb : (x.1.1 == rel) = true := beq_iff_eq.2 hx
        have HX := Lib.hid hx
        have hcut := rl_cut (k := a) H1.out.1 (by rw [List.length_append]; have := HN.out; rw [Ha.out, this]; exact haN) (by rw [List.length_append, Ha.out, HN.out]; exact hNl)
        have he : (A ++ x :: C).eraseIdx a = A ++ C := by
          rw [List.eraseIdx_append_of_length_le (by rw [Ha.out]; exact Nat.le_refl _), Ha.out]; simp
        rw [he] at hcut
        have HC := Lib.hid hcut
        clear hx hcut he
        go_wp2_with fail
        refine HC.out.mono ?_
        rintro e w3 ⟨rfl, h3, hc3⟩
        have H3 := Lib.hid (H1.out.step HG.out h3 hc3)
        clear h3 hc3
        go_wp2
        go_roundw
        case rel =>
          refine ⟨P ++ [x], C, by rw [HL.out]; simp, ?_, ?_, ?_⟩
          · rw [List.filter_append, HA.out]; simp [HX.out, Ha.out]
          · rw [List.filter_append, HD.out]; simp [HX.out, Hd.out]
          · rw [List.filter_append, HA.out, List.filter_cons_of_neg (by simp [HX.out])]; simpa using H3.out
        case measure => simp [intOf]; omega
      · have hb : (x.1.1 == rel) = false := beq_eq_false_iff_ne.2 hx
        have HX := Lib.hid hx
        clear hx
        go_wp2
        go_roundw
        case rel =>
          refine ⟨P ++ [x], C, by rw [HL.out]; simp, ?_, ?_, ?_⟩
          · rw [List.filter_append, HA.out]; simp [HX.out, Ha.out]
          · rw [List.filter_append, HD.out]; simp [HX.out, Hd.out]
          · rw [List.filter_append, HA.out]; simp [HX.out]; exact H1.out
        case measure => simp [intOf]; omega

end Go.Proofs.Ytnnaidladcdbdaa
