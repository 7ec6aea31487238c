/- The reference of chapter 15: Result, in the words of its state. -/
import Derived.Test.YtnnaidladcdbdaaRef15G
namespace Go.Proofs.Ytnnaidladcdbdaa
open Go.RowKit Go.ChangeMaps
open KZ (KK)

theorem rrow_take : ∀ (l : List (Int × Int × Int)) (k : Nat), (rrow l).take (k * 3) = rrow (l.take k)
  | [], k => by simp [rrow]
  | x :: r, 0 => by simp [rrow]
  | x :: r, k + 1 => by
    have e : (k + 1) * 3 = k * 3 + 1 + 1 + 1 := by omega
    rw [e, List.take_succ_cons, rrow, List.take_succ_cons, List.take_succ_cons, List.take_succ_cons, rrow_take r k, rrow]
theorem rrow_drop : ∀ (l : List (Int × Int × Int)) (k : Nat), (rrow l).drop (k * 3) = rrow (l.drop k)
  | [], k => by simp [rrow]
  | x :: r, 0 => by simp
  | x :: r, k + 1 => by
    have e : (k + 1) * 3 = k * 3 + 1 + 1 + 1 := by omega
    rw [e, List.drop_succ_cons, rrow, List.drop_succ_cons, List.drop_succ_cons, List.drop_succ_cons, rrow_drop r k]
theorem rrow_cut (l : List (Int × Int × Int)) (k : Nat) : (rrow l).take (k * 3) ++ (rrow l).drop ((k + 1) * 3) = rrow (l.eraseIdx k) := by
  rw [rrow_take, rrow_drop, ← rrow_append, List.eraseIdx_eq_take_drop_succ]

variable {w w' : World} {G : Nat → Prop} {q : Nat} {room : Int} {vk vv vf vr : Value} {ks : List PK} {vs : List Int} {l : List (PK × Int)} {fs : List FR} {rs : List (Int × Int × Int)}

theorem R15.newRes {rs' : List (Int × Int × Int)} {wc : World} (h : R15 w G q room vk vv vf vr ks vs fs rs) (hc : CutPost q 4 148 3 rs'.length (rrow rs') w wc) : ∃ vr', R15 wc (fresh15 G w wc) q room vk vv vf vr' ks vs fs rs' ∧ Ch (fun b => b = q) w wc := by
  obtain ⟨g, cap, d, hown, hlo, hhi, hch, hcl, hfl⟩ := hc
  have lq := h.lt q h.gq
  refine ⟨_, ⟨(hcl 0 (by omega)).trans h.c0, (hcl 1 (by omega)).trans h.c1, (hcl 2 (by omega)).trans h.c2, (hcl 3 (by omega)).trans h.c3, d, fun o => (hfl o).trans (h.fz o), Or.inl h.gq,
    RowsAt.set (A := [krowV vk ks, vrowV vv vs, frowV vf fs]) (r' := rrowV _ rs') h.rows h.lt (hch.mono (fun _ _ e => Or.inr e)) lq hown (fun b hb => by cases hb; exact Or.inr ⟨hlo, hhi⟩), fun b hb => ?_⟩, hch⟩
  rcases hb with hb | hb
  · exact Nat.lt_of_lt_of_le (h.lt b hb) hch.size
  · exact hb.2

/-- A worker's result is there. -/
theorem rl_result_hit (h : RL w G q room l fs rs) (i : Int) (hn : rs.length ≤ 10000) (k : Nat) (x : Int × Int × Int) (hx : rs[k]? = some x) (hxi : x.1 = i) (hne : ∀ m, m < k → ∀ y, rs[m]? = some y → y.1 ≠ i) :
    Calls Try.prog 50 #[.pointer (some ⟨q, 0, none⟩), .int .i64 i] w fun e w' => e = .returned (.tuple #[.int .i64 x.2.1, .int .i64 x.2.2, .bool true]) ∧ RLs w G q room l fs (rs.eraseIdx k) w' := by
  obtain ⟨vk, vv, vf, vr, h⟩ := h
  have hkn := (List.getElem?_eq_some_iff.1 hx).1
  obtain ⟨o1, g1⟩ := h.rows.1 (rrowV vr rs) (by simp)
  obtain ⟨gk, ck, e1, _, _⟩ := o1.form (show 0 < rs.length by omega)
  have e1' : vr = .slice (some ⟨gk, 0, none⟩) rs.length ck := e1
  subst e1'
  refine (r15_result_a q gk rs.length ck k i rs x w h.c4 h.fz o1 rfl hn (g1 gk rfl).2 hx hxi hne).mono ?_
  rintro e w' ⟨he, wx, wc, hb1, p1, hb2⟩
  have l1 : (rs.eraseIdx k).length = rs.length - 1 := by rw [List.length_eraseIdx]; simp [hkn]
  rw [rrow_cut, ← l1] at p1
  obtain ⟨vr', h2, hc2⟩ := (h.kept (Ch.of_none hb1 (fun _ => False)) (fun _ _ h => h)).newRes p1
  have h3 := h2.kept (Ch.of_none hb2 (fun _ => False)) (fun _ _ h => h)
  have s1 := hb1.size
  have s2 := hc2.size
  have s3 := hb2.size
  refine ⟨he, ⟨vk, vv, vf, vr', h3.more (fun b hb => hb.imp id (fun hb => ⟨by omega, by omega⟩)) (fun b hb => hb.elim (fun hb => by have := h.lt b hb; omega) (fun hb => hb.2))⟩, ?_⟩
  exact ((Ch.of_none hb1 G).trans (hc2.mono (G := G) (fun b _ e => by rw [e]; exact h.gq)) (fun _ _ h => h)).trans (Ch.of_none hb2 (fun _ => False)) (fun _ _ h => h.elim)

set_option maxRecDepth 100000 in
set_option maxHeartbeats 2000000 in
/-- A worker has none. -/
theorem rl_result_miss (h : RL w G q room l fs rs) (i : Int) (hn : rs.length ≤ 10000) (hno : ∀ y ∈ rs, y.1 ≠ i) :
    Calls Try.prog 50 #[.pointer (some ⟨q, 0, none⟩), .int .i64 i] w fun e w' => e = .returned (.tuple #[.int .i64 0, .int .i64 0, .bool false]) ∧ Below w.heap.size w w' := by
  obtain ⟨vk, vv, vf, vr, h⟩ := h
  obtain ⟨ao, cap, hv, hcr⟩ : ∃ ao cap, vr = .slice ao rs.length cap ∧ (0 < rs.length → ∃ g, ao = some ⟨g, 0, none⟩ ∧ ∀ j, j < rs.length * 3 → w.cell? ⟨g, j, none⟩ = (rrow rs)[j]?) := own_shape3 (h.rows.1 (rrowV vr rs) (by simp)).1
  have c1 := h.c4
  rw [hv] at c1
  obtain ⟨N, hN⟩ : ∃ N, rs.length = N := ⟨_, rfl⟩
  rw [hN] at c1 hcr hn
  have hrow : ∀ m, m < N → ∃ (x : Int × Int × Int) (g : Nat), x.1 ≠ i ∧ ao = some ⟨g, 0, none⟩ ∧ w.cell? ⟨g, m * 3, none⟩ = some (.int .i64 x.1) ∧ w.cell? ⟨g, m * 3 + 1, none⟩ = some (.int .i64 x.2.1) ∧ w.cell? ⟨g, m * 3 + 2, none⟩ = some (.int .i64 x.2.2) := fun m hm => by
    obtain ⟨x, hx⟩ : ∃ x, rs[m]? = some x := ⟨_, List.getElem?_eq_getElem (by rw [hN]; exact hm)⟩
    obtain ⟨h1, h2, h3⟩ := rrow_at _ m x hx
    obtain ⟨g, hg, hgc⟩ := hcr (by omega)
    exact ⟨x, g, hno x (List.mem_of_getElem? hx), hg, (hgc (m * 3) (by omega)).trans h1, (hgc (m * 3 + 1) (by omega)).trans h2, (hgc (m * 3 + 2) (by omega)).trans h3⟩
  have HROW := Lib.hid hrow
  have C1 := Lib.hid c1
  clear h hv hcr hN hrow hno c1
  go_enter Try.func50, Try.ntmps50
  go_wp2_with fail
  go_loopw [7] (fun y wr => ∃ m : Nat, y = .int .i64 m ∧ m ≤ N ∧ Below w.heap.size w wr) (fun y _ => N - (intOf y).toNat)
  case atStart => exact ⟨0, rfl, by omega, Below.refl _ _⟩
  case round =>
    obtain ⟨m, rfl, hm, hbr⟩ := hrel
    have keep : ∀ b o v, w.cell? ⟨b, o, none⟩ = some v → wr.cell? ⟨b, o, none⟩ = some v := fun b o v h => (hbr.cell (p := ⟨b, o, none⟩) (cell15_lt h)).trans h
    have d1 := keep _ _ _ C1.out
    have HBR := Lib.hid hbr
    by_cases hlt : m < N
    · obtain ⟨x, g, hxi, hao, e0, e1, e2⟩ := HROW.out m hlt
      subst hao
      have f0 := keep _ _ _ e0
      have f1 := keep _ _ _ e1
      have f2 := keep _ _ _ e2
      have hb : (x.1 == i) = false := beq_eq_false_iff_ne.2 hxi
      have i1 : (m : Int) < (N : Int) := by omega
      clear keep e0 e1 e2 hbr hxi
      go_wp2
      go_roundw
      case rel => exact ⟨m + 1, by go_num, by omega, HBR.out.alloc HBR.out.size _⟩
      case measure => simp [intOf]; omega
    · obtain rfl : m = N := by omega
      clear keep hbr
      go_wp2
      go_ret3
      exact ⟨rfl, HBR.out⟩

end Go.Proofs.Ytnnaidladcdbdaa
