/- The reference of chapter 15: what only reads: find, flies, Ready; and New. -/
import Derived.Test.YtnnaidladcdbdaaRef15
namespace Go.Proofs.Ytnnaidladcdbdaa
open Go.RowKit Go.ChangeMaps
open KZ (KK)

/-- A place, or -1. -/
def place15 (j n : Nat) : Int := if j < n then (j : Int) else -1
theorem place15_lt {j n : Nat} (h : j < n) : place15 j n = j := if_pos h
theorem place15_ge {j n : Nat} (h : ¬ j < n) : place15 j n = -1 := if_neg h
theorem bytes_inj {a b : ByteArray} (h : a.toList = b.toList) : a = b := by
  rw [ByteArray.toList_eq, ByteArray.toList_eq] at h
  exact ByteArray.ext (Array.toList_inj.mp h)

/-- An owned slice's shape. -/
theorem own_shape3 {w : World} {base : Nat} {e : TypeId} {size n : Nat} {v : Value} {xs : List Value} (h : w.ownsRow base e size v n xs) :
    ∃ ao cap, v = .slice ao n cap ∧ (0 < n → ∃ g, ao = some ⟨g, 0, none⟩ ∧ ∀ j, j < n * size → w.cell? ⟨g, j, none⟩ = xs[j]?) := by
  rcases h.2 with ⟨hv, hn⟩ | ⟨g, cap, cur, hv, _, hg, _⟩
  · exact ⟨none, 0, by rw [hv, hn], fun h0 => by omega⟩
  · refine ⟨some ⟨g, 0, none⟩, cap, hv, fun _ => ⟨g, rfl, fun j hj => ?_⟩⟩
    subst hv
    exact h.cellAt j hj

/-- A key beside a key, as the walk tests it. -/
theorem key_cases (x k : PK) : (x = k ∧ (x.1 == k.1) = true ∧ (x.2.toList == k.2.toList) = true) ∨ (x ≠ k ∧ (x.1 == k.1) = true ∧ (x.2.toList == k.2.toList) = false) ∨ (x ≠ k ∧ (x.1 == k.1) = false) := by
  by_cases h1 : x.1 = k.1
  · by_cases h2 : x.2 = k.2
    · exact Or.inl ⟨Prod.ext h1 h2, by simp [h1], by simp [h2]⟩
    · exact Or.inr (Or.inl ⟨fun e => h2 (by rw [e]), by simp [h1], beq_eq_false_iff_ne.2 (fun e => h2 (bytes_inj e))⟩)
  · exact Or.inr (Or.inr ⟨fun e => h1 (by rw [e]), beq_eq_false_iff_ne.2 h1⟩)

theorem cell15_lt {w : World} {b o : Nat} {v : Value} (h : w.cell? ⟨b, o, none⟩ = some v) : b < w.heap.size := World.block_lt_of_cell? (a := ⟨b, o, none⟩) _ h

variable {w w' : World} {G : Nat → Prop} {q : Nat} {room : Int} {vk vv vf vr : Value} {ks : List PK} {vs : List Int} {fs : List FR} {rs : List (Int × Int × Int)}

set_option maxRecDepth 100000 in
set_option maxHeartbeats 1000000 in
theorem r15_find (h : R15 w G q room vk vv vf vr ks vs fs rs) (k : PK) (j : Nat) (hn : ks.length ≤ 1000) (hj : j ≤ ks.length) (hne : ∀ i, i < j → ∀ x, ks[i]? = some x → x ≠ k) (hat : ∀ x, ks[j]? = some x → x = k) :
    Calls Try.prog 71 #[.pointer (some ⟨q, 0, none⟩), KK k] w fun e w' => e = .returned (.int .i64 (place15 j ks.length)) ∧ Below w.heap.size w w' := by
  obtain ⟨ao, cap, hv, hcr⟩ : ∃ ao cap, vk = .slice ao ks.length cap ∧ (0 < ks.length → ∃ g, ao = some ⟨g, 0, none⟩ ∧ ∀ j, j < ks.length * 2 → w.cell? ⟨g, j, none⟩ = (KZ.krow ks)[j]?) := own_shape3 (h.rows.1 (krowV vk ks) (by simp)).1
  have c1 := h.c1
  rw [hv] at c1
  obtain ⟨N, hN⟩ : ∃ N, ks.length = N := ⟨_, rfl⟩
  have HN := Lib.hid hN
  rw [hN] at c1 hcr hn hj ⊢
  have hq := h.lt q h.gq
  have hc1 : (w.alloc (.cells #[.int .i64 k.1, .string k.2] 89)).cell? ⟨q, 1, none⟩ = some (.slice ao N cap) := by rw [World.cell?_alloc_lt _ _ _ hq]; exact c1
  have hk : ∀ i, (w.alloc (.cells #[.int .i64 k.1, .string k.2] 89)).cell? ⟨w.heap.size, i, none⟩ = #[Value.int .i64 k.1, .string k.2][i]? := fun i => World.cell?_alloc_new _ _ _ _
  have hk0 : (w.alloc (.cells #[.int .i64 k.1, .string k.2] 89)).cell? ⟨w.heap.size, 0, none⟩ = some (.int .i64 k.1) := by rw [hk]; rfl
  have hk1 : (w.alloc (.cells #[.int .i64 k.1, .string k.2] 89)).cell? ⟨w.heap.size, 1, none⟩ = some (.string k.2) := by rw [hk]; rfl
  have hrow : ∀ i, i < N → ∃ x g, ks[i]? = some x ∧ ao = some ⟨g, 0, none⟩ ∧ (w.alloc (.cells #[.int .i64 k.1, .string k.2] 89)).cell? ⟨g, i * 2, none⟩ = some (.int .i64 x.1) ∧ (w.alloc (.cells #[.int .i64 k.1, .string k.2] 89)).cell? ⟨g, i * 2 + 1, none⟩ = some (.string x.2) := fun i hi => by
    obtain ⟨x, hx⟩ : ∃ x, ks[i]? = some x := ⟨_, List.getElem?_eq_getElem (by rw [hN]; exact hi)⟩
    obtain ⟨h1, h2⟩ := KZ.krow_at _ i x hx
    obtain ⟨g, hg, hgc⟩ := hcr (by omega)
    have e1 := (hgc (i * 2) (by omega)).trans h1
    have e2 := (hgc (i * 2 + 1) (by omega)).trans h2
    exact ⟨x, g, hx, hg, by rw [World.cell?_alloc_lt _ _ _ (cell15_lt e1)]; exact e1, by rw [World.cell?_alloc_lt _ _ _ (cell15_lt e1)]; exact e2⟩
  have hb1 : Below w.heap.size w (w.alloc (.cells #[.int .i64 k.1, .string k.2] 89)) := (Below.refl _ _).alloc (Nat.le_refl _) _
  have HNE := Lib.hid hne
  have HAT := Lib.hid hat
  clear h hv hcr c1 hN hne hat hk
  go_enter Try.func71, Try.ntmps71
  go_upto_region 1 with fail
  change Code.wp _ _ _ _ (w.alloc (.cells #[.int .i64 k.1, .string k.2] 89))
  revert hc1 hk0 hk1 hrow hb1
  generalize w.alloc (.cells #[.int .i64 k.1, .string k.2] 89) = w1
  intro hc1 hk0 hk1 hrow hb1
  have HROW := Lib.hid hrow
  clear hrow
  have HC := Lib.hid (And.intro hc1 (And.intro hk0 hk1))
  clear hc1 hk0 hk1
  go_wp2_with fail
  go_loopw [5] (fun i wr => ∃ m : Nat, i = .int .i64 m ∧ m ≤ j ∧ Below w1.heap.size w1 wr) (fun i _ => j - (intOf i).toNat)
  case atStart => exact ⟨0, rfl, by omega, Below.refl _ _⟩
  case round =>
    obtain ⟨m, rfl, hm, hbr⟩ := hrel
    have keep : ∀ b o v, w1.cell? ⟨b, o, none⟩ = some v → wr.cell? ⟨b, o, none⟩ = some v := fun b o v h => (hbr.cell (p := ⟨b, o, none⟩) (cell15_lt h)).trans h
    have d1 := keep _ _ _ HC.out.1
    have d2 := keep _ _ _ HC.out.2.1
    have d3 := keep _ _ _ HC.out.2.2
    by_cases hlt : m < N
    · obtain ⟨x, g, hx, hao, e1, e2⟩ := HROW.out m hlt
      subst hao
      have e1' := keep _ _ _ e1
      have e2' := keep _ _ _ e2
      have i1 : (m : Int) < (N : Int) := by omega
      have HX := Lib.hid hx
      clear keep e1 e2 hx
      by_cases hmj : m < j
      · have hxk := HNE.out m hmj x HX.out
        rcases key_cases x k with ⟨e, -, -⟩ | ⟨-, b1, b2⟩ | ⟨-, b1⟩
        · exact absurd e hxk
        · clear hxk
          go_wp2_with (go_quiet (fail))
          go_roundw
          case rel => exact ⟨m + 1, by go_num, by omega, below_drewN hbr nq⟩
          case measure => simp [intOf]; omega
        · clear hxk
          go_wp2_with (go_quiet (fail))
          go_roundw
          case rel => exact ⟨m + 1, by go_num, by omega, below_drewN hbr nq⟩
          case measure => simp [intOf]; omega
      · obtain rfl : m = j := by omega
        have hxk := HAT.out x HX.out
        subst hxk
        have hp := place15_lt hlt
        go_wp2_with (go_quiet (fail))
        go_ret
        exact ⟨by rw [hp]; rfl, hb1.trans ((below_drewN hbr nq).mono hb1.size)⟩
    · obtain rfl : j = m := by omega
      have hp := place15_ge hlt
      clear keep
      go_wp2
      go_ret
      exact ⟨by rw [hp]; rfl, hb1.trans (hbr.mono hb1.size)⟩

set_option maxRecDepth 100000 in
set_option maxHeartbeats 1000000 in
theorem r15_flies (h : R15 w G q room vk vv vf vr ks vs fs rs) (k : PK) (j : Nat) (hn : fs.length ≤ 1000) (hj : j ≤ fs.length) (hne : ∀ i, i < j → ∀ x, fs[i]? = some x → x.k ≠ k) (hat : ∀ x, fs[j]? = some x → x.k = k) :
    Calls Try.prog 73 #[.pointer (some ⟨q, 0, none⟩), KK k] w fun e w' => e = .returned (.int .i64 (place15 j fs.length)) ∧ Below w.heap.size w w' := by
  obtain ⟨ao, cap, hv, hcr⟩ : ∃ ao cap, vf = .slice ao fs.length cap ∧ (0 < fs.length → ∃ g, ao = some ⟨g, 0, none⟩ ∧ ∀ j, j < fs.length * 4 → w.cell? ⟨g, j, none⟩ = (frow fs)[j]?) := own_shape3 (h.rows.1 (frowV vf fs) (by simp)).1
  have c1 := h.c3
  rw [hv] at c1
  obtain ⟨N, hN⟩ : ∃ N, fs.length = N := ⟨_, rfl⟩
  have HN := Lib.hid hN
  rw [hN] at c1 hcr hn hj ⊢
  have hq := h.lt q h.gq
  have hc1 : (w.alloc (.cells #[.int .i64 k.1, .string k.2] 89)).cell? ⟨q, 3, none⟩ = some (.slice ao N cap) := by rw [World.cell?_alloc_lt _ _ _ hq]; exact c1
  have hk : ∀ i, (w.alloc (.cells #[.int .i64 k.1, .string k.2] 89)).cell? ⟨w.heap.size, i, none⟩ = #[Value.int .i64 k.1, .string k.2][i]? := fun i => World.cell?_alloc_new _ _ _ _
  have hk0 : (w.alloc (.cells #[.int .i64 k.1, .string k.2] 89)).cell? ⟨w.heap.size, 0, none⟩ = some (.int .i64 k.1) := by rw [hk]; rfl
  have hk1 : (w.alloc (.cells #[.int .i64 k.1, .string k.2] 89)).cell? ⟨w.heap.size, 1, none⟩ = some (.string k.2) := by rw [hk]; rfl
  have hrow : ∀ i, i < N → ∃ (x : FR) (g : Nat), fs[i]? = some x ∧ ao = some ⟨g, 0, none⟩ ∧ (w.alloc (.cells #[.int .i64 k.1, .string k.2] 89)).cell? ⟨g, i * 4, none⟩ = some (.int .i64 x.k.1) ∧ (w.alloc (.cells #[.int .i64 k.1, .string k.2] 89)).cell? ⟨g, i * 4 + 1, none⟩ = some (.string x.k.2) := fun i hi => by
    obtain ⟨x, hx⟩ : ∃ x, fs[i]? = some x := ⟨_, List.getElem?_eq_getElem (by rw [hN]; exact hi)⟩
    obtain ⟨h1, h2, -, -⟩ := frow_at _ i x hx
    obtain ⟨g, hg, hgc⟩ := hcr (by omega)
    have e1 := (hgc (i * 4) (by omega)).trans h1
    have e2 := (hgc (i * 4 + 1) (by omega)).trans h2
    exact ⟨x, g, hx, hg, by rw [World.cell?_alloc_lt _ _ _ (cell15_lt e1)]; exact e1, by rw [World.cell?_alloc_lt _ _ _ (cell15_lt e1)]; exact e2⟩
  have hb1 : Below w.heap.size w (w.alloc (.cells #[.int .i64 k.1, .string k.2] 89)) := (Below.refl _ _).alloc (Nat.le_refl _) _
  have HNE := Lib.hid hne
  have HAT := Lib.hid hat
  clear h hv hcr c1 hN hne hat hk
  go_enter Try.func73, Try.ntmps73
  go_upto_region 1 with fail
  change Code.wp _ _ _ _ (w.alloc (.cells #[.int .i64 k.1, .string k.2] 89))
  revert hc1 hk0 hk1 hrow hb1
  generalize w.alloc (.cells #[.int .i64 k.1, .string k.2] 89) = w1
  intro hc1 hk0 hk1 hrow hb1
  have HROW := Lib.hid hrow
  clear hrow
  have HC := Lib.hid (And.intro hc1 (And.intro hk0 hk1))
  clear hc1 hk0 hk1
  go_wp2_with fail
  go_loopw [5] (fun i wr => ∃ m : Nat, i = .int .i64 m ∧ m ≤ j ∧ Below w1.heap.size w1 wr) (fun i _ => j - (intOf i).toNat)
  case atStart => exact ⟨0, rfl, by omega, Below.refl _ _⟩
  case round =>
    obtain ⟨m, rfl, hm, hbr⟩ := hrel
    have keep : ∀ b o v, w1.cell? ⟨b, o, none⟩ = some v → wr.cell? ⟨b, o, none⟩ = some v := fun b o v h => (hbr.cell (p := ⟨b, o, none⟩) (cell15_lt h)).trans h
    have d1 := keep _ _ _ HC.out.1
    have d2 := keep _ _ _ HC.out.2.1
    have d3 := keep _ _ _ HC.out.2.2
    by_cases hlt : m < N
    · obtain ⟨x, g, hx, hao, e1, e2⟩ := HROW.out m hlt
      subst hao
      have e1' := keep _ _ _ e1
      have e2' := keep _ _ _ e2
      have i1 : (m : Int) < (N : Int) := by omega
      have HX := Lib.hid hx
      clear keep e1 e2 hx
      by_cases hmj : m < j
      · have hxk := HNE.out m hmj x HX.out
        rcases key_cases x.k k with ⟨e, -, -⟩ | ⟨-, b1, b2⟩ | ⟨-, b1⟩
        · exact absurd e hxk
        · clear hxk
          go_wp2_with (go_quiet (fail))
          go_roundw
          case rel => exact ⟨m + 1, by go_num, by omega, below_drewN hbr nq⟩
          case measure => simp [intOf]; omega
        · clear hxk
          go_wp2_with (go_quiet (fail))
          go_roundw
          case rel => exact ⟨m + 1, by go_num, by omega, below_drewN hbr nq⟩
          case measure => simp [intOf]; omega
      · obtain rfl : m = j := by omega
        have hxk := HAT.out x HX.out
        subst hxk
        have hp := place15_lt hlt
        go_wp2_with (go_quiet (fail))
        go_ret
        exact ⟨by rw [hp]; rfl, hb1.trans ((below_drewN hbr nq).mono hb1.size)⟩
    · obtain rfl : j = m := by omega
      have hp := place15_ge hlt
      clear keep
      go_wp2
      go_ret
      exact ⟨by rw [hp]; rfl, hb1.trans (hbr.mono hb1.size)⟩


set_option maxRecDepth 100000 in
set_option maxHeartbeats 1000000 in
theorem r15_ready (h : R15 w G q room vk vv vf vr ks vs fs rs) (i : Int) (hn : rs.length ≤ 10000) :
    Calls Try.prog 54 #[.pointer (some ⟨q, 0, none⟩), .int .i64 i] w fun e w' => e = .returned (.bool (decide (i ∈ rs.map Prod.fst))) ∧ w = w' := by
  obtain ⟨ao, cap, hv, hcr⟩ : ∃ ao cap, vr = .slice ao rs.length cap ∧ (0 < rs.length → ∃ g, ao = some ⟨g, 0, none⟩ ∧ ∀ j, j < rs.length * 3 → w.cell? ⟨g, j, none⟩ = (rrow rs)[j]?) := own_shape3 (h.rows.1 (rrowV vr rs) (by simp)).1
  have c1 := h.c4
  rw [hv] at c1
  obtain ⟨N, hN⟩ : ∃ N, rs.length = N := ⟨_, rfl⟩
  have HN := Lib.hid hN
  rw [hN] at c1 hcr hn
  have hrow : ∀ m, m < N → ∃ (x : Int × Int × Int) (g : Nat), rs[m]? = some x ∧ ao = some ⟨g, 0, none⟩ ∧ w.cell? ⟨g, m * 3, none⟩ = some (.int .i64 x.1) := fun m hm => by
    obtain ⟨x, hx⟩ : ∃ x, rs[m]? = some x := ⟨_, List.getElem?_eq_getElem (by rw [hN]; exact hm)⟩
    obtain ⟨h1, -, -⟩ := rrow_at _ m x hx
    obtain ⟨g, hg, hgc⟩ := hcr (by omega)
    exact ⟨x, g, hx, hg, (hgc (m * 3) (by omega)).trans h1⟩
  have HROW := Lib.hid hrow
  clear h hv hcr hN hrow
  go_enter Try.func54, Try.ntmps54
  go_wp2_with fail
  go_loop [5] (fun x => ∃ m : Nat, x = .int .i64 m ∧ m ≤ N ∧ ∀ y ∈ rs.take m, y.1 ≠ i) (fun x => N - (intOf x).toNat)
  case atStart => exact ⟨0, rfl, by omega, (fun _ h => by simp at h)⟩
  case round =>
    obtain ⟨m, rfl, hm, hno⟩ := hrel
    have HNO := Lib.hid hno
    clear hno
    by_cases hlt : m < N
    · obtain ⟨x, g, hx, hao, e1⟩ := HROW.out m hlt
      subst hao
      have i1 : (m : Int) < (N : Int) := by omega
      by_cases hxi : x.1 = i
      · have hb : (x.1 == i) = true := beq_iff_eq.2 hxi
        have hmem : decide (i ∈ rs.map Prod.fst) = true := decide_eq_true (by rw [← hxi]; exact List.mem_map_of_mem (List.mem_of_getElem? hx))
        have HMEM := Lib.hid hmem
        clear hxi hx hmem
        go_wp2
        go_ret
        exact ⟨by rw [HMEM.out]; rfl, rfl⟩
      · have hb : (x.1 == i) = false := beq_eq_false_iff_ne.2 hxi
        have HS := Lib.hid (show ∀ y ∈ rs.take (m + 1), y.1 ≠ i from fun y hy => by
          obtain ⟨hl, e⟩ := List.getElem?_eq_some_iff.1 hx
          rw [List.take_succ_eq_append_getElem hl, e] at hy
          rcases List.mem_append.1 hy with hy | hy
          · exact HNO.out y hy
          · simp only [List.mem_singleton] at hy; rw [hy]; exact hxi)
        clear hxi hx
        go_wp2
        exact ⟨⟨m + 1, by go_num, by omega, HS.out⟩, by simp [intOf]; omega⟩
    · obtain rfl : m = N := by omega
      have hmem : decide (i ∈ rs.map Prod.fst) = false := decide_eq_false (fun h => by
        obtain ⟨y, hy, e⟩ := List.mem_map.1 h
        exact HNO.out y (by rw [List.take_of_length_le (by rw [HN.out]; exact Nat.le_refl _)]; exact hy) e)
      have HMEM := Lib.hid hmem
      clear hmem
      go_wp2
      go_ret
      exact ⟨by rw [HMEM.out]; rfl, rfl⟩

set_option maxRecDepth 100000 in
set_option maxHeartbeats 1000000 in
theorem r15_new (room : Int) (w : World) : Calls Try.prog 47 #[.int .i64 room] w fun e w' => e = .returned (.pointer (some ⟨w.heap.size, 0, none⟩)) ∧
    R15 w' (fun b => b = w.heap.size) w.heap.size (max 1 room) (.slice none 0 0) (.slice none 0 0) (.slice none 0 0) (.slice none 0 0) [] [] [] [] ∧ Below w.heap.size w w' := by
  have hfin : ∀ r : Int, max 1 room = r → R15 (w.alloc (.cells #[.int .i64 r, .slice none 0 0, .slice none 0 0, .slice none 0 0, .slice none 0 0] 101)) (fun b => b = w.heap.size) w.heap.size (max 1 room) (.slice none 0 0) (.slice none 0 0) (.slice none 0 0) (.slice none 0 0) [] [] [] [] := fun r hr => by
    have hc : ∀ j, (w.alloc (.cells #[.int .i64 r, .slice none 0 0, .slice none 0 0, .slice none 0 0, .slice none 0 0] 101)).cell? ⟨w.heap.size, j, none⟩ = #[Value.int .i64 r, .slice none 0 0, .slice none 0 0, .slice none 0 0, .slice none 0 0][j]? := fun j => World.cell?_alloc_new _ _ _ _
    refine ⟨by rw [hc, hr]; rfl, by rw [hc]; rfl, by rw [hc]; rfl, by rw [hc]; rfl, by rw [hc]; rfl, fun o => World.frozen?_alloc_new _ _ _ _, rfl, ⟨fun r hr => ?_, ?_⟩, fun b hb => by rw [hb]; simp⟩
    · simp only [List.map_nil, List.append_nil, List.mem_cons, List.not_mem_nil, or_false] at hr
      rcases hr with rfl | rfl | rfl | rfl <;> exact ⟨⟨rfl, Or.inl ⟨rfl, rfl⟩⟩, fun b hb => by cases hb⟩
    · simp [Value.ownBlock]
  rcases Int.lt_trichotomy room 1 with hr | hr | hr
  · have h1 := hfin 1 (by omega)
    have H := Lib.hid h1
    clear hfin h1
    go_enter Try.func47, Try.ntmps47
    go_wp2
    go_ret
    exact ⟨rfl, H.out, (Below.refl _ _).alloc (Nat.le_refl _) _⟩
  · subst hr
    have h1 := hfin 1 (by omega)
    have H := Lib.hid h1
    clear hfin h1
    go_enter Try.func47, Try.ntmps47
    go_wp2
    go_ret
    exact ⟨rfl, H.out, (Below.refl _ _).alloc (Nat.le_refl _) _⟩
  · have h1 := hfin room (by omega)
    have H := Lib.hid h1
    clear hfin h1
    go_enter Try.func47, Try.ntmps47
    go_wp2
    go_ret
    exact ⟨rfl, H.out, (Below.refl _ _).alloc (Nat.le_refl _) _⟩

end Go.Proofs.Ytnnaidladcdbdaa
