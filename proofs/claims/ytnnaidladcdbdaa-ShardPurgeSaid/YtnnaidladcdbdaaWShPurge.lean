/- The walk of ShardPurge: the call answers true. -/
import Derived.Test.YtnnaidladcdbdaaSiteR
import Derived.Test.YtnnaidladcdbdaaWOwn
import Derived.Test.YtnnaidladcdbdaaBits
import Derived.Laws.IdiomStrings
import Derived.StillTailTactics
import Derived.Deep.DeepCutAuto
import Derived.Deep.CutBlock
import Derived.OpenShut
namespace Go.Proofs.Ytnnaidladcdbdaa
open Go.RowKit Go.ChangeMaps
open KZ (SV sv ZA KK)

/-- What is known of a slice of ints that came in. -/
def InInts (w : World) (a : Option Addr) (len cap : Nat) (zs : List Int) : Prop :=
  (a = none ∧ len = 0 ∧ cap = 0 ∧ zs = []) ∨
  ∃ x, a = some x ∧ len ≤ cap ∧ cap ≤ maxLen ∧ zs.length = cap ∧ (∀ i, i < zs.length → w.cell? (x.add i) = some (.int .i64 (zs.getD i 0))) ∧ ∀ n ∈ zs, (Lit.int .i64 n).wf = true
theorem InInts.len_le {w : World} {a : Option Addr} {len cap : Nat} {zs : List Int} (h : InInts w a len cap zs) : len ≤ 9223372036854775807 := by
  rcases h with ⟨_, rfl, _⟩ | ⟨x, _, h1, h2, _⟩
  · omega
  · unfold maxLen at h2; omega
theorem InInts.at {w : World} {a : Option Addr} {len cap : Nat} {zs : List Int} (h : InInts w a len cap zs) {k : Nat} (hk : k < len) :
    ∃ b off, a = some ⟨b, off, none⟩ ∧ b < w.heap.size ∧ w.cell? ⟨b, off + k, none⟩ = some (.int .i64 (zs.getD k 0)) := by
  rcases h with ⟨_, rfl, _⟩ | ⟨x, rfl, h1, h2, h3, h4, h5⟩
  · omega
  · obtain ⟨b, off, rfl, hc⟩ := ints_at h4 (by omega)
    have hck := hc k (by omega)
    exact ⟨b, off, rfl, World.block_lt_of_cell? (a := ⟨b, off + k, none⟩) _ hck, hck⟩

/-- A number's release. -/
def relOf (z : Int) : Int := 1 + (z % 65536) % 5
theorem relOf_eq (z : Int) : wrap64 (1 + (bits .and .i64 z 65535).tmod 5) = relOf z := by
  rw [i64_and65535, Int.tmod_eq_emod_of_nonneg (by omega)]
  unfold relOf
  exact IntWalk.wrap64_in _ (by omega)
theorem relOf_lo (z : Int) : 1 ≤ relOf z ∧ relOf z ≤ 5 := by unfold relOf; omega
/-- The j-th key. -/
def kj (zs : List Int) (j : Nat) : PK := (relOf (zs.getD j 0), ⟨#[UInt8.ofNat (48 + j)]⟩)
theorem ok_kj (zs : List Int) (j : Nat) : KP.ok (kj zs j) := ⟨WalkArith.wf_i64 (by have := relOf_lo (zs.getD j 0); unfold kj; simp only; omega), by show (1 : Nat) ≤ maxLen; unfold maxLen; omega⟩
theorem kj_inj {zs : List Int} {i j : Nat} (hi : i < 60) (hj : j < 60) (h : kj zs i = kj zs j) : i = j := by
  unfold kj at h
  simp only [Prod.mk.injEq, ByteArray.mk.injEq] at h
  have h2 : UInt8.ofNat (48 + i) = UInt8.ofNat (48 + j) := by simpa using h.2
  have h3 := congrArg UInt8.toNat h2
  rw [UInt8.toNat_ofNat', UInt8.toNat_ofNat'] at h3
  omega
/-- What is complete behind i rounds. -/
def dj (zs : List Int) (i : Nat) : List (PK × Option Int) := (List.range i).map fun j => (kj zs j, some (j : Int))
theorem dj_len (zs : List Int) (i : Nat) : (dj zs i).length = i := by simp [dj]
theorem dj_keys (zs : List Int) (i : Nat) : (dj zs i).map Prod.fst = (List.range i).map (kj zs) := by unfold dj; rw [List.map_map]; rfl
theorem dj_has {zs : List Int} {i : Nat} (hi : i < 60) : has (dj zs i) (kj zs i) = false := has_false.2 (fun h => by
  rw [dj_keys] at h
  obtain ⟨j, hj, e⟩ := List.mem_map.1 h
  have hj' := List.mem_range.1 hj
  have := kj_inj (by omega) hi e
  omega)
theorem dj_put {zs : List Int} {i : Nat} (hi : i < 60) : putS (max 1 60) (dj zs i) (kj zs i) (some (i : Int)) = dj zs (i + 1) := by
  unfold putS goes
  rw [dj_has hi, dj_len]
  have : decide (max 1 60 ≤ (i : Int)) = false := decide_eq_false (by omega)
  rw [this]
  simp only [Bool.not_false, Bool.true_and, Bool.false_eq_true, if_false]
  unfold dj
  rw [List.range_succ, List.map_append]; rfl
theorem pg_how {zs : List Int} {i : Nat} (hi : i < 60) : beginF (dj zs i) [] (kj zs i) 1 = [(kj zs i, 1, [])] := by unfold beginF; rw [dj_has hi]; rfl
theorem pg_get {zs : List Int} {i : Nat} (hi : i < 60) : getS (dj zs i) (kj zs i) none = dj zs i := by unfold getS; rw [dj_has hi]; rfl
theorem pg_del (k : PK) : del [(k, (1 : Int), ([] : List Int))] k = [] := by simp [del]
/-- The keys that stay, and how many go. -/
def wj (zs : List Int) (W : Int) (i : Nat) : List PK := ((List.range i).map (kj zs)).filter fun k => decide (k.1 ≠ W)
def gj (zs : List Int) (W : Int) (i : Nat) : Nat := (((List.range i).map (kj zs)).filter fun k => decide (k.1 = W)).length
theorem wj_yes {zs : List Int} {W : Int} {i : Nat} (h : (kj zs i).1 ≠ W) : wj zs W (i + 1) = wj zs W i ++ [kj zs i] ∧ gj zs W (i + 1) = gj zs W i := by
  unfold wj gj
  rw [List.range_succ, List.map_append, List.filter_append, List.filter_append]
  simp [h]
theorem wj_no {zs : List Int} {W : Int} {i : Nat} (h : (kj zs i).1 = W) : wj zs W (i + 1) = wj zs W i ∧ gj zs W (i + 1) = gj zs W i + 1 := by
  unfold wj gj
  rw [List.range_succ, List.map_append, List.filter_append, List.filter_append]
  simp [h]
theorem gj_le (zs : List Int) (W : Int) (i : Nat) : gj zs W i ≤ i := by
  unfold gj
  exact Nat.le_trans (List.length_filter_le _ _) (by simp)
theorem wj_le (zs : List Int) (W : Int) (i : Nat) : (wj zs W i).length ≤ i := by
  unfold wj
  exact Nat.le_trans (List.length_filter_le _ _) (by simp)
/-- What stays of the entries. -/
def sj (zs : List Int) (W : Int) (i : Nat) : List (PK × Option Int) := (dj zs i).filter fun x => decide (x.1.1 ≠ W)
theorem sj_keys (zs : List Int) (W : Int) (i : Nat) : (sj zs W i).map Prod.fst = wj zs W i := by
  unfold sj wj
  rw [← dj_keys, List.filter_map]; rfl
theorem sj_len (zs : List Int) (W : Int) (i : Nat) : (sj zs W i).length = (wj zs W i).length := by rw [← sj_keys, List.length_map]
theorem sj_again (zs : List Int) (W : Int) (i : Nat) : ((sj zs W i).filter fun x => decide (x.1.1 ≠ W)) = sj zs W i ∧ ((((sj zs W i).map Prod.fst).filter fun k => decide (k.1 = W)).length : Nat) = 0 := by
  constructor
  · refine List.filter_eq_self.2 (fun x hx => ?_)
    unfold sj at hx
    exact (List.mem_filter.1 hx).2
  · rw [sj_keys]
    unfold wj
    rw [List.filter_filter, List.filter_eq_nil_iff.2 (fun x hx => by simp)]; rfl
theorem gj_eq (zs : List Int) (W : Int) (i : Nat) : (((dj zs i).map Prod.fst).filter fun k => decide (k.1 = W)).length = gj zs W i := by rw [dj_keys]; rfl
/-- An owned slice's shape. -/
theorem own_shape2 {w : World} {base : Nat} {e : TypeId} {size n : Nat} {v : Value} {xs : List Value} (h : w.ownsRow base e size v n xs) :
    ∃ ao cap, v = .slice ao n cap ∧ (0 < n → ∃ g, ao = some ⟨g, 0, none⟩ ∧ ∀ j, j < n * size → w.cell? ⟨g, j, none⟩ = xs[j]?) := by
  rcases h.2 with ⟨hv, hn⟩ | ⟨g, cap, cur, hv, _, hg, _⟩
  · exact ⟨none, 0, by rw [hv, hn], fun h0 => by omega⟩
  · refine ⟨some ⟨g, 0, none⟩, cap, hv, fun _ => ⟨g, rfl, fun j hj => ?_⟩⟩
    subst hv
    exact h.cellAt j hj
theorem conv1 (c : UInt8) (wx : World) (b : Nat) (h : wx.cell? ⟨b, 0, none⟩ = some (.int .u8 (c.toNat : Int))) : (convert 78 9 (.slice (some ⟨b, 0, none⟩) 1 1)).run Try.prog wx = .ok (.string ⟨#[c]⟩) wx :=
  run_convert_bytes_back wx 78 9 5 ⟨b, 0, none⟩ 1 [c] Try.underlying78 Try.underlying5 Try.underlying9 (fun j hj => by
    have hj0 : j = 0 := by simp at hj; exact hj
    subst hj0
    have : (⟨b, 0, none⟩ : Addr).add 0 = ⟨b, 0, none⟩ := by simp [Addr.add]
    rw [this]; exact h)

set_option maxRecDepth 100000 in
set_option maxHeartbeats 8000000 in
theorem purge_walk (a0 : Option Addr) (len0 cap0 : Nat) (zs : List Int) (a1 : Int) (w : World) (hrow : InInts w a0 len0 cap0 zs) :
    Calls Try.prog 13 #[.slice a0 len0 cap0, .int .i64 a1] w fun e w' => e = .returned (.bool true) ∧ Below w.heap.size w w' := by
  obtain ⟨W, hW⟩ : ∃ W, relOf a1 = W := ⟨_, rfl⟩
  have hWe := relOf_eq a1
  rw [hW] at hWe
  clear hW
  have hlen := hrow.len_le
  have HROW := Lib.hid hrow
  clear hrow
  go_enter Try.func13, Try.ntmps13
  go_wp2_with fail
  refine (shown35 w).mono ?_
  rintro e w1 ⟨rfl, hb1⟩
  go_wp2_with fail
  rw [hWe]
  clear hWe
  refine (site_new 60 w w1 hb1).mono ?_
  rintro e w2 ⟨p, rfl, s2⟩
  have S2 := Lib.hid (SiteR.of s2)
  clear s2 hb1
  go_upto_block 0 with fail
  go_cut [7, 8, 9] (fun v n _ wx => ∃ i : Nat, i ≤ 60 ∧ n = .int .i64 (gj zs W i) ∧ SiteR w.heap.size w wx p (max 1 60) (dj zs i) [] [] [] v (wj zs W i) [])
  case rest =>
    obtain ⟨I, hI, hn, s5⟩ := hcut
    subst hn
    clear S2
    obtain ⟨w50, hw50⟩ : ∃ x, x = wc := ⟨_, rfl⟩
    subst hw50
    have S := Lib.hid s5
    clear s5
    have HGL := Lib.hid (gj_le zs W I)
    have q := siter_purge S.out W (by rw [dj_len]; omega)
    rw [gj_eq] at q
    have Q := Lib.hid q
    clear q S
    go_wp2_with fail
    refine Q.out.mono ?_
    clear Q
    rintro e w51 ⟨rfl, s⟩
    have s' : SiteR w.heap.size w w51 p (max 1 60) (sj zs W I) [] [] [] _ (wj zs W I) [] := s
    have S := Lib.hid s'
    clear s s'
    have q := siter_purge S.out W (by rw [sj_len]; have := wj_le zs W I; omega)
    rw [(sj_again zs W I).1, (sj_again zs W I).2] at q
    have Q := Lib.hid q
    clear q S
    go_wp2_with fail
    refine Q.out.mono ?_
    clear Q
    rintro e w52 ⟨rfl, s⟩
    have S := Lib.hid s
    clear s
    have hNl := wj_le zs W I
    have q := siter_keys S.out (by rw [sj_len]; omega)
    rw [sj_len, sj_keys] at q
    have Q := Lib.hid q
    clear q S
    obtain ⟨N, hN⟩ : ∃ N, (wj zs W I).length = N := ⟨_, rfl⟩
    rw [hN] at Q hNl
    go_wp2_with fail
    refine Q.out.mono ?_
    clear Q
    rintro e w53 ⟨rfl, hown, s⟩
    have hrow := s.row
    rw [hN] at hrow
    obtain ⟨ao, cap, hv, hcr⟩ := own_shape2 hrow
    subst hv
    have hbl := s.below
    have HB := Lib.hid hbl
    have hKc : ∀ j, j < N → ∃ k : PK, w53.cell? ⟨w52.heap.size, j * 2, none⟩ = some (.int .i64 k.1) ∧ w53.cell? ⟨w52.heap.size, j * 2 + 1, none⟩ = some (.string k.2) ∧ ∃ g, ao = some ⟨g, 0, none⟩ ∧ w53.cell? ⟨g, j * 2, none⟩ = some (.int .i64 k.1) ∧ w53.cell? ⟨g, j * 2 + 1, none⟩ = some (.string k.2) := fun j hj => by
      obtain ⟨k, hk⟩ : ∃ k, (wj zs W I)[j]? = some k := ⟨_, List.getElem?_eq_getElem (by rw [hN]; exact hj)⟩
      obtain ⟨h1, h2⟩ := KZ.krow_at _ j k hk
      obtain ⟨g, hg, hgc⟩ := hcr (by omega)
      exact ⟨k, (hown.cellAt (j * 2) (by omega)).trans h1, (hown.cellAt (j * 2 + 1) (by omega)).trans h2, g, hg, (hgc (j * 2) (by omega)).trans h1, (hgc (j * 2 + 1) (by omega)).trans h2⟩
    have HKC := Lib.hid hKc
    have b1 : (((gj zs W I : Nat) : Int) != ((gj zs W I : Nat) : Int)) = false := by simp
    have b2 : ((N : Int) != (N : Int)) = false := by simp
    clear hKc hown hrow hcr hbl hN s
    go_wp2_with fail
    go_loopw [14] (fun i wr => ∃ j : Nat, i = .int .i64 j ∧ j ≤ N ∧ Below w53.heap.size w53 wr) (fun i _ => N - (intOf i).toNat)
    case atStart => exact ⟨0, rfl, by omega, Below.refl _ _⟩
    case round =>
      obtain ⟨j, rfl, hj, hbj⟩ := hrel
      by_cases hlt : j < N
      · obtain ⟨k, c0, c1, g, hao, d0, d1⟩ := HKC.out j hlt
        subst hao
        have keep : ∀ b o v, w53.cell? ⟨b, o, none⟩ = some v → wr.cell? ⟨b, o, none⟩ = some v := fun b o v h => (hbj.cell (p := ⟨b, o, none⟩) (cell_lt h)).trans h
        have c0' := keep _ _ _ c0
        have c1' := keep _ _ _ c1
        have d0' := keep _ _ _ d0
        have d1' := keep _ _ _ d1
        have i1 : (j : Int) < (N : Int) := by omega
        clear keep c0 c1 d0 d1
        go_wp2_with fail
        go_quiet (fail)
        go_wp2
        exact ⟨⟨j + 1, by go_num, by omega, below_drewN hbj nq⟩, by simp [intOf]; omega⟩
      · obtain rfl : j = N := by omega
        go_wp2
        go_ret
        exact ⟨rfl, HB.out.trans (hbj.mono HB.out.size)⟩
  case first =>
    go_wp2_with fail
    go_loopw [7, 8, 9] (fun v n i wr => ∃ k : Nat, i = .int .i64 k ∧ k ≤ len0 ∧ k ≤ 60 ∧ n = .int .i64 (gj zs W k) ∧ SiteR w.heap.size w wr p (max 1 60) (dj zs k) [] [] [] v (wj zs W k) []) (fun _ _ i _ => 60 - (intOf i).toNat)
    case atStart => exact ⟨0, rfl, by omega, by omega, rfl, S2.out⟩
    case round =>
      obtain ⟨k, rfl, hk, hk60, rfl, s4⟩ := hrel
      clear S2
      have S := Lib.hid s4
      clear s4
      by_cases hlt : k < len0 ∧ k < 60
      · obtain ⟨hlt1, hlt2⟩ := hlt
        obtain ⟨b, off, ha, hbw, hc0⟩ := HROW.out.at hlt1
        subst ha
        have hcr : wr.cell? ⟨b, off + k, none⟩ = some (.int .i64 (zs.getD k 0)) := (S.out.below.cell (p := ⟨b, off + k, none⟩) hbw).trans hc0
        have hbl : b < wr.heap.size := Nat.lt_of_lt_of_le hbw S.out.below.size
        have hcr1 : ∀ o, (wr.alloc o).cell? ⟨b, off + k, none⟩ = some (.int .i64 (zs.getD k 0)) := fun o => by rw [World.cell?_alloc_lt _ _ _ hbl]; exact hcr
        have hcr2 : ∀ o o', ((wr.alloc o).alloc o').cell? ⟨b, off + k, none⟩ = some (.int .i64 (zs.getD k 0)) := fun o o' => by rw [World.cell?_alloc_lt _ _ _ (by simp; omega)]; exact hcr1 o
        have HC0 := Lib.hid (And.intro hbw hc0)
        obtain ⟨z, hz⟩ : ∃ z, zs.getD k 0 = z := ⟨_, rfl⟩
        rw [hz] at hcr hcr1 hcr2
        have HZ := Lib.hid hz
        have hrz := relOf_eq z
        have i1 : (k : Int) < (len0 : Int) := by omega
        have hgk := gj_le zs W k
        have h48 : ((UInt8.ofNat (48 + k)).toNat : Int) = 48 + (k : Int) := by rw [UInt8.toNat_ofNat']; omega
        obtain ⟨c, hcd⟩ : ∃ c, UInt8.ofNat (48 + k) = c := ⟨_, rfl⟩
        have hconv := conv1 c
        rw [hcd] at h48
        rw [h48] at hconv
        have hkj : kj zs k = (relOf z, ⟨#[c]⟩) := by unfold kj; rw [hz, hcd]
        have s5 := ((S.out.addKey (b := wr.heap.size + 1) (k := kj zs k) (((Below.refl _ wr).alloc (Nat.le_refl _) (.cells #[.int .u8 (48 + (k : Int))] 5)).alloc (by simp) (.cells #[.int .i64 (relOf z), .string ⟨#[c]⟩] 58)) (by omega)
          (by have := World.cell?_alloc_new (wr.alloc (.cells #[.int .u8 (48 + (k : Int))] 5)) #[Value.int .i64 (relOf z), .string ⟨#[c]⟩] 58 0; rw [World.size_alloc] at this; rw [this, hkj]; rfl)
          (by have := World.cell?_alloc_new (wr.alloc (.cells #[.int .u8 (48 + (k : Int))] 5)) #[Value.int .i64 (relOf z), .string ⟨#[c]⟩] 58 1; rw [World.size_alloc] at this; rw [this, hkj]; rfl)).later (w' := World.drew _) ((Below.refl _ _).drew))
        have s6 := ((S.out.addKey (b := wr.heap.size) (k := kj zs k) (((Below.refl _ wr).alloc (Nat.le_refl _) (.cells #[.int .i64 (relOf z), .string ⟨#[c]⟩] 58)).alloc (by simp) (.cells #[.int .u8 (48 + (k : Int))] 5)) (Nat.le_refl _)
          (by rw [World.cell?_alloc_lt _ _ _ (by simp), World.cell?_alloc_new, hkj]; rfl) (by rw [World.cell?_alloc_lt _ _ _ (by simp), World.cell?_alloc_new, hkj]; rfl)).later (w' := World.drew _) ((Below.refl _ _).drew))
        have S5 := Lib.hid s5
        have S6 := Lib.hid s6
        clear hbw hc0 hz h48 hcd hkj s5 s6
        go_upto_region 11 with fail
        go_cut [10] (fun t wx => ∃ kb, t = .pointer (some ⟨kb, 0, none⟩) ∧ SiteR w.heap.size w wx p (max 1 60) (dj zs k) [] [] [(kb, kj zs k)] u7 (wj zs W k) [])
        case first =>
          go_region
          all_goals
            go_wp2_with fail
            go_meet
            first | exact ⟨_, rfl, S5.out⟩ | exact ⟨_, rfl, S6.out⟩
        case rest =>
          obtain ⟨kb, rfl, s7⟩ := hcut
          clear S5 S6 hconv hcr hcr1 hcr2 hbl hrz S i1
          obtain ⟨w20, hw20⟩ : ∃ x, x = wc := ⟨_, rfl⟩
          subst hw20
          have S := Lib.hid s7
          clear s7
          have q := siter_begin S.out 1 (by decide) (kj zs k) (ok_kj zs k)
          rw [pg_get hlt2, pg_how hlt2, hdn] at q
          have k0 : w20.cell? ⟨kb, 0, none⟩ = some (.int .i64 (kj zs k).1) := (S.out.keyR (b := kb) (k := kj zs k) (by simp)) 0 _ rfl
          have k1 : w20.cell? ⟨kb, 1, none⟩ = some (.string (kj zs k).2) := (S.out.keyR (b := kb) (k := kj zs k) (by simp)) 1 _ rfl
          have Q := Lib.hid q
          clear q S
          go_wp2_with fail
          refine Q.out.mono ?_
          clear Q
          rintro e w21 ⟨vb, rfl, s⟩
          have S := Lib.hid s
          clear s k0 k1
          go_upto_region 13 with fail
          have hkey : w21.rangeAt kb 0 [.int .i64 (kj zs k).1, .string (kj zs k).2] := S.out.keyR (b := kb) (k := kj zs k) (by simp)
          have S' := Lib.hid (S.out.later (w' := w21.drew) ((Below.refl _ _).drew))
          clear S
          refine wp_region_held_drew (S := fun w' => w'.rangeAt kb 0 [.int .i64 (kj zs k).1, .string (kj zs k).2]) (by kernel_rfl) hkey (fun hH => ?_)
          refine wpAnyH_take (i := 0) (v := .pointer (some ⟨p, 0, none⟩)) rfl (by kernel_rfl) (by kernel_rfl) (by kernel_rfl) (fun _ _ _ h => h) (Or.inl ⟨by kernel_rfl, fun w' hS => by go_simp⟩) hH ?_
          refine wpAnyH_take (i := 1) (v := KK (kj zs k)) rfl (by kernel_rfl) (by kernel_rfl) (by kernel_rfl) (fun _ _ _ h => h) (yieldsIf_load_mid (by kernel_rfl) 58 (.tmp 10) (by kernel_rfl) kb 0 (by kernel_rfl) [.int .i64 (kj zs k).1, .string (kj zs k).2] _ (fun w' hS => hS) Try.underlying58 rfl KZ.size58) hH ?_
          refine wpAnyH_take (i := 2) (v := .int .i64 k) rfl (by kernel_rfl) (by kernel_rfl) (by kernel_rfl) (fun _ _ _ h => h) (Or.inl ⟨by kernel_rfl, fun w' hS => by go_simp⟩) hH ?_
          refine wpAnyH_ready (rs := [3]) (by kernel_rfl) (by simp) ?_
          refine AllReadyH.cons rfl (fun K hK => ?_) AllReadyH.nil
          go_simp
          refine (siter_zone S'.out (k : Int)).mono ?_
          rintro e w22 ⟨vz, rfl, s⟩
          have hkey : w22.rangeAt kb 0 [.int .i64 (kj zs k).1, .string (kj zs k).2] := s.keyR (b := kb) (k := kj zs k) (by simp)
          have S := Lib.hid s
          clear s S'
          refine hK.out _ _ hkey (fun hH => ?_)
          clear hK K
          refine wpAnyH_ready (rs := [4]) (by kernel_rfl) (by simp) ?_
          refine AllReadyH.cons rfl (fun K hK => ?_) AllReadyH.nil
          go_simp
          have q := siter_end_yes (z := vz) (o := some (k : Int)) S.out 1 (kj zs k) (ok_kj zs k) 0 [] (by simp) (by simp)
          rw [if_pos rfl, if_pos rfl, fillR_nil, pg_del, dj_put hlt2] at q
          refine q.mono ?_
          clear q S
          rintro e w23 ⟨rfl, s⟩
          have hkey : w23.rangeAt kb 0 [.int .i64 (kj zs k).1, .string (kj zs k).2] := s.keyR (b := kb) (k := kj zs k) (by simp)
          have S := Lib.hid s.noZones
          clear s
          refine hK.out _ _ hkey (fun hH => ?_)
          clear hK K
          refine wpAnyH_ready (rs := [5]) (by kernel_rfl) (by simp) ?_
          refine AllReadyH.cons rfl (fun K hK => ?_) AllReadyH.nil
          go_simp
          refine hK.out _ _ hH (fun hH => ?_)
          clear hK K
          refine wpAnyH_done (by kernel_rfl) ?_ _
          have k0 : w23.cell? ⟨kb, 0, none⟩ = some (.int .i64 (kj zs k).1) := hkey 0 _ rfl
          have k1 : w23.cell? ⟨kb, 1, none⟩ = some (.string (kj zs k).2) := hkey 1 _ rfl
          by_cases hr : (kj zs k).1 = W
          · have hb : ((kj zs k).1 == W) = true := beq_iff_eq.2 hr
            have HG := Lib.hid (wj_no hr)
            clear hr
            go_wp2
            go_roundw
            case rel => exact ⟨k + 1, by go_num, by omega, by omega, by rw [HG.out.2]; go_num, by rw [HG.out.1]; exact S.out.bare⟩
            case measure => simp [intOf]; omega
          · have hb : ((kj zs k).1 == W) = false := beq_eq_false_iff_ne.2 hr
            have HG := Lib.hid (wj_yes hr)
            have hwl := wj_le zs W k
            obtain ⟨i0, hi, hz0, hz1, hz2⟩ := info_parts info58
            have hown := S.out.row
            clear hr
            go_wp2_with (at_builtin; refine wpList_append_lies _ (by rfl) (.tmp 61) (.tmp 63) 79 (by rfl) 0 58 i0 (.agg #[.int .i64 0, .string ⟨#[]⟩]) 2 24 Try.underlying79 hi hz0 hz1 hz2 (by rfl) (by omega) u7 (wj zs W k).length (KZ.krow (wj zs W k)) (by rfl) (hown.alloc _) ⟨w23.heap.size, 0, none⟩ 1 1 [.int .i64 (kj zs k).1, .string (kj zs k).2] (by rfl) (by rfl) (KZ.cell_key_new _ _ _ _) (by simp [Value.oneCell']) (by omega) (by unfold maxLen; omega) (by omega) (Nat.zero_le _) (w23.heap.size + 1) (by simp) ?_; intro g cap w24 hown24 hg24 hat24 hlt24)
            have hpush := (S.out.later (w' := w23.alloc _) ((Below.refl _ w23).alloc (Nat.le_refl _) _)).push (k := kj zs k) hg24 hown24 (hat24.imp id (fun e => by rw [e]; simp)) hlt24
            rw [← HG.out.1] at hpush
            exact ⟨⟨k + 1, by go_num, by omega, by omega, by rw [HG.out.2], hpush⟩, by simp [intOf]; omega⟩
      · have hd : k = len0 ∨ k = 60 := by omega
        rcases hd with rfl | rfl
        · go_wp2_with fail
          all_goals
            go_meet
            exact ⟨_, hk60, rfl, S.out⟩
        · go_wp2_with fail
          all_goals
            go_meet
            exact ⟨_, hk60, rfl, S.out⟩

end Go.Proofs.Ytnnaidladcdbdaa
