/- The walk of ShardOnce: the call answers true. -/
import Derived.Test.YtnnaidladcdbdaaWOwn
import Derived.Test.YtnnaidladcdbdaaBits
import Derived.Deep.DeepCutAuto
namespace Go.Proofs.Ytnnaidladcdbdaa
open Go.RowKit Go.ChangeMaps
open KZ (SV sv ZA KK)

abbrev k5 : PK := (5, ⟨#[120]⟩)
theorem ok_k5 : KP.ok k5 := ⟨by decide, by show (1 : Nat) ≤ maxLen; unfold maxLen; omega⟩
theorem wf_small {a : Int} (h : 0 ≤ a) (h' : a < 1000) : (Lit.int .i64 a).wf = true := WalkArith.wf_i64 (by omega)

theorem Site.forget {B : Nat} {w0 w : World} {p : Nat} {room : Int} {d : List (PK × Option Int)} {fl : List (PK × Int × List Int)} {rs : List (Int × Option Int × Int)} {ks : List (Nat × PK)} {zs : List (Nat × SV × Option Int)} {vs : List (SV × Option Int)} (h : Site B w0 w p room d fl rs ks zs vs) : Site B w0 w p room d fl rs ks [] [] := by
  obtain ⟨X, ho, hk, -, -⟩ := h
  exact ⟨X, ho, hk, (fun _ h => by cases h), (fun _ h => by cases h)⟩

/-- Who is the k-th. -/
def who (N F k : Nat) : Nat := if F + k < N then F + k else F + k - N
theorem who_mod {N F k : Nat} (hF : F < N) (hk : k < N) : ((F : Int) + (k : Int)).tmod (N : Int) = (who N F k : Nat) := by
  have h1 : ((F : Int) + (k : Int)).tmod (N : Int) = (((F + k) % N : Nat) : Int) := by
    rw [Int.tmod_eq_emod_of_nonneg (by omega)]
    push_cast
    rfl
  rw [h1]
  congr 1
  unfold who
  split
  · rename_i h; exact Nat.mod_eq_of_lt h
  · rename_i h
    rw [Nat.mod_eq_sub_mod (by omega)]
    exact Nat.mod_eq_of_lt (by omega)

/-- Those who wait, when k have begun. -/
def wsl (N F k : Nat) : List Int := (List.range (k - 1)).map fun j => ((who N F (j + 1) : Nat) : Int)
theorem wsl_new {N F k : Nat} (hF : F < N) (hk : k < N) : ((who N F k : Nat) : Int) ∉ wsl N F k := fun h => by
  obtain ⟨j, hj, e⟩ := List.mem_map.1 h
  have hj' := List.mem_range.1 hj
  have e' : who N F (j + 1) = who N F k := by exact_mod_cast e
  unfold who at e'
  split at e' <;> split at e' <;> omega
theorem wsl_succ {N F k : Nat} (hk : 1 ≤ k) : wsl N F k ++ [((who N F k : Nat) : Int)] = wsl N F (k + 1) := by
  unfold wsl
  have e : k + 1 - 1 = (k - 1) + 1 := by omega
  rw [e, List.range_succ, List.map_append]
  have e2 : k - 1 + 1 = k := by omega
  simp [e2]
theorem wsl_mem {N F j : Nat} (hF : F < N) (hj : j < N) : (j : Int) ∈ wsl N F N ↔ j ≠ F := by
  constructor
  · intro h e
    obtain ⟨i, hi, e1⟩ := List.mem_map.1 h
    have hi' := List.mem_range.1 hi
    have e' : who N F (i + 1) = j := by exact_mod_cast e1
    unfold who at e'
    split at e' <;> omega
  · intro h
    refine List.mem_map.2 ⟨if F < j then j - F - 1 else j + N - F - 1, List.mem_range.2 (by split <;> omega), ?_⟩
    have : who N F ((if F < j then j - F - 1 else j + N - F - 1) + 1) = j := by
      unfold who
      split <;> split at * <;> omega
    exact_mod_cast this

theorem once_f0 (F : Int) : beginF [] [] k5 F = [(k5, F, [])] := rfl
theorem once_h0 : beginHow [] [] k5 = 2 := by decide
theorem once_h (F : Int) (ws : List Int) : beginHow [] [(k5, F, ws)] k5 = 3 := rfl
theorem once_g : getS ([] : List (PK × Option Int)) k5 none = [] := by decide
theorem once_z : beginZ ([] : List (PK × Option Int)) k5 = none := by decide
theorem once_f (F W : Int) (ws : List Int) (h : W ∉ ws) : beginF [] [(k5, F, ws)] k5 W = [(k5, F, ws ++ [W])] := by
  have e : ws.filter (fun x => decide (x ≠ W)) = ws := List.filter_eq_self.2 (fun x hx => by simp only [ne_eq, decide_eq_true_eq]; intro e; exact h (by rw [← e]; exact hx))
  show (strip [(k5, F, ws)] W).map (fun x => if x.1 = k5 then (x.1, x.2.1, x.2.2 ++ [W]) else x) = _
  unfold strip
  rw [List.map_cons, List.map_nil, List.map_cons, List.map_nil]
  simp only [e, if_true]
theorem once_del (F : Int) (ws : List Int) : del [(k5, F, ws)] k5 = [] := by simp [del]

theorem once_b1 : beginHow [(k5, some 9)] [] k5 = 1 := by decide
theorem once_g1 : getS [(k5, (some 9 : Option Int))] k5 none = [(k5, some 9)] := by decide
theorem once_f1 : beginF [(k5, some 9)] [] k5 99 = [] := by decide

/-- What is still to be fetched, the workers below j having fetched theirs. -/
def rsj (ws : List Int) (a : Option Int × Int) (j : Nat) : List (Int × Option Int × Int) := (fillR [] ws a).filter fun x => decide ((j : Int) ≤ x.1)
theorem rsj_zero (ws : List Int) (a : Option Int × Int) (h : ∀ i ∈ ws, (0 : Int) ≤ i) : rsj ws a 0 = fillR [] ws a := by
  unfold rsj
  refine List.filter_eq_self.2 (fun x hx => ?_)
  unfold fillR at hx
  simp only [List.filter_nil, List.nil_append] at hx
  obtain ⟨i, hi, rfl⟩ := List.mem_map.1 hx
  simpa using h i hi
theorem rsj_del (ws : List Int) (a : Option Int × Int) (j : Nat) : del (rsj ws a j) (j : Int) = rsj ws a (j + 1) := by
  unfold rsj del
  rw [List.filter_filter]
  refine List.filter_congr (fun x _ => ?_)
  simp only [ne_eq]
  by_cases h1 : x.1 = (j : Int) <;> by_cases h2 : (j : Int) ≤ x.1 <;> simp [h1, h2] <;> omega
theorem rsj_mem (ws : List Int) (a : Option Int × Int) (j : Nat) (x : Int × Option Int × Int) : x ∈ rsj ws a j ↔ (x.1 ∈ ws ∧ x.2 = a ∧ (j : Int) ≤ x.1) := by
  unfold rsj fillR
  simp only [List.filter_nil, List.nil_append, List.mem_filter, List.mem_map, decide_eq_true_eq]
  constructor
  · rintro ⟨⟨i, hi, rfl⟩, h⟩; exact ⟨hi, rfl, h⟩
  · rintro ⟨h1, h2, h3⟩; exact ⟨⟨x.1, h1, by rw [← h2]⟩, h3⟩
theorem rsj_has (ws : List Int) (a : Option Int × Int) (j : Nat) (h : (j : Int) ∈ ws) : has (rsj ws a j) (j : Int) = true :=
  has_iff.2 (List.mem_map.2 ⟨((j : Int), a), (rsj_mem ws a j _).2 ⟨h, rfl, Int.le_refl _⟩, rfl⟩)
theorem rsj_hasnt (ws : List Int) (a : Option Int × Int) (j : Nat) (h : (j : Int) ∉ ws) : has (rsj ws a j) (j : Int) = false :=
  has_false.2 (fun h' => by obtain ⟨x, hx, e⟩ := List.mem_map.1 h'; exact h (by rw [← e]; exact ((rsj_mem ws a j x).1 hx).1))
theorem rsj_next (ws : List Int) (a : Option Int × Int) (j : Nat) : has (rsj ws a (j + 1)) (j : Int) = false :=
  has_false.2 (fun h' => by
    obtain ⟨x, hx, e⟩ := List.mem_map.1 h'
    have := ((rsj_mem ws a (j + 1) x).1 hx).2.2
    rw [e] at this
    omega)
theorem rsj_again (ws : List Int) (a : Option Int × Int) (j : Nat) : del (rsj ws a (j + 1)) (j : Int) = rsj ws a (j + 1) :=
  del_none (has_false.1 (rsj_next ws a j))
theorem rsj_val (ws : List Int) (a : Option Int × Int) (j : Nat) (h : (j : Int) ∈ ws) : valOf (rsj ws a j) (j : Int) (none, 0) = a :=
  ((rsj_mem ws a j _).1 (valOf_mem (has_iff.1 (rsj_has ws a j h)) (none, 0))).2.1

set_option maxRecDepth 100000 in
set_option maxHeartbeats 8000000 in
theorem once_walk (n0 f0 e0 : Int) (w : World) :
    Calls Try.prog 9 #[.int .i64 n0, .int .i64 f0, .int .i64 e0] w fun e w' => e = .returned (.bool true) ∧ Below w.heap.size w w' := by
  obtain ⟨N, hN, hN1, hN2⟩ := one_mod n0 30 (by omega) (by omega)
  obtain ⟨F, hF, hF1⟩ := mask_mod f0 (N : Int) (by omega)
  have nz : ¬ (N : Int) = 0 := by omega
  have hFN : F < N := by omega
  go_enter Try.func9, Try.ntmps9
  go_wp2_with fail
  refine (shown35 w).mono ?_
  rintro e w1 ⟨rfl, hb1⟩
  go_wp2_with fail
  rw [hN]
  clear hN hF
  refine (site_new 3 w w1 hb1).mono ?_
  rintro e w2 ⟨p, rfl, s2⟩
  have S := Lib.hid s2
  clear s2 hb1
  go_upto_region 8 with fail
  have hc0 : ∀ j, (w2.alloc (.cells #[.int .i64 5, .string ⟨#[120]⟩] 58)).cell? ⟨w2.heap.size, j, none⟩ = #[Value.int .i64 5, .string ⟨#[120]⟩][j]? := fun j => World.cell?_alloc_new _ _ _ _
  have s2 := S.out.addKey (b := w2.heap.size) (k := k5) ((Below.refl _ _).alloc (Nat.le_refl _) (.cells #[.int .i64 5, .string ⟨#[120]⟩] 58)) (Nat.le_refl _) (by rw [hc0]; rfl) (by rw [hc0]; rfl)
  clear hc0 S
  revert s2
  generalize w2.alloc (.cells #[.int .i64 5, .string ⟨#[120]⟩] 58) = w3
  intro s2
  have S := Lib.hid s2
  clear s2
  have S3 := S
  clear S
  go_upto_block 0 with fail
  go_cut [10] (fun _ wx => Site w.heap.size w wx p (max 1 3) [] [(k5, (F : Int), wsl N F N)] [] [(w2.heap.size, k5)] [] [])
  case first =>
    go_wp2_with fail
    go_loopw [10] (fun i wr => ∃ k : Nat, i = .int .i64 k ∧ k ≤ N ∧ Site w.heap.size w wr p (max 1 3) [] (if k = 0 then [] else [(k5, (F : Int), wsl N F k)]) [] [(w2.heap.size, k5)] [] []) (fun i _ => N - (intOf i).toNat)
    case atStart => exact ⟨0, rfl, by omega, S3.out⟩
    case round =>
      obtain ⟨k, rfl, hk, s4⟩ := hrel
      clear S3
      by_cases hlt : k < N
      · have hwm := who_mod (N := N) (F := F) (k := k) hFN hlt
        have hwN : who N F k < N := by unfold who; split <;> omega
        obtain ⟨W, hW⟩ : ∃ W, W = who N F k := ⟨_, rfl⟩
        have HWV := Lib.hid hW
        rw [← hW] at hwm hwN
        clear hW
        rcases Nat.eq_zero_or_pos k with hk0 | hk0
        · subst hk0
          have hWF : W = F := by rw [HWV.out]; unfold who; split <;> omega
          subst hWF
          have hwm : (W : Int).tmod (N : Int) = (W : Int) := by have h1 := who_mod (N := N) (F := W) (k := 0) hFN hlt; rw [← HWV.out] at h1; simpa using h1
          simp only [if_true] at s4
          have S := Lib.hid s4
          clear s4
          have q := site_begin S.out (W : Int) (wf_small (by omega) (by omega)) k5 ok_k5
          rw [once_h0, once_g, once_z, once_f0, hdn] at q
          have k0 : wr.cell? ⟨w2.heap.size, 0, none⟩ = some (.int .i64 5) := (S.out.key (b := w2.heap.size) (k := k5) (by simp)).1
          have k1 : wr.cell? ⟨w2.heap.size, 1, none⟩ = some (.string ⟨#[120]⟩) := (S.out.key (b := w2.heap.size) (k := k5) (by simp)).2.1
          have Q := Lib.hid q
          clear q S
          go_wp2_with fail
          refine Q.out.mono ?_
          clear Q
          rintro e w101 ⟨vb, rfl, s⟩
          have S := Lib.hid s
          clear s k0 k1
          go_upto_region 13 with (refine wpList_store_mid (by rfl) 69 (.tmp 12) (.tmp 53) (by rfl) w101.heap.size 0 (za (sv vb)) (by rfl) (by rfl) (by exact there21 _ _ rfl) (size69' _) (za_one rfl) ?_)
          generalize hw : (w101.alloc _).setCells _ _ _ = w102
          obtain ⟨hb, hr, -⟩ := lay69 w101 _ (by rfl) vb w102 hw
          have S' := Lib.hid (((S.out.addZone (b := w101.heap.size) (List.mem_cons_self ..) hb (Nat.le_refl _) hr).only (vs' := []) (fun _ h => by cases h)))
          clear hw S hb hr
          have S := S'
          clear S'
          obtain ⟨hzr, hzn⟩ := S.out.zone (b := w101.heap.size) (v := vb) (o := none) (by simp)
          have q := site_number S.out hzn
          have Q := Lib.hid q
          clear q S hzn
          go_wp2_with (refine wpList_load_if (by rfl) 69 (.tmp 12) (by rfl) (w101.heap.size) 0 (by rfl) (zc (sv vb)) _ (by exact hzr) Try.underlying69 rfl (size69 _) ?_)
          refine Q.out.mono ?_
          clear Q hzr
          rintro e w103 ⟨rfl, s⟩
          have S := Lib.hid s
          clear s
          have q := site_ready S.out (W : Int) (wf_small (by omega) (by omega))
          have Q := Lib.hid q
          clear q S
          go_wp2_with fail
          refine Q.out.mono ?_
          clear Q
          rintro e w104 ⟨rfl, s⟩
          have S := Lib.hid s
          clear s
          have Q := Lib.hid (site_flying S.out)
          go_wp2_with fail
          refine Q.out.mono ?_
          clear Q
          rintro e w105 ⟨rfl, rfl⟩
          have Q := Lib.hid (site_len S.out)
          go_wp2_with fail
          refine Q.out.mono ?_
          clear Q
          rintro e w105 ⟨rfl, rfl⟩
          go_wp2
          go_roundw
          case rel => exact ⟨0 + 1, by go_num, by omega, by simp only [if_neg (Nat.succ_ne_zero _)]; exact S.out.forget⟩
          case measure => simp [intOf]; omega
        · have hkn : ¬ k = 0 := by omega
          simp only [if_neg hkn] at s4
          have S := Lib.hid s4
          clear s4
          have hb0 : ((k : Int) == 0) = false := beq_eq_false_iff_ne.2 (by omega)
          have hg0 : decide ((0 : Int) < (k : Int)) = true := decide_eq_true (by omega)
          have q := site_begin S.out (W : Int) (wf_small (by omega) (by omega)) k5 ok_k5
          rw [once_h, once_g, once_z, once_f _ _ _ (by rw [HWV.out]; exact wsl_new hFN hlt), hdn] at q
          have k0 : wr.cell? ⟨w2.heap.size, 0, none⟩ = some (.int .i64 5) := (S.out.key (b := w2.heap.size) (k := k5) (by simp)).1
          have k1 : wr.cell? ⟨w2.heap.size, 1, none⟩ = some (.string ⟨#[120]⟩) := (S.out.key (b := w2.heap.size) (k := k5) (by simp)).2.1
          have Q := Lib.hid q
          clear q S
          go_wp2_with fail
          refine Q.out.mono ?_
          clear Q
          rintro e w101 ⟨vb, rfl, s⟩
          have S := Lib.hid s
          clear s k0 k1
          go_upto_region 13 with (refine wpList_store_mid (by rfl) 69 (.tmp 12) (.tmp 53) (by rfl) w101.heap.size 0 (za (sv vb)) (by rfl) (by rfl) (by exact there21 _ _ rfl) (size69' _) (za_one rfl) ?_)
          generalize hw : (w101.alloc _).setCells _ _ _ = w102
          obtain ⟨hb, hr, -⟩ := lay69 w101 _ (by rfl) vb w102 hw
          have S' := Lib.hid (((S.out.addZone (b := w101.heap.size) (List.mem_cons_self ..) hb (Nat.le_refl _) hr).only (vs' := []) (fun _ h => by cases h)))
          clear hw S hb hr
          have S := S'
          clear S'
          obtain ⟨hzr, hzn⟩ := S.out.zone (b := w101.heap.size) (v := vb) (o := none) (by simp)
          have q := site_number S.out hzn
          have Q := Lib.hid q
          clear q S hzn
          go_wp2_with (refine wpList_load_if (by rfl) 69 (.tmp 12) (by rfl) (w101.heap.size) 0 (by rfl) (zc (sv vb)) _ (by exact hzr) Try.underlying69 rfl (size69 _) ?_)
          refine Q.out.mono ?_
          clear Q hzr
          rintro e w103 ⟨rfl, s⟩
          have S := Lib.hid s
          clear s
          have q := site_ready S.out (W : Int) (wf_small (by omega) (by omega))
          have Q := Lib.hid q
          clear q S
          go_wp2_with fail
          refine Q.out.mono ?_
          clear Q
          rintro e w104 ⟨rfl, s⟩
          have S := Lib.hid s
          clear s
          have Q := Lib.hid (site_flying S.out)
          go_wp2_with fail
          refine Q.out.mono ?_
          clear Q
          rintro e w105 ⟨rfl, rfl⟩
          have Q := Lib.hid (site_len S.out)
          go_wp2_with fail
          refine Q.out.mono ?_
          clear Q
          rintro e w105 ⟨rfl, rfl⟩
          go_wp2
          go_roundw
          case rel => exact ⟨k + 1, by go_num, by omega, by simp only [if_neg (Nat.succ_ne_zero _)]; rw [← wsl_succ (by omega), ← HWV.out]; exact S.out.forget⟩
          case measure => simp [intOf]; omega
      · obtain rfl : k = N := by omega
        have hkn : ¬ k = 0 := by omega
        simp only [if_neg hkn] at s4
        have S := Lib.hid s4
        clear s4
        go_wp2_with fail
        all_goals
          go_meet
          exact S.out
  case rest =>
    clear S3
    have S := Lib.hid hcut
    clear hcut
    obtain ⟨w300, hw300⟩ : ∃ x, x = wc := ⟨_, rfl⟩
    subst hw300
    obtain ⟨d2, o2, want, hd2, ho2, hdo⟩ : ∃ (d2 : List (PK × Option Int)) (o2 : Option Int) (want : Int), (if e0 = 0 then putS (max 1 3) ([] : List (PK × Option Int)) k5 (some 9) else []) = d2 ∧ (if e0 = 0 then some 9 else none) = o2 ∧
        ((e0 = 0 ∧ d2 = [(k5, some 9)] ∧ o2 = some 9 ∧ want = 9) ∨ (e0 ≠ 0 ∧ d2 = [] ∧ o2 = none ∧ want = 0)) := by
      by_cases he : e0 = 0
      · exact ⟨_, _, 9, rfl, rfl, Or.inl ⟨he, by rw [if_pos he]; rfl, by rw [if_pos he], rfl⟩⟩
      · exact ⟨_, _, 0, rfl, rfl, Or.inr ⟨he, by rw [if_neg he], by rw [if_neg he], rfl⟩⟩
    have HDO := Lib.hid hdo
    have HD2 := Lib.hid hd2
    have HO2 := Lib.hid ho2
    have HGD := Lib.hid (show o2.getD 0 = want by rcases hdo with ⟨_, _, h1, h2⟩ | ⟨_, _, h1, h2⟩ <;> rw [h1, h2] <;> rfl)
    clear hdo hd2 ho2
    go_upto_region 15 with fail
    have hkey : w300.rangeAt (w2.heap.size) 0 [.int .i64 5, .string ⟨#[120]⟩] := S.out.keyR (b := w2.heap.size) (k := k5) (by simp)
    have s2 := S.out.later (w' := w300.drew) ((Below.refl _ _).drew)
    have S' := Lib.hid s2
    clear s2 S
    refine wp_region_held_drew (S := fun w' => w'.rangeAt (w2.heap.size) 0 [.int .i64 5, .string ⟨#[120]⟩]) (by kernel_rfl) hkey (fun hH => ?_)
    refine wpAnyH_take (i := 0) (v := .pointer (some ⟨p, 0, none⟩)) rfl (by kernel_rfl) (by kernel_rfl) (by kernel_rfl) (fun _ _ _ h => h) (Or.inl ⟨by rfl, fun w' hS => by go_simp⟩) hH ?_
    refine wpAnyH_take (i := 1) (v := .int .i64 F) rfl (by kernel_rfl) (by kernel_rfl) (by kernel_rfl) (fun _ _ _ h => h) (Or.inl ⟨by rfl, fun w' hS => by go_simp⟩) hH ?_
    refine wpAnyH_take (i := 2) (v := KK k5) rfl (by kernel_rfl) (by kernel_rfl) (by kernel_rfl) (fun _ _ _ h => h) (yieldsIf_load_mid (by rfl) 58 (.tmp 9) (by rfl) (w2.heap.size) 0 (by rfl) [.int .i64 5, .string ⟨#[120]⟩] _ (fun w' hS => hS) Try.underlying58 rfl KZ.size58) hH ?_
    refine wpAnyH_take (i := 4) (v := .int .i64 e0) rfl (by kernel_rfl) (by kernel_rfl) (by kernel_rfl) (fun _ _ _ h => h) (Or.inl ⟨by rfl, fun w' hS => by go_simp⟩) hH ?_
    refine wpAnyH_ready (rs := [3]) (by kernel_rfl) (by simp) ?_
    refine AllReadyH.cons rfl (fun K hK => ?_) AllReadyH.nil
    go_simp
    refine (site_zone S'.out 9).mono ?_
    rintro e w301 ⟨v301, rfl, s2⟩
    have hkey : w301.rangeAt (w2.heap.size) 0 [.int .i64 5, .string ⟨#[120]⟩] := s2.keyR (b := w2.heap.size) (k := k5) (by simp)
    have S := Lib.hid s2
    clear s2 S'
    refine hK.out _ _ hkey (fun hH => ?_)
    clear hK K
    refine wpAnyH_ready (rs := [5]) (by kernel_rfl) (by simp) ?_
    refine AllReadyH.cons rfl (fun K hK => ?_) AllReadyH.nil
    go_simp
    have q := site_end_yes (v := v301) (o := some 9) S.out (F : Int) k5 ok_k5 e0 (wsl N F N) (by simp) (Or.inl (by simp))
    rw [once_del, HD2.out, HO2.out] at q
    refine q.mono ?_
    clear q S
    rintro e w302 ⟨rfl, s2⟩
    have s3 := s2.only (vs' := []) (fun _ h => by cases h)
    have hkey : w302.rangeAt (w2.heap.size) 0 [.int .i64 5, .string ⟨#[120]⟩] := s3.keyR (b := w2.heap.size) (k := k5) (by simp)
    have S := Lib.hid s3
    clear s2 s3
    refine hK.out _ _ hkey (fun hH => ?_)
    clear hK K
    refine wpAnyH_ready (rs := [6]) (by kernel_rfl) (by simp) ?_
    refine AllReadyH.cons rfl (fun K hK => ?_) AllReadyH.nil
    go_simp
    refine hK.out _ _ hH (fun hH => ?_)
    clear hK K
    refine wpAnyH_ready (rs := [7]) (by kernel_rfl) (by simp) ?_
    refine AllReadyH.cons rfl (fun K hK => ?_) AllReadyH.nil
    go_simp
    refine hK.out _ _ hH (fun hH => ?_)
    clear hK K
    have S' := S
    clear S
    refine wpAnyH_take (i := 8) (v := .pointer (some ⟨p, 0, none⟩)) rfl (by kernel_rfl) (by kernel_rfl) (by kernel_rfl) (fun _ _ _ h => h) (Or.inl ⟨by rfl, fun w' hS => by go_simp⟩) hH ?_
    refine wpAnyH_take (i := 9) (v := .int .i64 F) rfl (by kernel_rfl) (by kernel_rfl) (by kernel_rfl) (fun _ _ _ h => h) (Or.inl ⟨by rfl, fun w' hS => by go_simp⟩) hH ?_
    refine wpAnyH_take (i := 10) (v := KK k5) rfl (by kernel_rfl) (by kernel_rfl) (by kernel_rfl) (fun _ _ _ h => h) (yieldsIf_load_mid (by rfl) 58 (.tmp 9) (by rfl) (w2.heap.size) 0 (by rfl) [.int .i64 5, .string ⟨#[120]⟩] _ (fun w' hS => hS) Try.underlying58 rfl KZ.size58) hH ?_
    refine wpAnyH_take (i := 12) (v := .int .i64 e0) rfl (by kernel_rfl) (by kernel_rfl) (by kernel_rfl) (fun _ _ _ h => h) (Or.inl ⟨by rfl, fun w' hS => by go_simp⟩) hH ?_
    refine wpAnyH_ready (rs := [11]) (by kernel_rfl) (by simp) ?_
    refine AllReadyH.cons rfl (fun K hK => ?_) AllReadyH.nil
    go_simp
    refine (site_zone S'.out 9).mono ?_
    rintro e w303 ⟨v303, rfl, s2⟩
    have hkey : w303.rangeAt (w2.heap.size) 0 [.int .i64 5, .string ⟨#[120]⟩] := s2.keyR (b := w2.heap.size) (k := k5) (by simp)
    have S := Lib.hid s2
    clear s2 S'
    refine hK.out _ _ hkey (fun hH => ?_)
    clear hK K
    refine wpAnyH_ready (rs := [13]) (by kernel_rfl) (by simp) ?_
    refine AllReadyH.cons rfl (fun K hK => ?_) AllReadyH.nil
    go_simp
    have q := site_end_no S.out (F : Int) k5 ok_k5 v303 e0 (by simp)
    refine q.mono ?_
    clear q S
    rintro e w304 ⟨rfl, s2⟩
    have s3 := s2.only (vs' := []) (fun _ h => by cases h)
    have hkey : w304.rangeAt (w2.heap.size) 0 [.int .i64 5, .string ⟨#[120]⟩] := s3.keyR (b := w2.heap.size) (k := k5) (by simp)
    have S := Lib.hid s3
    clear s2 s3
    refine hK.out _ _ hkey (fun hH => ?_)
    clear hK K
    refine wpAnyH_ready (rs := [14]) (by kernel_rfl) (by simp) ?_
    refine AllReadyH.cons rfl (fun K hK => ?_) AllReadyH.nil
    go_simp
    refine hK.out _ _ hH (fun hH => ?_)
    clear hK K
    refine wpAnyH_ready (rs := [15]) (by kernel_rfl) (by simp) ?_
    refine AllReadyH.cons rfl (fun K hK => ?_) AllReadyH.nil
    go_simp
    refine hK.out _ _ hH (fun hH => ?_)
    clear hK K
    refine wpAnyH_done (by kernel_rfl) ?_ _
    go_upto_if 106 with fail
    go_cut [14] (fun t wx => t = .int .i64 want ∧ wx = w304)
    case first =>
      rcases HDO.out with ⟨he, -, -, h2⟩ | ⟨he, -, -, h2⟩
      · have hb : (e0 != 0) = false := by simp [he]
        go_wp2_with fail
        all_goals
          go_meet
          exact ⟨by rw [h2], rfl⟩
      · have hb : (e0 != 0) = true := by simp [he]
        go_wp2_with fail
        all_goals
          go_meet
          exact ⟨by rw [h2], rfl⟩
    case rest =>
      obtain ⟨rfl, rfl⟩ := hcut
      have SL := S
      clear S
      go_wp2_with fail
      go_loopw [15] (fun i wr => ∃ j : Nat, i = .int .i64 j ∧ j ≤ N ∧ Site w.heap.size w wr p (max 1 3) d2 [] (rsj (wsl N F N) (o2, e0) j) [(w2.heap.size, k5)] [] []) (fun i _ => N - (intOf i).toNat)
      case atStart => exact ⟨0, rfl, by omega, by rw [rsj_zero _ _ (fun i hi => by obtain ⟨j, _, rfl⟩ := List.mem_map.1 hi; omega)]; exact SL.out⟩
      case round =>
        obtain ⟨j, rfl, hj, s4⟩ := hrel
        clear SL
        have S := Lib.hid s4
        clear s4
        by_cases hlt : j < N
        · have hj1 : (Lit.int .i64 (j : Int)).wf = true := wf_small (by omega) (by omega)
          by_cases hjF : j = F
          · subst hjF
            have hmem : (j : Int) ∉ wsl N j N := fun h => (wsl_mem hFN hlt).1 h rfl
            have hneq : ((j : Int) != (j : Int)) = false := by simp
            have HMEM := Lib.hid hmem
            clear hmem
            have q := site_ready S.out (j : Int) hj1
            rw [rsj_hasnt _ _ _ HMEM.out] at q
            have Q := Lib.hid q
            clear q S
            go_wp2_with fail
            refine Q.out.mono ?_
            clear Q
            rintro e w401 ⟨rfl, s⟩
            have S := Lib.hid s
            clear s
            obtain ⟨x1, hx1⟩ : ∃ x, valOf (rsj (wsl N j N) (o2, e0) j) (j : Int) (none, 0) = x := ⟨_, rfl⟩
            have q := site_result S.out (j : Int) hj1
            rw [hx1, rsj_hasnt _ _ _ HMEM.out, rsj_del] at q
            have Q := Lib.hid q
            clear q S
            go_wp2_with fail
            refine Q.out.mono ?_
            clear Q
            rintro e w402 ⟨va, rfl, s⟩
            have S := Lib.hid s
            clear s
            go_upto_region 25 with (refine wpList_store_mid (by rfl) 69 (.tmp 17) (.tmp 119) (by rfl) w402.heap.size 0 (za (sv va)) (by rfl) (by rfl) (by exact there21 _ _ rfl) (size69' _) (za_one rfl) ?_)
            generalize hw : (w402.alloc _).setCells _ _ _ = w403
            obtain ⟨hb, hr, -⟩ := lay69 w402 _ (by rfl) va w403 hw
            have S' := Lib.hid (((S.out.addZone (b := w402.heap.size) (List.mem_cons_self ..) hb (Nat.le_refl _) hr).only (vs' := []) (fun _ h => by cases h)))
            clear hw S hb hr
            have S := S'
            clear S'
            obtain ⟨x2, hx2⟩ : ∃ x, valOf (rsj (wsl N j N) (o2, e0) (j + 1)) (j : Int) (none, 0) = x := ⟨_, rfl⟩
            have q := site_result S.out (j : Int) hj1
            rw [hx2, rsj_next, rsj_again] at q
            have Q := Lib.hid q
            clear q S
            go_wp2_with fail
            refine Q.out.mono ?_
            clear Q
            rintro e w404 ⟨vb, rfl, s⟩
            have S := Lib.hid s
            clear s
            go_upto_region 26 with (refine wpList_store_mid (by rfl) 69 (.tmp 20) (.tmp 126) (by rfl) w404.heap.size 0 (za (sv vb)) (by rfl) (by rfl) (by exact there21 _ _ rfl) (size69' _) (za_one rfl) ?_)
            generalize hw : (w404.alloc _).setCells _ _ _ = w405
            obtain ⟨hb, hr, -⟩ := lay69 w404 _ (by rfl) vb w405 hw
            have S' := Lib.hid (((S.out.later hb).only (vs' := []) (fun _ h => by cases h)))
            clear hw S hb hr
            have S := S'
            clear S'
            go_wp2
            go_roundw
            case rel => exact ⟨j + 1, by go_num, by omega, S.out.forget⟩
            case measure => simp [intOf]; omega
          · have hmem : (j : Int) ∈ wsl N F N := (wsl_mem hFN hlt).2 hjF
            have hneq : ((j : Int) != (F : Int)) = true := by simp; omega
            have HMEM := Lib.hid hmem
            clear hmem
            have q := site_ready S.out (j : Int) hj1
            rw [rsj_has _ _ _ HMEM.out] at q
            have Q := Lib.hid q
            clear q S
            go_wp2_with fail
            refine Q.out.mono ?_
            clear Q
            rintro e w401 ⟨rfl, s⟩
            have S := Lib.hid s
            clear s
            have q := site_result S.out (j : Int) hj1
            rw [rsj_val _ _ _ HMEM.out, rsj_has _ _ _ HMEM.out, rsj_del] at q
            have Q := Lib.hid q
            clear q S
            go_wp2_with fail
            refine Q.out.mono ?_
            clear Q
            rintro e w402 ⟨va, rfl, s⟩
            have S := Lib.hid s
            clear s
            go_upto_region 25 with (refine wpList_store_mid (by rfl) 69 (.tmp 17) (.tmp 119) (by rfl) w402.heap.size 0 (za (sv va)) (by rfl) (by rfl) (by exact there21 _ _ rfl) (size69' _) (za_one rfl) ?_)
            generalize hw : (w402.alloc _).setCells _ _ _ = w403
            obtain ⟨hb, hr, -⟩ := lay69 w402 _ (by rfl) va w403 hw
            have S' := Lib.hid (((S.out.addZone (b := w402.heap.size) (List.mem_cons_self ..) hb (Nat.le_refl _) hr).only (vs' := []) (fun _ h => by cases h)))
            clear hw S hb hr
            have S := S'
            clear S'
            obtain ⟨x2, hx2⟩ : ∃ x, valOf (rsj (wsl N F N) (o2, e0) (j + 1)) (j : Int) (none, 0) = x := ⟨_, rfl⟩
            have q := site_result S.out (j : Int) hj1
            rw [hx2, rsj_next, rsj_again] at q
            have Q := Lib.hid q
            clear q S
            go_wp2_with fail
            refine Q.out.mono ?_
            clear Q
            rintro e w404 ⟨vb, rfl, s⟩
            have S := Lib.hid s
            clear s
            go_upto_region 26 with (refine wpList_store_mid (by rfl) 69 (.tmp 20) (.tmp 126) (by rfl) w404.heap.size 0 (za (sv vb)) (by rfl) (by rfl) (by exact there21 _ _ rfl) (size69' _) (za_one rfl) ?_)
            generalize hw : (w404.alloc _).setCells _ _ _ = w405
            obtain ⟨hb, hr, -⟩ := lay69 w404 _ (by rfl) vb w405 hw
            have S' := Lib.hid (((S.out.later hb).only (vs' := []) (fun _ h => by cases h)))
            clear hw S hb hr
            have S := S'
            clear S'
            have hee : (e0 != e0) = false := by simp
            have hww : (want != want) = false := by simp
            obtain ⟨hzr, hzn⟩ := S.out.zone (b := w402.heap.size) (v := va) (o := o2) (by simp)
            have q := site_number S.out hzn
            rw [HGD.out] at q
            have Q := Lib.hid q
            clear q S hzn
            go_wp2_with (refine wpList_load_if (by rfl) 69 (.tmp 17) (by rfl) (w402.heap.size) 0 (by rfl) (zc (sv va)) _ (by exact hzr) Try.underlying69 rfl (size69 _) ?_)
            refine Q.out.mono ?_
            clear Q hzr
            rintro e w406 ⟨rfl, s⟩
            have S := Lib.hid s
            clear s
            go_wp2
            go_roundw
            case rel => exact ⟨j + 1, by go_num, by omega, S.out.forget⟩
            case measure => simp [intOf]; omega
        · obtain rfl : j = N := by omega
          rcases HDO.out with ⟨he, hd, -, -⟩ | ⟨he, hd, -, -⟩
          · subst hd
            have hb : (e0 == 0) = true := by simp [he]
            have q := site_begin S.out 99 (by decide) k5 ok_k5
            rw [once_b1, once_g1, once_f1] at q
            have k0 : wr.cell? ⟨w2.heap.size, 0, none⟩ = some (.int .i64 5) := (S.out.key (b := w2.heap.size) (k := k5) (by simp)).1
            have k1 : wr.cell? ⟨w2.heap.size, 1, none⟩ = some (.string ⟨#[120]⟩) := (S.out.key (b := w2.heap.size) (k := k5) (by simp)).2.1
            have Q := Lib.hid q
            clear q S
            go_wp2_with fail
            refine Q.out.mono ?_
            clear Q
            rintro e w501 ⟨vb, rfl, s⟩
            have S := Lib.hid s
            clear s k0 k1
            go_upto_region 29 with (refine wpList_store_mid (by rfl) 69 (.tmp 23) (.tmp 160) (by rfl) w501.heap.size 0 (za (sv vb)) (by rfl) (by rfl) (by exact there21 _ _ rfl) (size69' _) (za_one rfl) ?_)
            generalize hw : (w501.alloc _).setCells _ _ _ = w502
            obtain ⟨hb, hr, -⟩ := lay69 w501 _ (by rfl) vb w502 hw
            have S' := Lib.hid (((S.out.later hb).only (vs' := []) (fun _ h => by cases h)))
            clear hw S hb hr
            have S := S'
            clear S'
            have Q := Lib.hid (site_len S.out)
            go_wp2_with fail
            refine Q.out.mono ?_
            clear Q
            rintro e w503 ⟨rfl, rfl⟩
            have Q := Lib.hid (site_flying S.out)
            go_wp2_with fail
            refine Q.out.mono ?_
            clear Q
            rintro e w503 ⟨rfl, rfl⟩
            go_wp2
            go_ret
            exact ⟨rfl, S.out.below⟩
          · subst hd
            have hb : (e0 == 0) = false := by simp [he]
            have q := site_begin S.out 99 (by decide) k5 ok_k5
            rw [once_h0, once_g, once_f0] at q
            have k0 : wr.cell? ⟨w2.heap.size, 0, none⟩ = some (.int .i64 5) := (S.out.key (b := w2.heap.size) (k := k5) (by simp)).1
            have k1 : wr.cell? ⟨w2.heap.size, 1, none⟩ = some (.string ⟨#[120]⟩) := (S.out.key (b := w2.heap.size) (k := k5) (by simp)).2.1
            have Q := Lib.hid q
            clear q S
            go_wp2_with fail
            refine Q.out.mono ?_
            clear Q
            rintro e w501 ⟨vb, rfl, s⟩
            have S := Lib.hid s
            clear s k0 k1
            go_upto_region 29 with (refine wpList_store_mid (by rfl) 69 (.tmp 23) (.tmp 160) (by rfl) w501.heap.size 0 (za (sv vb)) (by rfl) (by rfl) (by exact there21 _ _ rfl) (size69' _) (za_one rfl) ?_)
            generalize hw : (w501.alloc _).setCells _ _ _ = w502
            obtain ⟨hb, hr, -⟩ := lay69 w501 _ (by rfl) vb w502 hw
            have S' := Lib.hid (((S.out.later hb).only (vs' := []) (fun _ h => by cases h)))
            clear hw S hb hr
            have S := S'
            clear S'
            have Q := Lib.hid (site_len S.out)
            go_wp2_with fail
            refine Q.out.mono ?_
            clear Q
            rintro e w503 ⟨rfl, rfl⟩
            have Q := Lib.hid (site_flying S.out)
            go_wp2_with fail
            refine Q.out.mono ?_
            clear Q
            rintro e w503 ⟨rfl, rfl⟩
            go_wp2
            go_ret
            exact ⟨rfl, S.out.below⟩

end Go.Proofs.Ytnnaidladcdbdaa
