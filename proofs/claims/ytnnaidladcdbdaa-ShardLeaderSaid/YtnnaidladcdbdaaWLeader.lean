/- The walk of ShardLeader: the call answers true. -/
import Derived.Test.YtnnaidladcdbdaaShown35
import Derived.Test.YtnnaidladcdbdaaBits
namespace Go.Proofs.Ytnnaidladcdbdaa
open Go.RowKit Go.ChangeMaps
open KZ (SV sv ZA KK)

abbrev kk : PK := (1, ⟨#[107]⟩)
theorem ok_kk : KP.ok kk := ⟨by decide, by show (1 : Nat) ≤ maxLen; unfold maxLen; omega⟩
theorem kk_how : beginHow [] [] kk = 2 := by decide
theorem kk_d : getS ([] : List (PK × Option Int)) kk none = [] := by decide
theorem kk_f (a : Int) : beginF [] [] kk a = [(kk, a, [])] := rfl
theorem kk_del (a : Int) : del [(kk, a, ([] : List Int))] kk = [] := by simp [del]
theorem wf_small {a : Int} (h : 0 ≤ a) (h' : a < 1000) : (Lit.int .i64 a).wf = true  := by
  exact WalkArith.wf_i64 (by omega)

set_option maxRecDepth 100000 in
set_option maxHeartbeats 4000000 in
theorem leader_walk (a0 b0 e0 : Int) (w : World) :
    Calls Try.prog 11 #[.int .i64 a0, .int .i64 b0, .int .i64 e0] w fun e w' => e = .returned (.bool true) ∧ Below w.heap.size w w' := by
  have ha := i64_and255 a0
  have hb := i64_and255 b0
  obtain ⟨a, hae, ha0, ha1⟩ : ∃ a, bits .and .i64 a0 255 = a ∧ 0 ≤ a ∧ a < 256 := ⟨_, ha, by omega, by omega⟩
  obtain ⟨b, hbe⟩ : ∃ b, bits .and .i64 b0 255 = b := ⟨_, rfl⟩
  clear ha hb
  have HA := Lib.hid hae
  have HB := Lib.hid hbe
  clear hae hbe
  go_enter Try.func11, Try.ntmps11
  go_wp2_with fail
  refine (shown35 w).mono ?_
  rintro e w1 ⟨rfl, hb1⟩
  go_wp2_with fail
  rw [HA.out, HB.out]
  clear HA HB
  refine (site_new 2 w w1 hb1).mono ?_
  rintro e w2 ⟨p, rfl, s2⟩
  have S := Lib.hid s2
  clear s2 hb1
  go_upto_region 8 with fail
  have hc0 : ∀ j, (w2.alloc (.cells #[.int .i64 1, .string ⟨#[107]⟩] 58)).cell? ⟨w2.heap.size, j, none⟩ = #[Value.int .i64 1, .string ⟨#[107]⟩][j]? := fun j => World.cell?_alloc_new _ _ _ _
  have s2 := S.out.addKey (b := w2.heap.size) (k := kk) ((Below.refl _ _).alloc (Nat.le_refl _) (.cells #[.int .i64 1, .string ⟨#[107]⟩] 58)) (Nat.le_refl _) (by rw [hc0]; rfl) (by rw [hc0]; rfl)
  clear hc0 S
  revert s2
  generalize w2.alloc (.cells #[.int .i64 1, .string ⟨#[107]⟩] 58) = w3
  intro s2
  have S := Lib.hid s2
  clear s2
  have hkey : w3.rangeAt (w2.heap.size) 0 [.int .i64 1, .string ⟨#[107]⟩] := S.out.keyR (b := w2.heap.size) (k := kk) (by simp)
  have s2 := S.out.later (w' := w3.drew) ((Below.refl _ _).drew)
  have S' := Lib.hid s2
  clear s2 S
  refine wp_region_held_drew (S := fun w' => w'.rangeAt (w2.heap.size) 0 [.int .i64 1, .string ⟨#[107]⟩]) (by kernel_rfl) hkey (fun hH => ?_)
  refine wpAnyH_take (i := 0) (v := .pointer (some ⟨p, 0, none⟩)) rfl (by kernel_rfl) (by kernel_rfl) (by kernel_rfl) (fun _ _ _ h => h) (Or.inl ⟨by rfl, fun w' hS => by go_simp⟩) hH ?_
  refine wpAnyH_take (i := 1) (v := .int .i64 a) rfl (by kernel_rfl) (by kernel_rfl) (by kernel_rfl) (fun _ _ _ h => h) (Or.inl ⟨by rfl, fun w' hS => by go_simp⟩) hH ?_
  refine wpAnyH_take (i := 2) (v := KK kk) rfl (by kernel_rfl) (by kernel_rfl) (by kernel_rfl) (fun _ _ _ h => h) (yieldsIf_load_mid (by rfl) 58 (.tmp 9) (by rfl) (w2.heap.size) 0 (by rfl) [.int .i64 1, .string ⟨#[107]⟩] _ (fun w' hS => hS) Try.underlying58 rfl KZ.size58) hH ?_
  refine wpAnyH_take (i := 4) (v := .int .i64 e0) rfl (by kernel_rfl) (by kernel_rfl) (by kernel_rfl) (fun _ _ _ h => h) (Or.inl ⟨by rfl, fun w' hS => by go_simp⟩) hH ?_
  refine wpAnyH_ready (rs := [3]) (by kernel_rfl) (by simp) ?_
  refine AllReadyH.cons rfl (fun K hK => ?_) AllReadyH.nil
  go_simp
  refine (site_zone S'.out 1).mono ?_
  rintro e w4 ⟨v4, rfl, s2⟩
  have hkey : w4.rangeAt (w2.heap.size) 0 [.int .i64 1, .string ⟨#[107]⟩] := s2.keyR (b := w2.heap.size) (k := kk) (by simp)
  have S := Lib.hid s2
  clear s2 S'
  refine hK.out _ _ hkey (fun hH => ?_)
  clear hK K
  refine wpAnyH_ready (rs := [5]) (by kernel_rfl) (by simp) ?_
  refine AllReadyH.cons rfl (fun K hK => ?_) AllReadyH.nil
  go_simp
  have q := site_end_no S.out a kk ok_kk v4 e0 (by simp)
  refine q.mono ?_
  clear q S
  rintro e w5 ⟨rfl, s2⟩
  have s3 := s2.only (vs' := []) (fun _ h => by cases h)
  have hkey : w5.rangeAt (w2.heap.size) 0 [.int .i64 1, .string ⟨#[107]⟩] := s3.keyR (b := w2.heap.size) (k := kk) (by simp)
  have S := Lib.hid s3
  clear s2 s3
  refine hK.out _ _ hkey (fun hH => ?_)
  clear hK K
  refine wpAnyH_ready (rs := [6]) (by kernel_rfl) (by simp) ?_
  refine AllReadyH.cons rfl (fun K hK => ?_) AllReadyH.nil
  go_simp
  refine hK.out _ _ hH (fun hH => ?_)
  clear hK K
  refine wpAnyH_done (by kernel_rfl) ?_ _
  have q := site_begin S.out a (wf_small ha0 (by omega)) kk ok_kk
  rw [kk_how, kk_d, kk_f] at q
  have k0 : w5.cell? ⟨w2.heap.size, 0, none⟩ = some (.int .i64 1) := (S.out.key (b := w2.heap.size) (k := kk) (by simp)).1
  have k1 : w5.cell? ⟨w2.heap.size, 1, none⟩ = some (.string ⟨#[107]⟩) := (S.out.key (b := w2.heap.size) (k := kk) (by simp)).2.1
  have Q := Lib.hid q
  clear q S
  go_wp2_with fail
  refine Q.out.mono ?_
  clear Q
  rintro e w6 ⟨vb, rfl, s⟩
  have S := Lib.hid s
  clear s k0 k1
  go_upto_region 10 with (refine wpList_store_mid (by rfl) 69 (.tmp 11) (.tmp 36) (by rfl) w6.heap.size 0 (za (sv vb)) (by rfl) (by rfl) (by exact there21 _ _ rfl) (size69' _) (za_one rfl) ?_)
  generalize hw : (w6.alloc _).setCells _ _ _ = w7
  obtain ⟨hb, hr, -⟩ := lay69 w6 _ (by rfl) vb w7 hw
  have S' := Lib.hid ((S.out.later hb).only (vs' := []) (fun _ h => by cases h))
  clear hw S hb hr
  have S := S'
  clear S'
  by_cases hab : a = b
  · subst hab
    have hkey : w7.rangeAt (w2.heap.size) 0 [.int .i64 1, .string ⟨#[107]⟩] := S.out.keyR (b := w2.heap.size) (k := kk) (by simp)
    have s2 := S.out.later (w' := w7.drew) ((Below.refl _ _).drew)
    have S' := Lib.hid s2
    clear s2 S
    refine wp_region_held_drew (S := fun w' => w'.rangeAt (w2.heap.size) 0 [.int .i64 1, .string ⟨#[107]⟩]) (by kernel_rfl) hkey (fun hH => ?_)
    refine wpAnyH_take (i := 0) (v := .pointer (some ⟨p, 0, none⟩)) rfl (by kernel_rfl) (by kernel_rfl) (by kernel_rfl) (fun _ _ _ h => h) (Or.inl ⟨by rfl, fun w' hS => by go_simp⟩) hH ?_
    refine wpAnyH_take (i := 1) (v := .int .i64 a) rfl (by kernel_rfl) (by kernel_rfl) (by kernel_rfl) (fun _ _ _ h => h) (Or.inl ⟨by rfl, fun w' hS => by go_simp⟩) hH ?_
    refine wpAnyH_take (i := 2) (v := KK kk) rfl (by kernel_rfl) (by kernel_rfl) (by kernel_rfl) (fun _ _ _ h => h) (yieldsIf_load_mid (by rfl) 58 (.tmp 9) (by rfl) (w2.heap.size) 0 (by rfl) [.int .i64 1, .string ⟨#[107]⟩] _ (fun w' hS => hS) Try.underlying58 rfl KZ.size58) hH ?_
    refine wpAnyH_take (i := 4) (v := .int .i64 e0) rfl (by kernel_rfl) (by kernel_rfl) (by kernel_rfl) (fun _ _ _ h => h) (Or.inl ⟨by rfl, fun w' hS => by go_simp⟩) hH ?_
    refine wpAnyH_ready (rs := [3]) (by kernel_rfl) (by simp) ?_
    refine AllReadyH.cons rfl (fun K hK => ?_) AllReadyH.nil
    go_simp
    refine (site_zone S'.out 1).mono ?_
    rintro e w8 ⟨v8, rfl, s2⟩
    have hkey : w8.rangeAt (w2.heap.size) 0 [.int .i64 1, .string ⟨#[107]⟩] := s2.keyR (b := w2.heap.size) (k := kk) (by simp)
    have S := Lib.hid s2
    clear s2 S'
    refine hK.out _ _ hkey (fun hH => ?_)
    clear hK K
    refine wpAnyH_ready (rs := [5]) (by kernel_rfl) (by simp) ?_
    refine AllReadyH.cons rfl (fun K hK => ?_) AllReadyH.nil
    go_simp
    have q := site_end_yes (v := v8) (o := some 1) S.out a kk ok_kk e0 [] (by simp) (Or.inl (by simp))
    rw [kk_del] at q
    refine q.mono ?_
    clear q S
    rintro e w9 ⟨rfl, s2⟩
    have s3 := s2.only (vs' := []) (fun _ h => by cases h)
    have hkey : w9.rangeAt (w2.heap.size) 0 [.int .i64 1, .string ⟨#[107]⟩] := s3.keyR (b := w2.heap.size) (k := kk) (by simp)
    have S := Lib.hid s3
    clear s2 s3
    refine hK.out _ _ hkey (fun hH => ?_)
    clear hK K
    refine wpAnyH_ready (rs := [6]) (by kernel_rfl) (by simp) ?_
    refine AllReadyH.cons rfl (fun K hK => ?_) AllReadyH.nil
    go_simp
    refine hK.out _ _ hH (fun hH => ?_)
    clear hK K
    refine wpAnyH_done (by kernel_rfl) ?_ _
    go_wp2_with fail
    refine (site_flying S.out).mono ?_
    rintro e wz ⟨rfl, rfl⟩
    go_wp2
    go_ret
    exact ⟨rfl, S.out.below⟩
  · have hne : (a == b) = false := beq_eq_false_iff_ne.2 hab
    have hkey : w7.rangeAt (w2.heap.size) 0 [.int .i64 1, .string ⟨#[107]⟩] := S.out.keyR (b := w2.heap.size) (k := kk) (by simp)
    have s2 := S.out.later (w' := w7.drew) ((Below.refl _ _).drew)
    have S' := Lib.hid s2
    clear s2 S
    refine wp_region_held_drew (S := fun w' => w'.rangeAt (w2.heap.size) 0 [.int .i64 1, .string ⟨#[107]⟩]) (by kernel_rfl) hkey (fun hH => ?_)
    refine wpAnyH_take (i := 0) (v := .pointer (some ⟨p, 0, none⟩)) rfl (by kernel_rfl) (by kernel_rfl) (by kernel_rfl) (fun _ _ _ h => h) (Or.inl ⟨by rfl, fun w' hS => by go_simp⟩) hH ?_
    refine wpAnyH_take (i := 1) (v := .int .i64 b) rfl (by kernel_rfl) (by kernel_rfl) (by kernel_rfl) (fun _ _ _ h => h) (Or.inl ⟨by rfl, fun w' hS => by go_simp⟩) hH ?_
    refine wpAnyH_take (i := 2) (v := KK kk) rfl (by kernel_rfl) (by kernel_rfl) (by kernel_rfl) (fun _ _ _ h => h) (yieldsIf_load_mid (by rfl) 58 (.tmp 9) (by rfl) (w2.heap.size) 0 (by rfl) [.int .i64 1, .string ⟨#[107]⟩] _ (fun w' hS => hS) Try.underlying58 rfl KZ.size58) hH ?_
    refine wpAnyH_take (i := 4) (v := .int .i64 e0) rfl (by kernel_rfl) (by kernel_rfl) (by kernel_rfl) (fun _ _ _ h => h) (Or.inl ⟨by rfl, fun w' hS => by go_simp⟩) hH ?_
    refine wpAnyH_ready (rs := [3]) (by kernel_rfl) (by simp) ?_
    refine AllReadyH.cons rfl (fun K hK => ?_) AllReadyH.nil
    go_simp
    refine (site_zone S'.out 1).mono ?_
    rintro e w8 ⟨v8, rfl, s2⟩
    have hkey : w8.rangeAt (w2.heap.size) 0 [.int .i64 1, .string ⟨#[107]⟩] := s2.keyR (b := w2.heap.size) (k := kk) (by simp)
    have S := Lib.hid s2
    clear s2 S'
    refine hK.out _ _ hkey (fun hH => ?_)
    clear hK K
    refine wpAnyH_ready (rs := [5]) (by kernel_rfl) (by simp) ?_
    refine AllReadyH.cons rfl (fun K hK => ?_) AllReadyH.nil
    go_simp
    have q := site_end_no S.out b kk ok_kk v8 e0 (by simp; exact hab)
    refine q.mono ?_
    clear q S
    rintro e w9 ⟨rfl, s2⟩
    have s3 := s2.only (vs' := []) (fun _ h => by cases h)
    have hkey : w9.rangeAt (w2.heap.size) 0 [.int .i64 1, .string ⟨#[107]⟩] := s3.keyR (b := w2.heap.size) (k := kk) (by simp)
    have S := Lib.hid s3
    clear s2 s3
    refine hK.out _ _ hkey (fun hH => ?_)
    clear hK K
    refine wpAnyH_ready (rs := [6]) (by kernel_rfl) (by simp) ?_
    refine AllReadyH.cons rfl (fun K hK => ?_) AllReadyH.nil
    go_simp
    refine hK.out _ _ hH (fun hH => ?_)
    clear hK K
    refine wpAnyH_done (by kernel_rfl) ?_ _
    go_upto_region 13 with fail
    have hkey : w9.rangeAt (w2.heap.size) 0 [.int .i64 1, .string ⟨#[107]⟩] := S.out.keyR (b := w2.heap.size) (k := kk) (by simp)
    have s2 := S.out.later (w' := w9.drew) ((Below.refl _ _).drew)
    have S' := Lib.hid s2
    clear s2 S
    refine wp_region_held_drew (S := fun w' => w'.rangeAt (w2.heap.size) 0 [.int .i64 1, .string ⟨#[107]⟩]) (by kernel_rfl) hkey (fun hH => ?_)
    refine wpAnyH_take (i := 0) (v := .pointer (some ⟨p, 0, none⟩)) rfl (by kernel_rfl) (by kernel_rfl) (by kernel_rfl) (fun _ _ _ h => h) (Or.inl ⟨by rfl, fun w' hS => by go_simp⟩) hH ?_
    refine wpAnyH_take (i := 1) (v := .int .i64 a) rfl (by kernel_rfl) (by kernel_rfl) (by kernel_rfl) (fun _ _ _ h => h) (Or.inl ⟨by rfl, fun w' hS => by go_simp⟩) hH ?_
    refine wpAnyH_take (i := 2) (v := KK kk) rfl (by kernel_rfl) (by kernel_rfl) (by kernel_rfl) (fun _ _ _ h => h) (yieldsIf_load_mid (by rfl) 58 (.tmp 9) (by rfl) (w2.heap.size) 0 (by rfl) [.int .i64 1, .string ⟨#[107]⟩] _ (fun w' hS => hS) Try.underlying58 rfl KZ.size58) hH ?_
    refine wpAnyH_take (i := 4) (v := .int .i64 e0) rfl (by kernel_rfl) (by kernel_rfl) (by kernel_rfl) (fun _ _ _ h => h) (Or.inl ⟨by rfl, fun w' hS => by go_simp⟩) hH ?_
    refine wpAnyH_ready (rs := [3]) (by kernel_rfl) (by simp) ?_
    refine AllReadyH.cons rfl (fun K hK => ?_) AllReadyH.nil
    go_simp
    refine (site_zone S'.out 1).mono ?_
    rintro e w10 ⟨v10, rfl, s2⟩
    have hkey : w10.rangeAt (w2.heap.size) 0 [.int .i64 1, .string ⟨#[107]⟩] := s2.keyR (b := w2.heap.size) (k := kk) (by simp)
    have S := Lib.hid s2
    clear s2 S'
    refine hK.out _ _ hkey (fun hH => ?_)
    clear hK K
    refine wpAnyH_ready (rs := [5]) (by kernel_rfl) (by simp) ?_
    refine AllReadyH.cons rfl (fun K hK => ?_) AllReadyH.nil
    go_simp
    have q := site_end_yes (v := v10) (o := some 1) S.out a kk ok_kk e0 [] (by simp) (Or.inl (by simp))
    rw [kk_del] at q
    refine q.mono ?_
    clear q S
    rintro e w11 ⟨rfl, s2⟩
    have s3 := s2.only (vs' := []) (fun _ h => by cases h)
    have hkey : w11.rangeAt (w2.heap.size) 0 [.int .i64 1, .string ⟨#[107]⟩] := s3.keyR (b := w2.heap.size) (k := kk) (by simp)
    have S := Lib.hid s3
    clear s2 s3
    refine hK.out _ _ hkey (fun hH => ?_)
    clear hK K
    refine wpAnyH_ready (rs := [6]) (by kernel_rfl) (by simp) ?_
    refine AllReadyH.cons rfl (fun K hK => ?_) AllReadyH.nil
    go_simp
    refine hK.out _ _ hH (fun hH => ?_)
    clear hK K
    refine wpAnyH_done (by kernel_rfl) ?_ _
    go_upto_region 14 with fail
    have hkey : w11.rangeAt (w2.heap.size) 0 [.int .i64 1, .string ⟨#[107]⟩] := S.out.keyR (b := w2.heap.size) (k := kk) (by simp)
    have s2 := S.out.later (w' := w11.drew) ((Below.refl _ _).drew)
    have S' := Lib.hid s2
    clear s2 S
    refine wp_region_held_drew (S := fun w' => w'.rangeAt (w2.heap.size) 0 [.int .i64 1, .string ⟨#[107]⟩]) (by kernel_rfl) hkey (fun hH => ?_)
    refine wpAnyH_take (i := 0) (v := .pointer (some ⟨p, 0, none⟩)) rfl (by kernel_rfl) (by kernel_rfl) (by kernel_rfl) (fun _ _ _ h => h) (Or.inl ⟨by rfl, fun w' hS => by go_simp⟩) hH ?_
    refine wpAnyH_take (i := 1) (v := .int .i64 a) rfl (by kernel_rfl) (by kernel_rfl) (by kernel_rfl) (fun _ _ _ h => h) (Or.inl ⟨by rfl, fun w' hS => by go_simp⟩) hH ?_
    refine wpAnyH_take (i := 2) (v := KK kk) rfl (by kernel_rfl) (by kernel_rfl) (by kernel_rfl) (fun _ _ _ h => h) (yieldsIf_load_mid (by rfl) 58 (.tmp 9) (by rfl) (w2.heap.size) 0 (by rfl) [.int .i64 1, .string ⟨#[107]⟩] _ (fun w' hS => hS) Try.underlying58 rfl KZ.size58) hH ?_
    refine wpAnyH_take (i := 4) (v := .int .i64 e0) rfl (by kernel_rfl) (by kernel_rfl) (by kernel_rfl) (fun _ _ _ h => h) (Or.inl ⟨by rfl, fun w' hS => by go_simp⟩) hH ?_
    refine wpAnyH_ready (rs := [3]) (by kernel_rfl) (by simp) ?_
    refine AllReadyH.cons rfl (fun K hK => ?_) AllReadyH.nil
    go_simp
    refine (site_zone S'.out 1).mono ?_
    rintro e w12 ⟨v12, rfl, s2⟩
    have hkey : w12.rangeAt (w2.heap.size) 0 [.int .i64 1, .string ⟨#[107]⟩] := s2.keyR (b := w2.heap.size) (k := kk) (by simp)
    have S := Lib.hid s2
    clear s2 S'
    refine hK.out _ _ hkey (fun hH => ?_)
    clear hK K
    refine wpAnyH_ready (rs := [5]) (by kernel_rfl) (by simp) ?_
    refine AllReadyH.cons rfl (fun K hK => ?_) AllReadyH.nil
    go_simp
    have q := site_end_no S.out a kk ok_kk v12 e0 (by simp)
    refine q.mono ?_
    clear q S
    rintro e w13 ⟨rfl, s2⟩
    have s3 := s2.only (vs' := []) (fun _ h => by cases h)
    have hkey : w13.rangeAt (w2.heap.size) 0 [.int .i64 1, .string ⟨#[107]⟩] := s3.keyR (b := w2.heap.size) (k := kk) (by simp)
    have S := Lib.hid s3
    clear s2 s3
    refine hK.out _ _ hkey (fun hH => ?_)
    clear hK K
    refine wpAnyH_ready (rs := [6]) (by kernel_rfl) (by simp) ?_
    refine AllReadyH.cons rfl (fun K hK => ?_) AllReadyH.nil
    go_simp
    refine hK.out _ _ hH (fun hH => ?_)
    clear hK K
    refine wpAnyH_done (by kernel_rfl) ?_ _
    go_wp2_with fail
    refine (site_flying S.out).mono ?_
    rintro e wz ⟨rfl, rfl⟩
    go_wp2
    go_ret
    exact ⟨rfl, S.out.below⟩

end Go.Proofs.Ytnnaidladcdbdaa
