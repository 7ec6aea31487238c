/- shown (chapter 15): what must be in any case, is. -/
import Derived.Test.YtnnaidladcdbdaaSite
namespace Go.Proofs.Ytnnaidladcdbdaa
open Go.RowKit Go.ChangeMaps
open KZ (SV sv ZA KK)

abbrev ka : PK := (1, ⟨#[97]⟩)
theorem ok_ka : KP.ok ka := ⟨by decide, by show (1 : Nat) ≤ maxLen; unfold maxLen; omega⟩
theorem hb1 : beginHow [] [] ka = 2 := by decide
theorem hd1 : getS ([] : List (PK × Option Int)) ka none = [] := by decide
theorem hf1 : beginF [] [] ka 1 = [(ka, 1, [])] := by decide
theorem hb2 : beginHow [] [(ka, 1, [])] ka = 3 := by decide
theorem hf2 : beginF [] [(ka, 1, [])] ka 2 = [(ka, 1, [2])] := by decide
theorem hd3 : (if (0 : Int) = 0 then putS (max 1 2) ([] : List (PK × Option Int)) ka (some 7) else []) = [(ka, some 7)] := by decide
theorem hf3 : del [(ka, (1 : Int), [(2 : Int)])] ka = [] := by decide
theorem hr3 : fillR ([] : List (Int × Option Int × Int)) [2] (if (0 : Int) = 0 then some 7 else none, 0) = [(2, some 7, 0)] := by decide
theorem hb4 : beginHow [(ka, some 7)] [] ka = 1 := by decide
theorem hz4 : beginZ [(ka, some 7)] ka = some 7 := by decide
theorem hd4 : getS [(ka, (some 7 : Option Int))] ka none = [(ka, some 7)] := by decide
theorem hf4 : beginF [(ka, some 7)] [] ka 3 = [] := by decide

theorem hh5 : has [((2 : Int), (some 7 : Option Int), (0 : Int))] 2 = true := by decide
theorem hv5 : valOf [((2 : Int), (some 7 : Option Int), (0 : Int))] 2 (none, 0) = (some 7, 0) := by decide
theorem hd5 : del [((2 : Int), (some 7 : Option Int), (0 : Int))] 2 = [] := by decide
theorem hdn (i : Int) : del ([] : List (Int × Option Int × Int)) i = [] := rfl

set_option maxRecDepth 100000 in
set_option maxHeartbeats 4000000 in
theorem shown35 (w : World) : Calls Try.prog 35 #[] w fun e w' => e = .returned (.bool true) ∧ Below w.heap.size w w' := by
  go_enter Try.func35, Try.ntmps35
  go_wp2_with fail
  refine (site_new 2 w w (Below.refl _ _)).mono ?_
  rintro e w1 ⟨p, rfl, s1⟩
  have S1 := Lib.hid s1
  clear s1
  go_upto_region 5 with fail
  have hc0 : ∀ j, (w1.alloc (.cells #[.int .i64 1, .string ⟨#[97]⟩] 58)).cell? ⟨w1.heap.size, j, none⟩ = #[Value.int .i64 1, .string ⟨#[97]⟩][j]? := fun j => World.cell?_alloc_new _ _ _ _
  have s2 := S1.out.addKey (b := w1.heap.size) (k := ka) ((Below.refl _ _).alloc (Nat.le_refl _) (.cells #[.int .i64 1, .string ⟨#[97]⟩] 58)) (Nat.le_refl _) (by rw [hc0]; rfl) (by rw [hc0]; rfl)
  clear hc0 S1
  revert s2
  generalize w1.alloc (.cells #[.int .i64 1, .string ⟨#[97]⟩] 58) = w2
  intro s2
  have S2 := Lib.hid s2
  clear s2
  have hlt := lit_there w2 7
  go_upto_region 6 with (refine wpList_store_mid (by rfl) 69 (.tmp 3) (.tmp 22) (by rfl) (w2.heap.size + 1) 0 (za (sv (some ⟨w2.heap.size, 0, none⟩, 1, 1))) (by rfl) (by rfl) (by exact hlt _ rfl) (size69' _) (za_one rfl) ?_)
  generalize hw : ((w2.alloc _).alloc _).setCells _ _ _ = w3
  obtain ⟨hb3, hr3, hz3⟩ := zone_lay w2 7 _ (by rfl) w3 hw
  have S := Lib.hid (S2.out.addBoth (b := w2.heap.size + 1) hb3 hz3 (fun a ha => by simp only [Option.some.injEq] at ha; subst ha; exact Nat.le_refl _) (by omega) hr3)
  clear S2 hb3 hr3 hz3 hw hlt
  have q := site_begin S.out 1 (by decide) ka ok_ka
  rw [hb1, hd1, hf1, hdn] at q
  have k0 : w3.cell? ⟨w1.heap.size, 0, none⟩ = some (.int .i64 1) := (S.out.key (b := w1.heap.size) (k := ka) (by simp)).1
  have k1 : w3.cell? ⟨w1.heap.size, 1, none⟩ = some (.string ⟨#[97]⟩) := (S.out.key (b := w1.heap.size) (k := ka) (by simp)).2.1
  have Q := Lib.hid q
  clear q S
  go_wp2_with fail
  refine Q.out.mono ?_
  clear Q
  rintro e w4 ⟨v4, rfl, s4⟩
  have S := Lib.hid s4
  clear s4 k0 k1
  go_upto_region 7 with (refine wpList_store_mid (by rfl) 69 (.tmp 4) (.tmp 27) (by rfl) w4.heap.size 0 (za (sv v4)) (by rfl) (by rfl) (by exact there21 _ _ rfl) (size69' _) (za_one rfl) ?_)
  generalize hw : (w4.alloc _).setCells _ _ _ = w5
  obtain ⟨hb5, hr5, -⟩ := lay69 w4 _ (by rfl) v4 w5 hw
  have S' := Lib.hid ((S.out.later hb5).only (vs' := []) (fun _ h => by cases h))
  clear hw S hb5 hr5
  have S := S'
  clear S'
  have q := site_begin S.out 2 (by decide) ka ok_ka
  rw [hb2, hd1, hf2, hdn] at q
  have k0 : w5.cell? ⟨w1.heap.size, 0, none⟩ = some (.int .i64 1) := (S.out.key (b := w1.heap.size) (k := ka) (by simp)).1
  have k1 : w5.cell? ⟨w1.heap.size, 1, none⟩ = some (.string ⟨#[97]⟩) := (S.out.key (b := w1.heap.size) (k := ka) (by simp)).2.1
  have Q := Lib.hid q
  clear q S
  go_wp2_with fail
  refine Q.out.mono ?_
  clear Q
  rintro e w6 ⟨v6, rfl, s6⟩
  have S := Lib.hid s6
  clear s6 k0 k1
  go_upto_region 8 with (refine wpList_store_mid (by rfl) 69 (.tmp 6) (.tmp 33) (by rfl) w6.heap.size 0 (za (sv v6)) (by rfl) (by rfl) (by exact there21 _ _ rfl) (size69' _) (za_one rfl) ?_)
  generalize hw : (w6.alloc _).setCells _ _ _ = w7
  obtain ⟨hb7, hr7, -⟩ := lay69 w6 _ (by rfl) v6 w7 hw
  have S' := Lib.hid ((S.out.later hb7).only (vs' := []) (fun _ h => by cases h))
  clear hw S hb7 hr7
  have S := S'
  clear S'
  have q := site_end_no S.out 2 ka ok_ka (some ⟨w2.heap.size, 0, none⟩, 1, 1) 0 (by simp)
  have k0 : w7.cell? ⟨w1.heap.size, 0, none⟩ = some (.int .i64 1) := (S.out.key (b := w1.heap.size) (k := ka) (by simp)).1
  have k1 : w7.cell? ⟨w1.heap.size, 1, none⟩ = some (.string ⟨#[97]⟩) := (S.out.key (b := w1.heap.size) (k := ka) (by simp)).2.1
  have hzr : w7.rangeAt (w2.heap.size + 1) 0 (zc (sv (some ⟨w2.heap.size, 0, none⟩, 1, 1))) := (S.out.zone (b := w2.heap.size + 1) (v := (some ⟨w2.heap.size, 0, none⟩, 1, 1)) (o := some 7) (by simp)).1
  have Q := Lib.hid q
  clear q S
  go_wp2_with (refine wpList_load_mid (by rfl) 69 (.tmp 3) (by rfl) (w2.heap.size + 1) 0 (by rfl) (zc (sv (some ⟨w2.heap.size, 0, none⟩, 1, 1))) _ (by exact hzr) Try.underlying69 rfl (size69 _) ?_)
  refine Q.out.mono ?_
  clear Q
  rintro e w8 ⟨rfl, s8⟩
  have S := Lib.hid s8
  clear s8 k0 k1 hzr
  have q := site_end_yes (v := (some ⟨w2.heap.size, 0, none⟩, 1, 1)) (o := some 7) S.out 1 ka ok_ka 0 [2] (by simp) (Or.inr ⟨w2.heap.size + 1, by simp⟩)
  rw [hd3, hf3, hr3] at q
  have k0 : w8.cell? ⟨w1.heap.size, 0, none⟩ = some (.int .i64 1) := (S.out.key (b := w1.heap.size) (k := ka) (by simp)).1
  have k1 : w8.cell? ⟨w1.heap.size, 1, none⟩ = some (.string ⟨#[97]⟩) := (S.out.key (b := w1.heap.size) (k := ka) (by simp)).2.1
  have hzr : w8.rangeAt (w2.heap.size + 1) 0 (zc (sv (some ⟨w2.heap.size, 0, none⟩, 1, 1))) := (S.out.zone (b := w2.heap.size + 1) (v := (some ⟨w2.heap.size, 0, none⟩, 1, 1)) (o := some 7) (by simp)).1
  have Q := Lib.hid q
  clear q S
  go_wp2_with (refine wpList_load_mid (by rfl) 69 (.tmp 3) (by rfl) (w2.heap.size + 1) 0 (by rfl) (zc (sv (some ⟨w2.heap.size, 0, none⟩, 1, 1))) _ (by exact hzr) Try.underlying69 rfl (size69 _) ?_)
  refine Q.out.mono ?_
  clear Q
  rintro e w9 ⟨rfl, s9⟩
  have S := Lib.hid s9
  clear s9 k0 k1 hzr
  have q := site_ready S.out 2 (by decide)
  rw [hh5] at q
  have Q := Lib.hid q
  clear q S
  go_wp2_with fail
  refine Q.out.mono ?_
  clear Q
  rintro e w10 ⟨rfl, s10⟩
  have S := Lib.hid s10
  clear s10
  have q := site_result S.out 2 (by decide)
  rw [hv5, hh5, hd5] at q
  have Q := Lib.hid q
  clear q S
  go_wp2_with fail
  refine Q.out.mono ?_
  clear Q
  rintro e w11 ⟨v11, rfl, s11⟩
  have S := Lib.hid s11
  clear s11
  go_upto_region 12 with (refine wpList_store_mid (by rfl) 69 (.tmp 11) (.tmp 48) (by rfl) w11.heap.size 0 (za (sv v11)) (by rfl) (by rfl) (by exact there21 _ _ rfl) (size69' _) (za_one rfl) ?_)
  generalize hw : (w11.alloc _).setCells _ _ _ = w12
  obtain ⟨hb12, hr12, -⟩ := lay69 w11 _ (by rfl) v11 w12 hw
  have S' := Lib.hid (((S.out.addZone (b := w11.heap.size) (List.mem_cons_self ..) hb12 (Nat.le_refl _) hr12).only (vs' := []) (fun _ h => by cases h)))
  clear hw S hb12 hr12
  have S := S'
  clear S'
  have q := site_begin S.out 3 (by decide) ka ok_ka
  rw [hb4, hz4, hd4, hf4, hdn] at q
  have k0 : w12.cell? ⟨w1.heap.size, 0, none⟩ = some (.int .i64 1) := (S.out.key (b := w1.heap.size) (k := ka) (by simp)).1
  have k1 : w12.cell? ⟨w1.heap.size, 1, none⟩ = some (.string ⟨#[97]⟩) := (S.out.key (b := w1.heap.size) (k := ka) (by simp)).2.1
  have Q := Lib.hid q
  clear q S
  go_wp2_with fail
  refine Q.out.mono ?_
  clear Q
  rintro e w13 ⟨v13, rfl, s13⟩
  have S := Lib.hid s13
  clear s13 k0 k1
  go_upto_region 13 with (refine wpList_store_mid (by rfl) 69 (.tmp 14) (.tmp 55) (by rfl) w13.heap.size 0 (za (sv v13)) (by rfl) (by rfl) (by exact there21 _ _ rfl) (size69' _) (za_one rfl) ?_)
  generalize hw : (w13.alloc _).setCells _ _ _ = w14
  obtain ⟨hb14, hr14, -⟩ := lay69 w13 _ (by rfl) v13 w14 hw
  have S' := Lib.hid (((S.out.addZone (b := w13.heap.size) (List.mem_cons_self ..) hb14 (Nat.le_refl _) hr14).only (vs' := []) (fun _ h => by cases h)))
  clear hw S hb14 hr14
  have S := S'
  clear S'
  obtain ⟨hz11, hn11⟩ := S.out.zone (b := w11.heap.size) (v := v11) (o := some 7) (by simp)
  obtain ⟨hz13, hn13⟩ := S.out.zone (b := w13.heap.size) (v := v13) (o := some 7) (by simp)
  obtain ⟨b11, cap11, e11, hk11, -⟩ := hn11
  obtain ⟨b13, cap13, e13, hk13, -⟩ := hn13
  subst e11 e13
  have c11 : w14.cell? ⟨w11.heap.size, 0, none⟩ = some (.slice (some ⟨b11, 0, none⟩) 1 cap11) := hz11 0 _ rfl
  have c13 : w14.cell? ⟨w13.heap.size, 0, none⟩ = some (.slice (some ⟨b13, 0, none⟩) 1 cap13) := hz13 0 _ rfl
  have c7 : w14.cell? ⟨b11, 0, none⟩ = some (.int .i64 7) := hk11 0 _ rfl
  have ql := site_len S.out
  have qf := site_flying S.out
  have QL := Lib.hid ql
  have QF := Lib.hid qf
  clear ql qf hz11 hz13 hk11 hk13
  go_wp2_with fail
  refine QL.out.mono ?_
  rintro e w15 ⟨rfl, rfl⟩
  go_wp2_with fail
  refine QF.out.mono ?_
  rintro e w15 ⟨rfl, rfl⟩
  go_wp2
  go_ret
  exact ⟨rfl, S.out.below⟩

end Go.Proofs.Ytnnaidladcdbdaa
