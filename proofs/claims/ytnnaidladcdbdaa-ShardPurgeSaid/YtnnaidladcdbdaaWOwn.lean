/- The walk of ShardOwn: the call answers true. -/
import Derived.Test.YtnnaidladcdbdaaShown35
namespace Go.Proofs.Ytnnaidladcdbdaa
open Go.RowKit Go.ChangeMaps
open KZ (SV sv ZA KK)

/-- A whole struct's load under a guard that says yes. -/
theorem wpList_load_if {P : Program} {ops : Array Oper} {rest : List Oper} {op : Oper} {a : Act} {w : World} {Q : Exit → Act → World → Prop} (hw : Region.wanted op (yielded ops a.tmps) = true) (ty : TypeId) (x : Operand) (ho : op.op = .load ty x)
    (b o : Nat) (hx : a.eval x = .pointer (some ⟨b, o, none⟩)) (cs : List Value) (d : TypeDesc) (hc : w.rangeAt b o cs)
    (hu : P.underlying ty = some d) (hd : d.isRow = true) (hi : (P.info? ty).map (·.size) = some cs.length)
    (h : wpList P ops Q rest (a.put op.dst (.agg cs.toArray)) w) : wpList P ops Q (op :: rest) a w :=
  BigFrame.wpList_want hw fun _ hK => wp_load_mid ty x ho b o hx cs d hc hu hd hi (hK _ _ h)

abbrev kx : PK := (1, ⟨#[120]⟩)
theorem ok_kx : KP.ok kx := ⟨by decide, by show (1 : Nat) ≤ maxLen; unfold maxLen; omega⟩
theorem kx_d : getS ([] : List (PK × Option Int)) kx none = [] := by decide
theorem kx_f1 : beginF [] [] kx 1 = [(kx, 1, [])] := by decide
theorem kx_f2 : beginF [] [(kx, 1, [])] kx 2 = [(kx, 1, [2])] := by decide
theorem kx_e1 (n : Int) : (if (0 : Int) = 0 then putS (max 1 3) ([] : List (PK × Option Int)) kx (some n) else []) = [(kx, some n)] := rfl
theorem kx_e2 : del [(kx, (1 : Int), [(2 : Int)])] kx = [] := by decide
theorem kx_e3 (n : Int) : fillR ([] : List (Int × Option Int × Int)) [2] (if (0 : Int) = 0 then some n else none, 0) = [(2, some n, 0)] := rfl
theorem kx_v (n : Int) : valOf [((2 : Int), (some n : Option Int), (0 : Int))] 2 (none, 0) = (some n, 0) := rfl
theorem kx_h (n : Int) : has [((2 : Int), (some n : Option Int), (0 : Int))] 2 = true := rfl
theorem kx_r (n : Int) : del [((2 : Int), (some n : Option Int), (0 : Int))] 2 = [] := rfl
theorem kx_b (n : Int) : beginHow [(kx, some n)] [] kx = 1 := rfl
theorem kx_z (n : Int) : beginZ [(kx, some n)] kx = some n := rfl
theorem kx_g (n : Int) : getS [(kx, (some n : Option Int))] kx none = [(kx, some n)] := rfl
theorem kx_f4 (n : Int) : beginF [(kx, some n)] [] kx 3 = [] := rfl

set_option maxRecDepth 100000 in
set_option maxHeartbeats 4000000 in
theorem own_walk (n m : Int) (w : World) :
    Calls Try.prog 10 #[.int .i64 n, .int .i64 m] w fun e w' => e = .returned (.bool true) ∧ Below w.heap.size w w' := by
  go_enter Try.func10, Try.ntmps10
  go_wp2_with fail
  refine (shown35 w).mono ?_
  rintro e w1 ⟨rfl, hb1⟩
  go_wp2_with fail
  refine (site_new 3 w w1 hb1).mono ?_
  rintro e w2 ⟨p, rfl, s2⟩
  have S := Lib.hid s2
  clear s2 hb1
  go_upto_region 6 with fail
  have hc0 : ∀ j, (w2.alloc (.cells #[.int .i64 1, .string ⟨#[120]⟩] 58)).cell? ⟨w2.heap.size, j, none⟩ = #[Value.int .i64 1, .string ⟨#[120]⟩][j]? := fun j => World.cell?_alloc_new _ _ _ _
  have s2 := S.out.addKey (b := w2.heap.size) (k := kx) ((Below.refl _ _).alloc (Nat.le_refl _) (.cells #[.int .i64 1, .string ⟨#[120]⟩] 58)) (Nat.le_refl _) (by rw [hc0]; rfl) (by rw [hc0]; rfl)
  clear hc0 S
  revert s2
  generalize w2.alloc (.cells #[.int .i64 1, .string ⟨#[120]⟩] 58) = w3
  intro s2
  have S := Lib.hid s2
  clear s2
  have q := site_begin S.out 1 (by decide) kx ok_kx
  rw [kx_d, kx_f1, hdn] at q
  have k0 : w3.cell? ⟨w2.heap.size, 0, none⟩ = some (.int .i64 1) := (S.out.key (b := w2.heap.size) (k := kx) (by simp)).1
  have k1 : w3.cell? ⟨w2.heap.size, 1, none⟩ = some (.string ⟨#[120]⟩) := (S.out.key (b := w2.heap.size) (k := kx) (by simp)).2.1
  have Q := Lib.hid q
  clear q S
  go_wp2_with fail
  refine Q.out.mono ?_
  clear Q
  rintro e w4 ⟨va, rfl, s⟩
  have S := Lib.hid s
  clear s k0 k1
  have S' := Lib.hid (S.out.only (vs' := []) (fun _ h => by cases h))
  clear S
  have S := S'
  clear S'
  have q := site_begin S.out 2 (by decide) kx ok_kx
  rw [kx_d, kx_f2, hdn] at q
  have k0 : w4.cell? ⟨w2.heap.size, 0, none⟩ = some (.int .i64 1) := (S.out.key (b := w2.heap.size) (k := kx) (by simp)).1
  have k1 : w4.cell? ⟨w2.heap.size, 1, none⟩ = some (.string ⟨#[120]⟩) := (S.out.key (b := w2.heap.size) (k := kx) (by simp)).2.1
  have Q := Lib.hid q
  clear q S
  go_wp2_with fail
  refine Q.out.mono ?_
  clear Q
  rintro e w5 ⟨vb, rfl, s⟩
  have S := Lib.hid s
  clear s k0 k1
  have S' := Lib.hid (S.out.only (vs' := []) (fun _ h => by cases h))
  clear S
  have S := S'
  clear S'
  have q := site_zone S.out n
  have Q := Lib.hid q
  clear q S
  go_wp2_with fail
  refine Q.out.mono ?_
  clear Q
  rintro e w6 ⟨v, rfl, s⟩
  have S := Lib.hid s
  clear s
  go_upto_region 9 with (refine wpList_store_mid (by rfl) 69 (.tmp 8) (.tmp 31) (by rfl) w6.heap.size 0 (za (sv v)) (by rfl) (by rfl) (by exact there21 _ _ rfl) (size69' _) (za_one rfl) ?_)
  generalize hw : (w6.alloc _).setCells _ _ _ = w7
  obtain ⟨hb, hr, -⟩ := lay69 w6 _ (by rfl) v w7 hw
  have S' := Lib.hid (((S.out.addZone (b := w6.heap.size) (List.mem_cons_self ..) hb (Nat.le_refl _) hr).only (vs' := []) (fun _ h => by cases h)))
  clear hw S hb hr
  have S := S'
  clear S'
  have hzr : w7.rangeAt (w6.heap.size) 0 (zc (sv v)) := (S.out.zone (b := w6.heap.size) (v := v) (o := some n) (by simp)).1
  have q := site_end_yes (v := v) (o := some n) S.out 1 kx ok_kx 0 [2] (by simp) (Or.inr ⟨w6.heap.size, by simp⟩)
  rw [kx_e1, kx_e2, kx_e3] at q
  have k0 : w7.cell? ⟨w2.heap.size, 0, none⟩ = some (.int .i64 1) := (S.out.key (b := w2.heap.size) (k := kx) (by simp)).1
  have k1 : w7.cell? ⟨w2.heap.size, 1, none⟩ = some (.string ⟨#[120]⟩) := (S.out.key (b := w2.heap.size) (k := kx) (by simp)).2.1
  have Q := Lib.hid q
  clear q S
  go_wp2_with (refine wpList_load_mid (by rfl) 69 (.tmp 8) (by rfl) (w6.heap.size) 0 (by rfl) (zc (sv v)) _ (by exact hzr) Try.underlying69 rfl (size69 _) ?_)
  refine Q.out.mono ?_
  clear Q
  rintro e w8 ⟨rfl, s⟩
  have S := Lib.hid s
  clear s k0 k1
  clear hzr
  obtain ⟨hz, hn⟩ := S.out.zone (b := w6.heap.size) (v := v) (o := some n) (by simp)
  have hn' := hn
  obtain ⟨gb, cap, hv, hkr, hkt⟩ := hn
  have cv : w8.cell? ⟨gb, 0, none⟩ = some (.int .i64 n) := hkr 0 _ rfl
  have fv : w8.frozen? ⟨gb, 0, none⟩ = false := (hkt 0 (by omega)).2
  have S' := Lib.hid (S.out.write (u := .int .i64 m) (fun X h b hb => (h (w6.heap.size, v, some n) (by simp)).zx b hb) hv hn')
  subst hv
  have cz : w8.cell? ⟨w6.heap.size, 0, none⟩ = some (.slice (some ⟨gb, 0, none⟩) 1 cap) := hz 0 _ rfl
  clear S hz hn' hkr hkt
  go_upto_region 11 with fail
  clear cz cv fv
  revert S'
  generalize w8.setCell ⟨gb, 0, none⟩ (.int .i64 m) = w9
  intro S'
  have S := S'
  clear S'
  have q := site_result S.out 2 (by decide)
  rw [kx_v, kx_h, kx_r] at q
  have Q := Lib.hid q
  clear q S
  go_wp2_with fail
  refine Q.out.mono ?_
  clear Q
  rintro e w10 ⟨v10, rfl, s⟩
  have S := Lib.hid s
  clear s
  go_upto_region 12 with (refine wpList_store_mid (by rfl) 69 (.tmp 10) (.tmp 44) (by rfl) w10.heap.size 0 (za (sv v10)) (by rfl) (by rfl) (by exact there21 _ _ rfl) (size69' _) (za_one rfl) ?_)
  generalize hw : (w10.alloc _).setCells _ _ _ = w11
  obtain ⟨hb, hr, -⟩ := lay69 w10 _ (by rfl) v10 w11 hw
  have S' := Lib.hid (((S.out.addZone (b := w10.heap.size) (List.mem_cons_self ..) hb (Nat.le_refl _) hr).only (vs' := []) (fun _ h => by cases h)))
  clear hw S hb hr
  have S := S'
  clear S'
  obtain ⟨hzr, hzn⟩ := S.out.zone (b := w10.heap.size) (v := v10) (o := some n) (by simp)
  have q := site_number S.out hzn
  have Q := Lib.hid q
  clear q S hzn
  go_wp2_with (first | (refine wpList_load_mid (by rfl) 69 (.tmp 10) (by rfl) (w10.heap.size) 0 (by rfl) (zc (sv v10)) _ (by exact hzr) Try.underlying69 rfl (size69 _) ?_) | (refine wpList_load_if (by rfl) 69 (.tmp 10) (by rfl) (w10.heap.size) 0 (by rfl) (zc (sv v10)) _ (by exact hzr) Try.underlying69 rfl (size69 _) ?_))
  refine Q.out.mono ?_
  clear Q hzr
  rintro e w12 ⟨rfl, s⟩
  have S := Lib.hid s
  clear s
  obtain ⟨hz, hn⟩ := S.out.zone (b := w10.heap.size) (v := v10) (o := some n) (by simp)
  have hn' := hn
  obtain ⟨gb, cap, hv, hkr, hkt⟩ := hn
  have cv : w12.cell? ⟨gb, 0, none⟩ = some (.int .i64 n) := hkr 0 _ rfl
  have fv : w12.frozen? ⟨gb, 0, none⟩ = false := (hkt 0 (by omega)).2
  have S' := Lib.hid (S.out.write (u := .int .i64 m) (fun X h b hb => (h (w10.heap.size, v10, some n) (by simp)).zx b hb) hv hn')
  subst hv
  have cz : w12.cell? ⟨w10.heap.size, 0, none⟩ = some (.slice (some ⟨gb, 0, none⟩) 1 cap) := hz 0 _ rfl
  clear S hz hn' hkr hkt
  go_upto_region 15 with fail
  clear cz cv fv
  revert S'
  generalize w12.setCell ⟨gb, 0, none⟩ (.int .i64 m) = w13
  intro S'
  have S := S'
  clear S'
  have q := site_begin S.out 3 (by decide) kx ok_kx
  rw [kx_b, kx_z, kx_g, kx_f4, hdn] at q
  have k0 : w13.cell? ⟨w2.heap.size, 0, none⟩ = some (.int .i64 1) := (S.out.key (b := w2.heap.size) (k := kx) (by simp)).1
  have k1 : w13.cell? ⟨w2.heap.size, 1, none⟩ = some (.string ⟨#[120]⟩) := (S.out.key (b := w2.heap.size) (k := kx) (by simp)).2.1
  have Q := Lib.hid q
  clear q S
  go_wp2_with fail
  refine Q.out.mono ?_
  clear Q
  rintro e w14 ⟨v14, rfl, s⟩
  have S := Lib.hid s
  clear s k0 k1
  go_upto_region 16 with (refine wpList_store_mid (by rfl) 69 (.tmp 14) (.tmp 62) (by rfl) w14.heap.size 0 (za (sv v14)) (by rfl) (by rfl) (by exact there21 _ _ rfl) (size69' _) (za_one rfl) ?_)
  generalize hw : (w14.alloc _).setCells _ _ _ = w15
  obtain ⟨hb, hr, -⟩ := lay69 w14 _ (by rfl) v14 w15 hw
  have S' := Lib.hid (((S.out.addZone (b := w14.heap.size) (List.mem_cons_self ..) hb (Nat.le_refl _) hr).only (vs' := []) (fun _ h => by cases h)))
  clear hw S hb hr
  have S := S'
  clear S'
  obtain ⟨hzr, hzn⟩ := S.out.zone (b := w14.heap.size) (v := v14) (o := some n) (by simp)
  have q := site_number S.out hzn
  have Q := Lib.hid q
  clear q S hzn
  go_wp2_with (first | (refine wpList_load_mid (by rfl) 69 (.tmp 14) (by rfl) (w14.heap.size) 0 (by rfl) (zc (sv v14)) _ (by exact hzr) Try.underlying69 rfl (size69 _) ?_) | (refine wpList_load_if (by rfl) 69 (.tmp 14) (by rfl) (w14.heap.size) 0 (by rfl) (zc (sv v14)) _ (by exact hzr) Try.underlying69 rfl (size69 _) ?_))
  refine Q.out.mono ?_
  clear Q hzr
  rintro e w16 ⟨rfl, s⟩
  have S := Lib.hid s
  clear s
  obtain ⟨hz, hn⟩ := S.out.zone (b := w14.heap.size) (v := v14) (o := some n) (by simp)
  have hn' := hn
  obtain ⟨gb, cap, hv, hkr, hkt⟩ := hn
  have cv : w16.cell? ⟨gb, 0, none⟩ = some (.int .i64 n) := hkr 0 _ rfl
  have fv : w16.frozen? ⟨gb, 0, none⟩ = false := (hkt 0 (by omega)).2
  have S' := Lib.hid (S.out.write (u := .int .i64 m) (fun X h b hb => (h (w14.heap.size, v14, some n) (by simp)).zx b hb) hv hn')
  subst hv
  have cz : w16.cell? ⟨w14.heap.size, 0, none⟩ = some (.slice (some ⟨gb, 0, none⟩) 1 cap) := hz 0 _ rfl
  clear S hz hn' hkr hkt
  go_upto_region 19 with fail
  clear cz cv fv
  revert S'
  generalize w16.setCell ⟨gb, 0, none⟩ (.int .i64 m) = w17
  intro S'
  have S := S'
  clear S'
  have q := site_begin S.out 3 (by decide) kx ok_kx
  rw [kx_b, kx_z, kx_g, kx_f4, hdn] at q
  have k0 : w17.cell? ⟨w2.heap.size, 0, none⟩ = some (.int .i64 1) := (S.out.key (b := w2.heap.size) (k := kx) (by simp)).1
  have k1 : w17.cell? ⟨w2.heap.size, 1, none⟩ = some (.string ⟨#[120]⟩) := (S.out.key (b := w2.heap.size) (k := kx) (by simp)).2.1
  have Q := Lib.hid q
  clear q S
  go_wp2_with fail
  refine Q.out.mono ?_
  clear Q
  rintro e w18 ⟨v17, rfl, s⟩
  have S := Lib.hid s
  clear s k0 k1
  go_upto_region 20 with (refine wpList_store_mid (by rfl) 69 (.tmp 17) (.tmp 79) (by rfl) w18.heap.size 0 (za (sv v17)) (by rfl) (by rfl) (by exact there21 _ _ rfl) (size69' _) (za_one rfl) ?_)
  generalize hw : (w18.alloc _).setCells _ _ _ = w19
  obtain ⟨hb, hr, -⟩ := lay69 w18 _ (by rfl) v17 w19 hw
  have S' := Lib.hid (((S.out.addZone (b := w18.heap.size) (List.mem_cons_self ..) hb (Nat.le_refl _) hr).only (vs' := []) (fun _ h => by cases h)))
  clear hw S hb hr
  have S := S'
  clear S'
  have bn : (n == n) = true := by simp
  obtain ⟨hzr, hzn⟩ := S.out.zone (b := w18.heap.size) (v := v17) (o := some n) (by simp)
  have q := site_number S.out hzn
  have Q := Lib.hid q
  clear q S hzn
  go_wp2_with (first | (refine wpList_load_mid (by rfl) 69 (.tmp 17) (by rfl) (w18.heap.size) 0 (by rfl) (zc (sv v17)) _ (by exact hzr) Try.underlying69 rfl (size69 _) ?_) | (refine wpList_load_if (by rfl) 69 (.tmp 17) (by rfl) (w18.heap.size) 0 (by rfl) (zc (sv v17)) _ (by exact hzr) Try.underlying69 rfl (size69 _) ?_))
  refine Q.out.mono ?_
  clear Q hzr
  rintro e w20 ⟨rfl, s⟩
  have S := Lib.hid s
  clear s
  go_wp2
  go_ret
  exact ⟨rfl, S.out.below⟩

end Go.Proofs.Ytnnaidladcdbdaa
