/- ShardTells' switch: Begin, End. -/
import Derived.Test.YtnnaidladcdbdaaFrame15
namespace Go.Proofs.Ytnnaidladcdbdaa
open Go.RowKit Go.ChangeMaps
open KZ (SV sv ZA KK)
set_option linter.unusedVariables false

set_option maxRecDepth 1000000 in
set_option maxHeartbeats 8000000 in
theorem sw_case0_in {w0 w4 : World} {p q R k bx : Nat} {W E : Int} {kk : PK} {l : List (PK × Int)} {fl : List TFl} {rs : List (Int × Option Int × Int)} {u0 u1 u2 u3 u4 u5 u12 u13 u14 u15 u16 u17 u18 u19 u20 u21 u22 u23 u24 u25 u26 u27 u28 u29 u30 u31 u32 u33 u34 u35 u36 u37 u38 u39 u40 u41 u42 u43 u44 u45 u46 u47 u48 u49 u50 u51 u52 u53 u54 u55 u56 u57 u58 u59 u60 u61 u62 u63 u65 u66 u67 u68 u69 u70 u71 u72 u73 u74 u75 u76 u77 u78 u79 u80 u81 u82 u83 u84 u85 u86 u87 u88 u89 u90 u91 u92 u93 u94 u95 u96 u97 u98 u99 u100 u101 u102 u103 u104 u105 u106 u107 u108 u109 u110 u111 u112 u113 u114 u115 u116 u117 u118 u119 u120 u121 u122 u123 u124 u125 u126 u127 u128 u129 u130 u131 u132 u133 u134 u135 u136 u137 u138 u139 u140 u141 u142 u143 u144 u145 u146 u147 u148 u149 u150 u151 u152 u153 u154 u155 u156 u157 u158 u159 u160 u161 u162 u163 u164 u165 u166 u167 u168 u169 u170 u171 u172 u173 u174 u175 u176 u177 u178 u179 u180 u181 u182 u183 u184 u185 u186 u187 u188 u189 u190 u191 u192 u193 u194 u195 u196 u197 u198 u199 u200 u201 u202 u203 u204 u205 u206 u207 u208 u209 u210 u211 u212 u213 u214 u215 u216 u217 u218 u219 u220 u221 u222 u223 u224 u225 u226 u227 u228 u229 u230 u231 u232 u233 u234 : Value} (hk : k < 100) (hR1 : 1 ≤ R) (hR2 : R ≤ 20) (hiw : KI.ok W) (hkp : KP.ok kk) (inv : Inv15 R k l fl rs)
    (h : Both w0.heap.size w0 w4 p q R l fl rs (rows15 bx 0 W E kk) []) {Q : Exit → Act → World → Prop} (hQ : ∀ A' w', SwPost w0 p q R k bx 0 W E kk ⟨#[u0, u1, u2, u3, u4, u5, .pointer (some ⟨p, 0, none⟩), .pointer (some ⟨q, 0, none⟩), .int .i64 k, .pointer (some ⟨bx, 0, none⟩), .pointer (some ⟨bx + 1, 0, none⟩), .pointer (some ⟨bx + 2, 0, none⟩), u12, u13, u14, u15, u16, u17, u18, u19, u20, u21, u22, u23, u24, u25, u26, u27, u28, u29, u30, u31, u32, u33, u34, u35, u36, u37, u38, u39, u40, u41, u42, u43, u44, u45, u46, u47, u48, u49, u50, u51, u52, u53, u54, u55, u56, u57, u58, u59, u60, u61, u62, u63, .int .i64 0, u65, u66, u67, u68, u69, u70, u71, u72, u73, u74, u75, u76, u77, u78, u79, u80, u81, u82, u83, u84, u85, u86, u87, u88, u89, u90, u91, u92, u93, u94, u95, u96, u97, u98, u99, u100, u101, u102, u103, u104, u105, u106, u107, u108, u109, u110, u111, u112, u113, u114, u115, u116, u117, u118, u119, u120, u121, u122, u123, u124, u125, u126, u127, u128, u129, u130, u131, u132, u133, u134, u135, u136, u137, u138, u139, u140, u141, u142, u143, u144, u145, u146, u147, u148, u149, u150, u151, u152, u153, u154, u155, u156, u157, u158, u159, u160, u161, u162, u163, u164, u165, u166, u167, u168, u169, u170, u171, u172, u173, u174, u175, u176, u177, u178, u179, u180, u181, u182, u183, u184, u185, u186, u187, u188, u189, u190, u191, u192, u193, u194, u195, u196, u197, u198, u199, u200, u201, u202, u203, u204, u205, u206, u207, u208, u209, u210, u211, u212, u213, u214, u215, u216, u217, u218, u219, u220, u221, u222, u223, u224, u225, u226, u227, u228, u229, u230, u231, u232, u233, u234], []⟩ A' w' → Q .normal A' w') : Code.wp Try.prog sw15 Q ⟨#[u0, u1, u2, u3, u4, u5, .pointer (some ⟨p, 0, none⟩), .pointer (some ⟨q, 0, none⟩), .int .i64 k, .pointer (some ⟨bx, 0, none⟩), .pointer (some ⟨bx + 1, 0, none⟩), .pointer (some ⟨bx + 2, 0, none⟩), u12, u13, u14, u15, u16, u17, u18, u19, u20, u21, u22, u23, u24, u25, u26, u27, u28, u29, u30, u31, u32, u33, u34, u35, u36, u37, u38, u39, u40, u41, u42, u43, u44, u45, u46, u47, u48, u49, u50, u51, u52, u53, u54, u55, u56, u57, u58, u59, u60, u61, u62, u63, .int .i64 0, u65, u66, u67, u68, u69, u70, u71, u72, u73, u74, u75, u76, u77, u78, u79, u80, u81, u82, u83, u84, u85, u86, u87, u88, u89, u90, u91, u92, u93, u94, u95, u96, u97, u98, u99, u100, u101, u102, u103, u104, u105, u106, u107, u108, u109, u110, u111, u112, u113, u114, u115, u116, u117, u118, u119, u120, u121, u122, u123, u124, u125, u126, u127, u128, u129, u130, u131, u132, u133, u134, u135, u136, u137, u138, u139, u140, u141, u142, u143, u144, u145, u146, u147, u148, u149, u150, u151, u152, u153, u154, u155, u156, u157, u158, u159, u160, u161, u162, u163, u164, u165, u166, u167, u168, u169, u170, u171, u172, u173, u174, u175, u176, u177, u178, u179, u180, u181, u182, u183, u184, u185, u186, u187, u188, u189, u190, u191, u192, u193, u194, u195, u196, u197, u198, u199, u200, u201, u202, u203, u204, u205, u206, u207, u208, u209, u210, u211, u212, u213, u214, u215, u216, u217, u218, u219, u220, u221, u222, u223, u224, u225, u226, u227, u228, u229, u230, u231, u232, u233, u234], []⟩ w4 := by
  have HIW := Lib.hid hiw
  have HKP := Lib.hid hkp
  have INV := Lib.hid inv
  have D := Lib.hid h
  have HQ := Lib.hid hQ
  clear hiw hkp inv h hQ
  conv => arg 2; whnf
  obtain ⟨H, n, oo, l2, fl2, rs2, inv2, hn, qs, qr⟩ := step_begin w0.heap.size w0 p q INV.out (by omega) (by omega) W HIW.out kk HKP.out
  have INV2 := Lib.hid inv2
  have QS := Lib.hid (qs _ _ _ D.out)
  have QR := Lib.hid qr
  have HN := Lib.hid hn
  clear inv2 qs qr hn
  have c1 : w4.cell? ⟨bx, 1, none⟩ = some (.int .i64 W) := D.out.cell (b := bx) (xs := x15 0 W E kk) (by simp) 1 _ rfl
  have k0 : w4.cell? ⟨bx + 1, 0, none⟩ = some (.int .i64 kk.1) := D.out.cell (b := bx + 1) (xs := k15 kk) (by simp) 0 _ rfl
  have k1 : w4.cell? ⟨bx + 1, 1, none⟩ = some (.string kk.2) := D.out.cell (b := bx + 1) (xs := k15 kk) (by simp) 1 _ rfl
  go_wp2_with fail
  refine QS.out.mono ?_
  clear QS c1 k0 k1
  rintro e w5 ⟨v, rfl, h5⟩
  have D5 := Lib.hid h5
  clear h5 D
  go_upto_region 18 with (refine wpList_store_mid (by rfl) 69 (.tmp 12) (.tmp 75) (by rfl) w5.heap.size 0 (za (sv v)) (by rfl) (by rfl) (by exact there21 _ _ rfl) (size69' _) (za_one rfl) ?_)
  generalize hw : (w5.alloc _).setCells _ _ _ = w6
  obtain ⟨hb, hr, hlt⟩ := lay69 w5 _ (by rfl) v w6 hw
  have D6 := Lib.hid (D5.out.add (b := w5.heap.size) (xs := zc (sv v)) hb (Nat.le_refl _) hlt hr)
  clear hw D5 hb hr hlt
  have c1 : w6.cell? ⟨bx, 1, none⟩ = some (.int .i64 W) := D6.out.cell (b := bx) (xs := x15 0 W E kk) (by simp) 1 _ rfl
  have k0 : w6.cell? ⟨bx + 2, 0, none⟩ = some (.int .i64 kk.1) := D6.out.cell (b := bx + 2) (xs := k15 kk) (by simp) 0 _ rfl
  have k1 : w6.cell? ⟨bx + 2, 1, none⟩ = some (.string kk.2) := D6.out.cell (b := bx + 2) (xs := k15 kk) (by simp) 1 _ rfl
  have QR2 := Lib.hid (QR.out _ _ _ D6.out)
  go_wp2_with fail
  refine QR2.out.mono ?_
  clear QR QR2 c1 k0 k1 D6
  rintro e w7 ⟨rfl, h7⟩
  have D7 := Lib.hid h7
  clear h7
  have hzr := D7.out.row (b := w5.heap.size) (xs := zc (sv v)) (by simp)
  have QN := Lib.hid (duo_number D7.out (D7.out.at (v := v) (o := oo) (by simp)))
  have b1 : (H != H) = false := by simp
  have b2 : (n != n) = false := by simp
  go_wp2_with (refine wpList_load_15 (by rfl) 69 (.tmp 12) (by rfl) (w5.heap.size) 0 (by rfl) (zc (sv v)) _ (by exact hzr) Try.underlying69 rfl (size69 _) ?_)
  refine QN.out.mono ?_
  clear QN hzr D7
  rintro e w8 ⟨rfl, h8⟩
  have D8 := Lib.hid h8
  clear h8
  rw [HN.out]
  go_wp2
  all_goals
    exact HQ.out _ _ ⟨fr_intro (by kernel_rfl), l2, fl2, rs2, INV2.out, D8.out.only (fun x hx => by simp only [List.mem_singleton] at hx; subst hx; simp) (fun _ h => by cases h)⟩

theorem sw_case0 {w0 w4 : World} {p q R k bx : Nat} {W E : Int} {kk : PK} {l : List (PK × Int)} {fl : List TFl} {rs : List (Int × Option Int × Int)} {A : Act} (hA : AtSw A p q k bx 0) (hk : k < 100) (hR1 : 1 ≤ R) (hR2 : R ≤ 20) (hiw : KI.ok W) (hkp : KP.ok kk) (inv : Inv15 R k l fl rs)
    (h : Both w0.heap.size w0 w4 p q R l fl rs (rows15 bx 0 W E kk) []) {Q : Exit → Act → World → Prop} (hQ : ∀ A' w', SwPost w0 p q R k bx 0 W E kk A A' w' → Q .normal A' w') : Code.wp Try.prog sw15 Q A w4 := by
  obtain ⟨sz, df, s6, s7, s8, s9, s10, s11, s64⟩ := hA
  have hAB := lit15 sz df
  rw [s6, s7, s8, s9, s10, s11, s64] at hAB
  exact wp_at hAB (sw_case0_in hk hR1 hR2 hiw hkp inv h (fun A' w' h => hQ A' w' (SwPost_from hAB h)))

set_option maxRecDepth 1000000 in
set_option maxHeartbeats 8000000 in
theorem sw_case1_in {w0 w4 : World} {p q R k bx : Nat} {W E : Int} {kk : PK} {l : List (PK × Int)} {fl : List TFl} {rs : List (Int × Option Int × Int)} {u0 u1 u2 u3 u4 u5 u12 u13 u14 u15 u16 u17 u18 u19 u20 u21 u22 u23 u24 u25 u26 u27 u28 u29 u30 u31 u32 u33 u34 u35 u36 u37 u38 u39 u40 u41 u42 u43 u44 u45 u46 u47 u48 u49 u50 u51 u52 u53 u54 u55 u56 u57 u58 u59 u60 u61 u62 u63 u65 u66 u67 u68 u69 u70 u71 u72 u73 u74 u75 u76 u77 u78 u79 u80 u81 u82 u83 u84 u85 u86 u87 u88 u89 u90 u91 u92 u93 u94 u95 u96 u97 u98 u99 u100 u101 u102 u103 u104 u105 u106 u107 u108 u109 u110 u111 u112 u113 u114 u115 u116 u117 u118 u119 u120 u121 u122 u123 u124 u125 u126 u127 u128 u129 u130 u131 u132 u133 u134 u135 u136 u137 u138 u139 u140 u141 u142 u143 u144 u145 u146 u147 u148 u149 u150 u151 u152 u153 u154 u155 u156 u157 u158 u159 u160 u161 u162 u163 u164 u165 u166 u167 u168 u169 u170 u171 u172 u173 u174 u175 u176 u177 u178 u179 u180 u181 u182 u183 u184 u185 u186 u187 u188 u189 u190 u191 u192 u193 u194 u195 u196 u197 u198 u199 u200 u201 u202 u203 u204 u205 u206 u207 u208 u209 u210 u211 u212 u213 u214 u215 u216 u217 u218 u219 u220 u221 u222 u223 u224 u225 u226 u227 u228 u229 u230 u231 u232 u233 u234 : Value} (hk : k < 100) (hR1 : 1 ≤ R) (hR2 : R ≤ 20) (hiw : KI.ok W) (hkp : KP.ok kk) (inv : Inv15 R k l fl rs)
    (h : Both w0.heap.size w0 w4 p q R l fl rs (rows15 bx 1 W E kk) []) {Q : Exit → Act → World → Prop} (hQ : ∀ A' w', SwPost w0 p q R k bx 1 W E kk ⟨#[u0, u1, u2, u3, u4, u5, .pointer (some ⟨p, 0, none⟩), .pointer (some ⟨q, 0, none⟩), .int .i64 k, .pointer (some ⟨bx, 0, none⟩), .pointer (some ⟨bx + 1, 0, none⟩), .pointer (some ⟨bx + 2, 0, none⟩), u12, u13, u14, u15, u16, u17, u18, u19, u20, u21, u22, u23, u24, u25, u26, u27, u28, u29, u30, u31, u32, u33, u34, u35, u36, u37, u38, u39, u40, u41, u42, u43, u44, u45, u46, u47, u48, u49, u50, u51, u52, u53, u54, u55, u56, u57, u58, u59, u60, u61, u62, u63, .int .i64 1, u65, u66, u67, u68, u69, u70, u71, u72, u73, u74, u75, u76, u77, u78, u79, u80, u81, u82, u83, u84, u85, u86, u87, u88, u89, u90, u91, u92, u93, u94, u95, u96, u97, u98, u99, u100, u101, u102, u103, u104, u105, u106, u107, u108, u109, u110, u111, u112, u113, u114, u115, u116, u117, u118, u119, u120, u121, u122, u123, u124, u125, u126, u127, u128, u129, u130, u131, u132, u133, u134, u135, u136, u137, u138, u139, u140, u141, u142, u143, u144, u145, u146, u147, u148, u149, u150, u151, u152, u153, u154, u155, u156, u157, u158, u159, u160, u161, u162, u163, u164, u165, u166, u167, u168, u169, u170, u171, u172, u173, u174, u175, u176, u177, u178, u179, u180, u181, u182, u183, u184, u185, u186, u187, u188, u189, u190, u191, u192, u193, u194, u195, u196, u197, u198, u199, u200, u201, u202, u203, u204, u205, u206, u207, u208, u209, u210, u211, u212, u213, u214, u215, u216, u217, u218, u219, u220, u221, u222, u223, u224, u225, u226, u227, u228, u229, u230, u231, u232, u233, u234], []⟩ A' w' → Q .normal A' w') : Code.wp Try.prog sw15 Q ⟨#[u0, u1, u2, u3, u4, u5, .pointer (some ⟨p, 0, none⟩), .pointer (some ⟨q, 0, none⟩), .int .i64 k, .pointer (some ⟨bx, 0, none⟩), .pointer (some ⟨bx + 1, 0, none⟩), .pointer (some ⟨bx + 2, 0, none⟩), u12, u13, u14, u15, u16, u17, u18, u19, u20, u21, u22, u23, u24, u25, u26, u27, u28, u29, u30, u31, u32, u33, u34, u35, u36, u37, u38, u39, u40, u41, u42, u43, u44, u45, u46, u47, u48, u49, u50, u51, u52, u53, u54, u55, u56, u57, u58, u59, u60, u61, u62, u63, .int .i64 1, u65, u66, u67, u68, u69, u70, u71, u72, u73, u74, u75, u76, u77, u78, u79, u80, u81, u82, u83, u84, u85, u86, u87, u88, u89, u90, u91, u92, u93, u94, u95, u96, u97, u98, u99, u100, u101, u102, u103, u104, u105, u106, u107, u108, u109, u110, u111, u112, u113, u114, u115, u116, u117, u118, u119, u120, u121, u122, u123, u124, u125, u126, u127, u128, u129, u130, u131, u132, u133, u134, u135, u136, u137, u138, u139, u140, u141, u142, u143, u144, u145, u146, u147, u148, u149, u150, u151, u152, u153, u154, u155, u156, u157, u158, u159, u160, u161, u162, u163, u164, u165, u166, u167, u168, u169, u170, u171, u172, u173, u174, u175, u176, u177, u178, u179, u180, u181, u182, u183, u184, u185, u186, u187, u188, u189, u190, u191, u192, u193, u194, u195, u196, u197, u198, u199, u200, u201, u202, u203, u204, u205, u206, u207, u208, u209, u210, u211, u212, u213, u214, u215, u216, u217, u218, u219, u220, u221, u222, u223, u224, u225, u226, u227, u228, u229, u230, u231, u232, u233, u234], []⟩ w4 := by
  have HIW := Lib.hid hiw
  have HKP := Lib.hid hkp
  have INV := Lib.hid inv
  have D := Lib.hid h
  have HQ := Lib.hid hQ
  clear hiw hkp inv h hQ
  conv => arg 2; whnf
  obtain ⟨H, n, oo, l2, fl2, rs2, inv2, hn, qs, qr⟩ := step_begin w0.heap.size w0 p q INV.out (by omega) (by omega) W HIW.out kk HKP.out
  have INV2 := Lib.hid inv2
  have QS := Lib.hid (qs _ _ _ D.out)
  have QR := Lib.hid qr
  have HN := Lib.hid hn
  clear inv2 qs qr hn
  have c1 : w4.cell? ⟨bx, 1, none⟩ = some (.int .i64 W) := D.out.cell (b := bx) (xs := x15 1 W E kk) (by simp) 1 _ rfl
  have k0 : w4.cell? ⟨bx + 1, 0, none⟩ = some (.int .i64 kk.1) := D.out.cell (b := bx + 1) (xs := k15 kk) (by simp) 0 _ rfl
  have k1 : w4.cell? ⟨bx + 1, 1, none⟩ = some (.string kk.2) := D.out.cell (b := bx + 1) (xs := k15 kk) (by simp) 1 _ rfl
  go_wp2_with fail
  refine QS.out.mono ?_
  clear QS c1 k0 k1
  rintro e w5 ⟨v, rfl, h5⟩
  have D5 := Lib.hid h5
  clear h5 D
  go_upto_region 18 with (refine wpList_store_mid (by rfl) 69 (.tmp 12) (.tmp 75) (by rfl) w5.heap.size 0 (za (sv v)) (by rfl) (by rfl) (by exact there21 _ _ rfl) (size69' _) (za_one rfl) ?_)
  generalize hw : (w5.alloc _).setCells _ _ _ = w6
  obtain ⟨hb, hr, hlt⟩ := lay69 w5 _ (by rfl) v w6 hw
  have D6 := Lib.hid (D5.out.add (b := w5.heap.size) (xs := zc (sv v)) hb (Nat.le_refl _) hlt hr)
  clear hw D5 hb hr hlt
  have c1 : w6.cell? ⟨bx, 1, none⟩ = some (.int .i64 W) := D6.out.cell (b := bx) (xs := x15 1 W E kk) (by simp) 1 _ rfl
  have k0 : w6.cell? ⟨bx + 2, 0, none⟩ = some (.int .i64 kk.1) := D6.out.cell (b := bx + 2) (xs := k15 kk) (by simp) 0 _ rfl
  have k1 : w6.cell? ⟨bx + 2, 1, none⟩ = some (.string kk.2) := D6.out.cell (b := bx + 2) (xs := k15 kk) (by simp) 1 _ rfl
  have QR2 := Lib.hid (QR.out _ _ _ D6.out)
  go_wp2_with fail
  refine QR2.out.mono ?_
  clear QR QR2 c1 k0 k1 D6
  rintro e w7 ⟨rfl, h7⟩
  have D7 := Lib.hid h7
  clear h7
  have hzr := D7.out.row (b := w5.heap.size) (xs := zc (sv v)) (by simp)
  have QN := Lib.hid (duo_number D7.out (D7.out.at (v := v) (o := oo) (by simp)))
  have b1 : (H != H) = false := by simp
  have b2 : (n != n) = false := by simp
  go_wp2_with (refine wpList_load_15 (by rfl) 69 (.tmp 12) (by rfl) (w5.heap.size) 0 (by rfl) (zc (sv v)) _ (by exact hzr) Try.underlying69 rfl (size69 _) ?_)
  refine QN.out.mono ?_
  clear QN hzr D7
  rintro e w8 ⟨rfl, h8⟩
  have D8 := Lib.hid h8
  clear h8
  rw [HN.out]
  go_wp2
  all_goals
    exact HQ.out _ _ ⟨fr_intro (by kernel_rfl), l2, fl2, rs2, INV2.out, D8.out.only (fun x hx => by simp only [List.mem_singleton] at hx; subst hx; simp) (fun _ h => by cases h)⟩

theorem sw_case1 {w0 w4 : World} {p q R k bx : Nat} {W E : Int} {kk : PK} {l : List (PK × Int)} {fl : List TFl} {rs : List (Int × Option Int × Int)} {A : Act} (hA : AtSw A p q k bx 1) (hk : k < 100) (hR1 : 1 ≤ R) (hR2 : R ≤ 20) (hiw : KI.ok W) (hkp : KP.ok kk) (inv : Inv15 R k l fl rs)
    (h : Both w0.heap.size w0 w4 p q R l fl rs (rows15 bx 1 W E kk) []) {Q : Exit → Act → World → Prop} (hQ : ∀ A' w', SwPost w0 p q R k bx 1 W E kk A A' w' → Q .normal A' w') : Code.wp Try.prog sw15 Q A w4 := by
  obtain ⟨sz, df, s6, s7, s8, s9, s10, s11, s64⟩ := hA
  have hAB := lit15 sz df
  rw [s6, s7, s8, s9, s10, s11, s64] at hAB
  exact wp_at hAB (sw_case1_in hk hR1 hR2 hiw hkp inv h (fun A' w' h => hQ A' w' (SwPost_from hAB h)))

set_option maxRecDepth 1000000 in
set_option maxHeartbeats 8000000 in
theorem sw_case2_in {w0 w4 : World} {p q R k bx : Nat} {W E : Int} {kk : PK} {l : List (PK × Int)} {fl : List TFl} {rs : List (Int × Option Int × Int)} {u0 u1 u2 u3 u4 u5 u12 u13 u14 u15 u16 u17 u18 u19 u20 u21 u22 u23 u24 u25 u26 u27 u28 u29 u30 u31 u32 u33 u34 u35 u36 u37 u38 u39 u40 u41 u42 u43 u44 u45 u46 u47 u48 u49 u50 u51 u52 u53 u54 u55 u56 u57 u58 u59 u60 u61 u62 u63 u65 u66 u67 u68 u69 u70 u71 u72 u73 u74 u75 u76 u77 u78 u79 u80 u81 u82 u83 u84 u85 u86 u87 u88 u89 u90 u91 u92 u93 u94 u95 u96 u97 u98 u99 u100 u101 u102 u103 u104 u105 u106 u107 u108 u109 u110 u111 u112 u113 u114 u115 u116 u117 u118 u119 u120 u121 u122 u123 u124 u125 u126 u127 u128 u129 u130 u131 u132 u133 u134 u135 u136 u137 u138 u139 u140 u141 u142 u143 u144 u145 u146 u147 u148 u149 u150 u151 u152 u153 u154 u155 u156 u157 u158 u159 u160 u161 u162 u163 u164 u165 u166 u167 u168 u169 u170 u171 u172 u173 u174 u175 u176 u177 u178 u179 u180 u181 u182 u183 u184 u185 u186 u187 u188 u189 u190 u191 u192 u193 u194 u195 u196 u197 u198 u199 u200 u201 u202 u203 u204 u205 u206 u207 u208 u209 u210 u211 u212 u213 u214 u215 u216 u217 u218 u219 u220 u221 u222 u223 u224 u225 u226 u227 u228 u229 u230 u231 u232 u233 u234 : Value} (hk : k < 100) (hR1 : 1 ≤ R) (hR2 : R ≤ 20) (hiw : KI.ok W) (hkp : KP.ok kk) (inv : Inv15 R k l fl rs)
    (h : Both w0.heap.size w0 w4 p q R l fl rs (rows15 bx 2 W E kk) []) {Q : Exit → Act → World → Prop} (hQ : ∀ A' w', SwPost w0 p q R k bx 2 W E kk ⟨#[u0, u1, u2, u3, u4, u5, .pointer (some ⟨p, 0, none⟩), .pointer (some ⟨q, 0, none⟩), .int .i64 k, .pointer (some ⟨bx, 0, none⟩), .pointer (some ⟨bx + 1, 0, none⟩), .pointer (some ⟨bx + 2, 0, none⟩), u12, u13, u14, u15, u16, u17, u18, u19, u20, u21, u22, u23, u24, u25, u26, u27, u28, u29, u30, u31, u32, u33, u34, u35, u36, u37, u38, u39, u40, u41, u42, u43, u44, u45, u46, u47, u48, u49, u50, u51, u52, u53, u54, u55, u56, u57, u58, u59, u60, u61, u62, u63, .int .i64 2, u65, u66, u67, u68, u69, u70, u71, u72, u73, u74, u75, u76, u77, u78, u79, u80, u81, u82, u83, u84, u85, u86, u87, u88, u89, u90, u91, u92, u93, u94, u95, u96, u97, u98, u99, u100, u101, u102, u103, u104, u105, u106, u107, u108, u109, u110, u111, u112, u113, u114, u115, u116, u117, u118, u119, u120, u121, u122, u123, u124, u125, u126, u127, u128, u129, u130, u131, u132, u133, u134, u135, u136, u137, u138, u139, u140, u141, u142, u143, u144, u145, u146, u147, u148, u149, u150, u151, u152, u153, u154, u155, u156, u157, u158, u159, u160, u161, u162, u163, u164, u165, u166, u167, u168, u169, u170, u171, u172, u173, u174, u175, u176, u177, u178, u179, u180, u181, u182, u183, u184, u185, u186, u187, u188, u189, u190, u191, u192, u193, u194, u195, u196, u197, u198, u199, u200, u201, u202, u203, u204, u205, u206, u207, u208, u209, u210, u211, u212, u213, u214, u215, u216, u217, u218, u219, u220, u221, u222, u223, u224, u225, u226, u227, u228, u229, u230, u231, u232, u233, u234], []⟩ A' w' → Q .normal A' w') : Code.wp Try.prog sw15 Q ⟨#[u0, u1, u2, u3, u4, u5, .pointer (some ⟨p, 0, none⟩), .pointer (some ⟨q, 0, none⟩), .int .i64 k, .pointer (some ⟨bx, 0, none⟩), .pointer (some ⟨bx + 1, 0, none⟩), .pointer (some ⟨bx + 2, 0, none⟩), u12, u13, u14, u15, u16, u17, u18, u19, u20, u21, u22, u23, u24, u25, u26, u27, u28, u29, u30, u31, u32, u33, u34, u35, u36, u37, u38, u39, u40, u41, u42, u43, u44, u45, u46, u47, u48, u49, u50, u51, u52, u53, u54, u55, u56, u57, u58, u59, u60, u61, u62, u63, .int .i64 2, u65, u66, u67, u68, u69, u70, u71, u72, u73, u74, u75, u76, u77, u78, u79, u80, u81, u82, u83, u84, u85, u86, u87, u88, u89, u90, u91, u92, u93, u94, u95, u96, u97, u98, u99, u100, u101, u102, u103, u104, u105, u106, u107, u108, u109, u110, u111, u112, u113, u114, u115, u116, u117, u118, u119, u120, u121, u122, u123, u124, u125, u126, u127, u128, u129, u130, u131, u132, u133, u134, u135, u136, u137, u138, u139, u140, u141, u142, u143, u144, u145, u146, u147, u148, u149, u150, u151, u152, u153, u154, u155, u156, u157, u158, u159, u160, u161, u162, u163, u164, u165, u166, u167, u168, u169, u170, u171, u172, u173, u174, u175, u176, u177, u178, u179, u180, u181, u182, u183, u184, u185, u186, u187, u188, u189, u190, u191, u192, u193, u194, u195, u196, u197, u198, u199, u200, u201, u202, u203, u204, u205, u206, u207, u208, u209, u210, u211, u212, u213, u214, u215, u216, u217, u218, u219, u220, u221, u222, u223, u224, u225, u226, u227, u228, u229, u230, u231, u232, u233, u234], []⟩ w4 := by
  have HIW := Lib.hid hiw
  have HKP := Lib.hid hkp
  have INV := Lib.hid inv
  have D := Lib.hid h
  have HQ := Lib.hid hQ
  clear hiw hkp inv h hQ
  conv => arg 2; whnf
  obtain ⟨H, n, oo, l2, fl2, rs2, inv2, hn, qs, qr⟩ := step_begin w0.heap.size w0 p q INV.out (by omega) (by omega) W HIW.out kk HKP.out
  have INV2 := Lib.hid inv2
  have QS := Lib.hid (qs _ _ _ D.out)
  have QR := Lib.hid qr
  have HN := Lib.hid hn
  clear inv2 qs qr hn
  have c1 : w4.cell? ⟨bx, 1, none⟩ = some (.int .i64 W) := D.out.cell (b := bx) (xs := x15 2 W E kk) (by simp) 1 _ rfl
  have k0 : w4.cell? ⟨bx + 1, 0, none⟩ = some (.int .i64 kk.1) := D.out.cell (b := bx + 1) (xs := k15 kk) (by simp) 0 _ rfl
  have k1 : w4.cell? ⟨bx + 1, 1, none⟩ = some (.string kk.2) := D.out.cell (b := bx + 1) (xs := k15 kk) (by simp) 1 _ rfl
  go_wp2_with fail
  refine QS.out.mono ?_
  clear QS c1 k0 k1
  rintro e w5 ⟨v, rfl, h5⟩
  have D5 := Lib.hid h5
  clear h5 D
  go_upto_region 18 with (refine wpList_store_mid (by rfl) 69 (.tmp 12) (.tmp 75) (by rfl) w5.heap.size 0 (za (sv v)) (by rfl) (by rfl) (by exact there21 _ _ rfl) (size69' _) (za_one rfl) ?_)
  generalize hw : (w5.alloc _).setCells _ _ _ = w6
  obtain ⟨hb, hr, hlt⟩ := lay69 w5 _ (by rfl) v w6 hw
  have D6 := Lib.hid (D5.out.add (b := w5.heap.size) (xs := zc (sv v)) hb (Nat.le_refl _) hlt hr)
  clear hw D5 hb hr hlt
  have c1 : w6.cell? ⟨bx, 1, none⟩ = some (.int .i64 W) := D6.out.cell (b := bx) (xs := x15 2 W E kk) (by simp) 1 _ rfl
  have k0 : w6.cell? ⟨bx + 2, 0, none⟩ = some (.int .i64 kk.1) := D6.out.cell (b := bx + 2) (xs := k15 kk) (by simp) 0 _ rfl
  have k1 : w6.cell? ⟨bx + 2, 1, none⟩ = some (.string kk.2) := D6.out.cell (b := bx + 2) (xs := k15 kk) (by simp) 1 _ rfl
  have QR2 := Lib.hid (QR.out _ _ _ D6.out)
  go_wp2_with fail
  refine QR2.out.mono ?_
  clear QR QR2 c1 k0 k1 D6
  rintro e w7 ⟨rfl, h7⟩
  have D7 := Lib.hid h7
  clear h7
  have hzr := D7.out.row (b := w5.heap.size) (xs := zc (sv v)) (by simp)
  have QN := Lib.hid (duo_number D7.out (D7.out.at (v := v) (o := oo) (by simp)))
  have b1 : (H != H) = false := by simp
  have b2 : (n != n) = false := by simp
  go_wp2_with (refine wpList_load_15 (by rfl) 69 (.tmp 12) (by rfl) (w5.heap.size) 0 (by rfl) (zc (sv v)) _ (by exact hzr) Try.underlying69 rfl (size69 _) ?_)
  refine QN.out.mono ?_
  clear QN hzr D7
  rintro e w8 ⟨rfl, h8⟩
  have D8 := Lib.hid h8
  clear h8
  rw [HN.out]
  go_wp2
  all_goals
    exact HQ.out _ _ ⟨fr_intro (by kernel_rfl), l2, fl2, rs2, INV2.out, D8.out.only (fun x hx => by simp only [List.mem_singleton] at hx; subst hx; simp) (fun _ h => by cases h)⟩

theorem sw_case2 {w0 w4 : World} {p q R k bx : Nat} {W E : Int} {kk : PK} {l : List (PK × Int)} {fl : List TFl} {rs : List (Int × Option Int × Int)} {A : Act} (hA : AtSw A p q k bx 2) (hk : k < 100) (hR1 : 1 ≤ R) (hR2 : R ≤ 20) (hiw : KI.ok W) (hkp : KP.ok kk) (inv : Inv15 R k l fl rs)
    (h : Both w0.heap.size w0 w4 p q R l fl rs (rows15 bx 2 W E kk) []) {Q : Exit → Act → World → Prop} (hQ : ∀ A' w', SwPost w0 p q R k bx 2 W E kk A A' w' → Q .normal A' w') : Code.wp Try.prog sw15 Q A w4 := by
  obtain ⟨sz, df, s6, s7, s8, s9, s10, s11, s64⟩ := hA
  have hAB := lit15 sz df
  rw [s6, s7, s8, s9, s10, s11, s64] at hAB
  exact wp_at hAB (sw_case2_in hk hR1 hR2 hiw hkp inv h (fun A' w' h => hQ A' w' (SwPost_from hAB h)))

end Go.Proofs.Ytnnaidladcdbdaa

namespace Go.Proofs.Ytnnaidladcdbdaa
open Go.RowKit Go.ChangeMaps
open KZ (SV sv ZA KK)
set_option linter.unusedVariables false

set_option maxRecDepth 1000000 in
set_option maxHeartbeats 8000000 in
theorem sw_case3_in {w0 w4 : World} {p q R k bx : Nat} {W E : Int} {kk : PK} {l : List (PK × Int)} {fl : List TFl} {rs : List (Int × Option Int × Int)} {u0 u1 u2 u3 u4 u5 u12 u13 u14 u15 u16 u17 u18 u19 u20 u21 u22 u23 u24 u25 u26 u27 u28 u29 u30 u31 u32 u33 u34 u35 u36 u37 u38 u39 u40 u41 u42 u43 u44 u45 u46 u47 u48 u49 u50 u51 u52 u53 u54 u55 u56 u57 u58 u59 u60 u61 u62 u63 u65 u66 u67 u68 u69 u70 u71 u72 u73 u74 u75 u76 u77 u78 u79 u80 u81 u82 u83 u84 u85 u86 u87 u88 u89 u90 u91 u92 u93 u94 u95 u96 u97 u98 u99 u100 u101 u102 u103 u104 u105 u106 u107 u108 u109 u110 u111 u112 u113 u114 u115 u116 u117 u118 u119 u120 u121 u122 u123 u124 u125 u126 u127 u128 u129 u130 u131 u132 u133 u134 u135 u136 u137 u138 u139 u140 u141 u142 u143 u144 u145 u146 u147 u148 u149 u150 u151 u152 u153 u154 u155 u156 u157 u158 u159 u160 u161 u162 u163 u164 u165 u166 u167 u168 u169 u170 u171 u172 u173 u174 u175 u176 u177 u178 u179 u180 u181 u182 u183 u184 u185 u186 u187 u188 u189 u190 u191 u192 u193 u194 u195 u196 u197 u198 u199 u200 u201 u202 u203 u204 u205 u206 u207 u208 u209 u210 u211 u212 u213 u214 u215 u216 u217 u218 u219 u220 u221 u222 u223 u224 u225 u226 u227 u228 u229 u230 u231 u232 u233 u234 : Value} (hk : k < 100) (hR1 : 1 ≤ R) (hR2 : R ≤ 20) (hiw : KI.ok W) (hkp : KP.ok kk) (inv : Inv15 R k l fl rs)
    (h : Both w0.heap.size w0 w4 p q R l fl rs (rows15 bx 3 W E kk) []) {Q : Exit → Act → World → Prop} (hQ : ∀ A' w', SwPost w0 p q R k bx 3 W E kk ⟨#[u0, u1, u2, u3, u4, u5, .pointer (some ⟨p, 0, none⟩), .pointer (some ⟨q, 0, none⟩), .int .i64 k, .pointer (some ⟨bx, 0, none⟩), .pointer (some ⟨bx + 1, 0, none⟩), .pointer (some ⟨bx + 2, 0, none⟩), u12, u13, u14, u15, u16, u17, u18, u19, u20, u21, u22, u23, u24, u25, u26, u27, u28, u29, u30, u31, u32, u33, u34, u35, u36, u37, u38, u39, u40, u41, u42, u43, u44, u45, u46, u47, u48, u49, u50, u51, u52, u53, u54, u55, u56, u57, u58, u59, u60, u61, u62, u63, .int .i64 3, u65, u66, u67, u68, u69, u70, u71, u72, u73, u74, u75, u76, u77, u78, u79, u80, u81, u82, u83, u84, u85, u86, u87, u88, u89, u90, u91, u92, u93, u94, u95, u96, u97, u98, u99, u100, u101, u102, u103, u104, u105, u106, u107, u108, u109, u110, u111, u112, u113, u114, u115, u116, u117, u118, u119, u120, u121, u122, u123, u124, u125, u126, u127, u128, u129, u130, u131, u132, u133, u134, u135, u136, u137, u138, u139, u140, u141, u142, u143, u144, u145, u146, u147, u148, u149, u150, u151, u152, u153, u154, u155, u156, u157, u158, u159, u160, u161, u162, u163, u164, u165, u166, u167, u168, u169, u170, u171, u172, u173, u174, u175, u176, u177, u178, u179, u180, u181, u182, u183, u184, u185, u186, u187, u188, u189, u190, u191, u192, u193, u194, u195, u196, u197, u198, u199, u200, u201, u202, u203, u204, u205, u206, u207, u208, u209, u210, u211, u212, u213, u214, u215, u216, u217, u218, u219, u220, u221, u222, u223, u224, u225, u226, u227, u228, u229, u230, u231, u232, u233, u234], []⟩ A' w' → Q .normal A' w') : Code.wp Try.prog sw15 Q ⟨#[u0, u1, u2, u3, u4, u5, .pointer (some ⟨p, 0, none⟩), .pointer (some ⟨q, 0, none⟩), .int .i64 k, .pointer (some ⟨bx, 0, none⟩), .pointer (some ⟨bx + 1, 0, none⟩), .pointer (some ⟨bx + 2, 0, none⟩), u12, u13, u14, u15, u16, u17, u18, u19, u20, u21, u22, u23, u24, u25, u26, u27, u28, u29, u30, u31, u32, u33, u34, u35, u36, u37, u38, u39, u40, u41, u42, u43, u44, u45, u46, u47, u48, u49, u50, u51, u52, u53, u54, u55, u56, u57, u58, u59, u60, u61, u62, u63, .int .i64 3, u65, u66, u67, u68, u69, u70, u71, u72, u73, u74, u75, u76, u77, u78, u79, u80, u81, u82, u83, u84, u85, u86, u87, u88, u89, u90, u91, u92, u93, u94, u95, u96, u97, u98, u99, u100, u101, u102, u103, u104, u105, u106, u107, u108, u109, u110, u111, u112, u113, u114, u115, u116, u117, u118, u119, u120, u121, u122, u123, u124, u125, u126, u127, u128, u129, u130, u131, u132, u133, u134, u135, u136, u137, u138, u139, u140, u141, u142, u143, u144, u145, u146, u147, u148, u149, u150, u151, u152, u153, u154, u155, u156, u157, u158, u159, u160, u161, u162, u163, u164, u165, u166, u167, u168, u169, u170, u171, u172, u173, u174, u175, u176, u177, u178, u179, u180, u181, u182, u183, u184, u185, u186, u187, u188, u189, u190, u191, u192, u193, u194, u195, u196, u197, u198, u199, u200, u201, u202, u203, u204, u205, u206, u207, u208, u209, u210, u211, u212, u213, u214, u215, u216, u217, u218, u219, u220, u221, u222, u223, u224, u225, u226, u227, u228, u229, u230, u231, u232, u233, u234], []⟩ w4 := by
  have HIW := Lib.hid hiw
  have HKP := Lib.hid hkp
  have INV := Lib.hid inv
  have D := Lib.hid h
  have HQ := Lib.hid hQ
  clear hiw hkp inv h hQ
  conv => arg 2; whnf
  obtain ⟨rr0, l2, fl2, rs2, inv2, qs, qr⟩ := step_end w0.heap.size w0 p q INV.out (by omega) (by omega) hR1 W kk HKP.out ((k : Int) + 1) E
  have INV2 := Lib.hid inv2
  have QS := Lib.hid qs
  have QR := Lib.hid qr
  clear inv2 qs qr
  have q1 : IntKind.i64.wrap ((k : Int) + 1) = (k : Int) + 1 := IntWalk.i64_in _ (by omega)
  go_upto_region 23 with fail
  refine wp_frame ?_
  intro A hA
  have sA : A.tmps.size = 235 := by rw [hA]; rfl
  have e1 : A.eval (.tmp 6) = .pointer (some ⟨p, 0, none⟩) := by rw [hA]; rfl
  have e2 : A.eval (.tmp 9) = .pointer (some ⟨bx, 0, none⟩) := by rw [hA]; rfl
  have e3 : A.eval (.tmp 10) = .pointer (some ⟨bx + 1, 0, none⟩) := by rw [hA]; rfl
  have e4 : A.eval (.tmp 8) = .int .i64 k := by rw [hA]; rfl
  have HA := Lib.hid hA
  clear hA
  have D' := Lib.hid (D.out.later (w' := w4.drew) ((Below.refl _ _).drew))
  have hkey : w4.rangeAt (bx + 1) 0 (k15 kk) ∧ w4.rangeAt bx 0 (x15 3 W E kk) := ⟨D.out.row (b := bx + 1) (xs := k15 kk) (by simp), D.out.row (b := bx) (xs := x15 3 W E kk) (by simp)⟩
  refine wp_region_noPanic ?_
  refine wp_region_held_drew (S := fun w' => w'.rangeAt (bx + 1) 0 (k15 kk) ∧ w'.rangeAt bx 0 (x15 3 W E kk)) (by kernel_rfl) hkey (fun hH => ?_)
  clear hkey D
  refine wpAnyH_take (i := 0) rfl (by kernel_rfl) (by kernel_rfl) (by kernel_rfl) (fun _ _ _ h => h) (y_move (by rfl) (.tmp 6) (by rfl) e1) hH ?_
  refine wpAnyH_take (i := 1) rfl (by kernel_rfl) (by kernel_rfl) (by kernel_rfl) (fun _ _ _ h => h) (y_f1 (b := bx) (by rfl) (by rfl) (x := .tmp 9) (by simp [ev_ne, e2])) hH ?_
  refine wpAnyH_take (i := 2) rfl (by kernel_rfl) (by kernel_rfl) (by kernel_rfl) (fun _ _ _ h => h) (y_load3 (n := W) (by rfl) (by rfl) (ev_eq (by simp [sz_put, sA])) (fun w hS => by have h1 := hS.2 1 _ rfl; simpa using h1)) hH ?_
  refine wpAnyH_take (i := 3) rfl (by kernel_rfl) (by kernel_rfl) (by kernel_rfl) (fun _ _ _ h => h) (yieldsIf_load_mid (by simp [Region.wanted]) 58 (.tmp 10) (by rfl) (bx + 1) 0 (by simp [ev_ne, e3]) (k15 kk) _ (fun w' hS => hS.1) Try.underlying58 rfl KZ.size58) hH ?_
  refine wpAnyH_take (i := 4) rfl (by kernel_rfl) (by kernel_rfl) (by kernel_rfl) (fun _ _ _ h => h) (y_move (v := .int .i64 k) (by rfl) (.tmp 8) (by rfl) (by simp [ev_ne, e4])) hH ?_
  refine wpAnyH_take (i := 5) rfl (by kernel_rfl) (by kernel_rfl) (by kernel_rfl) (fun _ _ _ h => h) (y_add1 (n := (k : Int)) (by rfl) (by rfl) (ev_eq (by simp [sz_put, sA])) q1) hH ?_
  refine wpAnyH_take (i := 7) rfl (by kernel_rfl) (by kernel_rfl) (by kernel_rfl) (fun _ _ _ h => h) (y_f4 (b := bx) (by rfl) (by rfl) (x := .tmp 9) (by simp [ev_ne, e2])) hH ?_
  refine wpAnyH_take (i := 8) rfl (by kernel_rfl) (by kernel_rfl) (by kernel_rfl) (fun _ _ _ h => h) (y_load54 (n := E) (by rfl) (by rfl) (ev_eq (by simp [sz_put, sA])) (fun w hS => by have h1 := hS.2 4 _ rfl; simpa using h1)) hH ?_
  refine wpAnyH_ready (rs := [6]) (by kernel_rfl) (by simp) ?_
  refine AllReadyH.cons rfl (fun K0 hK0 => ?_) AllReadyH.nil
  refine wp_call15 (R := fun x w' => ∃ v', x = ZA v' ∧ Duo w0.heap.size w0 w' p q R (dd l) fl rs l fl (rr rs) [(bx + 2, k15 kk), (bx + 1, k15 kk), (bx, x15 3 W E kk)] ((v', some ((k : Int) + 1)) :: [])) (by rfl) (by rfl) enter43 #[.int .i64 ((k : Int) + 1)] (by simp [ev_ne, ev_eq, sz_put, sA]) ((duo_zone D'.out ((k : Int) + 1)).mono (fun x w' ⟨v, hx, h⟩ => ⟨ZA v, hx, v, rfl, h⟩)) ?_
  rintro u w5 ⟨v, rfl, h5⟩
  have hkey : w5.rangeAt (bx + 1) 0 (k15 kk) ∧ w5.rangeAt bx 0 (x15 3 W E kk) := ⟨h5.row (b := bx + 1) (xs := k15 kk) (by simp), h5.row (b := bx) (xs := x15 3 W E kk) (by simp)⟩
  have D5 := Lib.hid h5
  clear h5 D'
  refine hK0.out _ _ hkey (fun hH => ?_)
  clear hK0 K0 hkey
  refine wpAnyH_ready (rs := [9]) (by kernel_rfl) (by simp) ?_
  refine AllReadyH.cons rfl (fun K0 hK0 => ?_) AllReadyH.nil
  refine wp_call15 (R := fun x w' => x = .int .i64 rr0 ∧ Ahead w0.heap.size w0 w' p q R l2 fl2 rs2 l fl rs [(bx + 2, k15 kk), (bx + 1, k15 kk), (bx, x15 3 W E kk)] ((v, some ((k : Int) + 1)) :: [])) (by rfl) (by rfl) enter42 #[.pointer (some ⟨p, 0, none⟩), .int .i64 W, KK kk, ZA v, .int .i64 E] (by simp [ev_ne, ev_eq, sz_put, sA]) ((QS.out _ _ _ v D5.out (by simp)).mono (fun x w' ⟨hx, h⟩ => ⟨.int .i64 rr0, hx, rfl, h⟩)) ?_
  rintro u w6 ⟨hu, h6⟩
  have hkey : w6.rangeAt (bx + 1) 0 (k15 kk) ∧ w6.rangeAt bx 0 (x15 3 W E kk) := ⟨h6.row (b := bx + 1) (xs := k15 kk) (by simp), h6.row (b := bx) (xs := x15 3 W E kk) (by simp)⟩
  have D6 := Lib.hid h6
  clear h6 QS D5
  refine hK0.out _ _ hkey (fun hH => ?_)
  clear hK0 K0 hkey
  subst hu
  refine wpAnyH_take (i := 10) rfl (by kernel_rfl) (by kernel_rfl) (by kernel_rfl) (fun _ _ _ h => h) (y_assign (by rfl) (.tmp 106) (by rfl) (ev_eq (by simp [sz_put, sA]))) hH ?_
  refine wpAnyH_done (by kernel_rfl) ?_ _
  refine NoPanic.normal ?_
  rw [HA.out]
  have c1 : w6.cell? ⟨bx, 1, none⟩ = some (.int .i64 W) := D6.out.cell (b := bx) (xs := x15 3 W E kk) (by simp) 1 _ rfl
  have c4 : w6.cell? ⟨bx, 4, none⟩ = some (.int .i64 E) := D6.out.cell (b := bx) (xs := x15 3 W E kk) (by simp) 4 _ rfl
  have k0 : w6.cell? ⟨bx + 2, 0, none⟩ = some (.int .i64 kk.1) := D6.out.cell (b := bx + 2) (xs := k15 kk) (by simp) 0 _ rfl
  have k1 : w6.cell? ⟨bx + 2, 1, none⟩ = some (.string kk.2) := D6.out.cell (b := bx + 2) (xs := k15 kk) (by simp) 1 _ rfl
  have QR2 := Lib.hid (QR.out _ _ _ D6.out)
  go_wp2_with fail
  refine QR2.out.mono ?_
  clear QR QR2 c1 c4 k0 k1 D6
  rintro e w7 ⟨rfl, h7⟩
  have D7 := Lib.hid h7
  clear h7
  have b1 : (rr0 != rr0) = false := by simp
  go_wp2
  all_goals
    exact HQ.out _ _ ⟨fr_intro (by kernel_rfl), l2, fl2, rs2, INV2.out, D7.out.only (fun x hx => by simp only [List.mem_singleton] at hx; subst hx; simp) (fun _ h => by cases h)⟩

theorem sw_case3 {w0 w4 : World} {p q R k bx : Nat} {W E : Int} {kk : PK} {l : List (PK × Int)} {fl : List TFl} {rs : List (Int × Option Int × Int)} {A : Act} (hA : AtSw A p q k bx 3) (hk : k < 100) (hR1 : 1 ≤ R) (hR2 : R ≤ 20) (hiw : KI.ok W) (hkp : KP.ok kk) (inv : Inv15 R k l fl rs)
    (h : Both w0.heap.size w0 w4 p q R l fl rs (rows15 bx 3 W E kk) []) {Q : Exit → Act → World → Prop} (hQ : ∀ A' w', SwPost w0 p q R k bx 3 W E kk A A' w' → Q .normal A' w') : Code.wp Try.prog sw15 Q A w4 := by
  obtain ⟨sz, df, s6, s7, s8, s9, s10, s11, s64⟩ := hA
  have hAB := lit15 sz df
  rw [s6, s7, s8, s9, s10, s11, s64] at hAB
  exact wp_at hAB (sw_case3_in hk hR1 hR2 hiw hkp inv h (fun A' w' h => hQ A' w' (SwPost_from hAB h)))

set_option maxRecDepth 1000000 in
set_option maxHeartbeats 8000000 in
theorem sw_case4_in {w0 w4 : World} {p q R k bx : Nat} {W E : Int} {kk : PK} {l : List (PK × Int)} {fl : List TFl} {rs : List (Int × Option Int × Int)} {u0 u1 u2 u3 u4 u5 u12 u13 u14 u15 u16 u17 u18 u19 u20 u21 u22 u23 u24 u25 u26 u27 u28 u29 u30 u31 u32 u33 u34 u35 u36 u37 u38 u39 u40 u41 u42 u43 u44 u45 u46 u47 u48 u49 u50 u51 u52 u53 u54 u55 u56 u57 u58 u59 u60 u61 u62 u63 u65 u66 u67 u68 u69 u70 u71 u72 u73 u74 u75 u76 u77 u78 u79 u80 u81 u82 u83 u84 u85 u86 u87 u88 u89 u90 u91 u92 u93 u94 u95 u96 u97 u98 u99 u100 u101 u102 u103 u104 u105 u106 u107 u108 u109 u110 u111 u112 u113 u114 u115 u116 u117 u118 u119 u120 u121 u122 u123 u124 u125 u126 u127 u128 u129 u130 u131 u132 u133 u134 u135 u136 u137 u138 u139 u140 u141 u142 u143 u144 u145 u146 u147 u148 u149 u150 u151 u152 u153 u154 u155 u156 u157 u158 u159 u160 u161 u162 u163 u164 u165 u166 u167 u168 u169 u170 u171 u172 u173 u174 u175 u176 u177 u178 u179 u180 u181 u182 u183 u184 u185 u186 u187 u188 u189 u190 u191 u192 u193 u194 u195 u196 u197 u198 u199 u200 u201 u202 u203 u204 u205 u206 u207 u208 u209 u210 u211 u212 u213 u214 u215 u216 u217 u218 u219 u220 u221 u222 u223 u224 u225 u226 u227 u228 u229 u230 u231 u232 u233 u234 : Value} (hk : k < 100) (hR1 : 1 ≤ R) (hR2 : R ≤ 20) (hiw : KI.ok W) (hkp : KP.ok kk) (inv : Inv15 R k l fl rs)
    (h : Both w0.heap.size w0 w4 p q R l fl rs (rows15 bx 4 W E kk) []) {Q : Exit → Act → World → Prop} (hQ : ∀ A' w', SwPost w0 p q R k bx 4 W E kk ⟨#[u0, u1, u2, u3, u4, u5, .pointer (some ⟨p, 0, none⟩), .pointer (some ⟨q, 0, none⟩), .int .i64 k, .pointer (some ⟨bx, 0, none⟩), .pointer (some ⟨bx + 1, 0, none⟩), .pointer (some ⟨bx + 2, 0, none⟩), u12, u13, u14, u15, u16, u17, u18, u19, u20, u21, u22, u23, u24, u25, u26, u27, u28, u29, u30, u31, u32, u33, u34, u35, u36, u37, u38, u39, u40, u41, u42, u43, u44, u45, u46, u47, u48, u49, u50, u51, u52, u53, u54, u55, u56, u57, u58, u59, u60, u61, u62, u63, .int .i64 4, u65, u66, u67, u68, u69, u70, u71, u72, u73, u74, u75, u76, u77, u78, u79, u80, u81, u82, u83, u84, u85, u86, u87, u88, u89, u90, u91, u92, u93, u94, u95, u96, u97, u98, u99, u100, u101, u102, u103, u104, u105, u106, u107, u108, u109, u110, u111, u112, u113, u114, u115, u116, u117, u118, u119, u120, u121, u122, u123, u124, u125, u126, u127, u128, u129, u130, u131, u132, u133, u134, u135, u136, u137, u138, u139, u140, u141, u142, u143, u144, u145, u146, u147, u148, u149, u150, u151, u152, u153, u154, u155, u156, u157, u158, u159, u160, u161, u162, u163, u164, u165, u166, u167, u168, u169, u170, u171, u172, u173, u174, u175, u176, u177, u178, u179, u180, u181, u182, u183, u184, u185, u186, u187, u188, u189, u190, u191, u192, u193, u194, u195, u196, u197, u198, u199, u200, u201, u202, u203, u204, u205, u206, u207, u208, u209, u210, u211, u212, u213, u214, u215, u216, u217, u218, u219, u220, u221, u222, u223, u224, u225, u226, u227, u228, u229, u230, u231, u232, u233, u234], []⟩ A' w' → Q .normal A' w') : Code.wp Try.prog sw15 Q ⟨#[u0, u1, u2, u3, u4, u5, .pointer (some ⟨p, 0, none⟩), .pointer (some ⟨q, 0, none⟩), .int .i64 k, .pointer (some ⟨bx, 0, none⟩), .pointer (some ⟨bx + 1, 0, none⟩), .pointer (some ⟨bx + 2, 0, none⟩), u12, u13, u14, u15, u16, u17, u18, u19, u20, u21, u22, u23, u24, u25, u26, u27, u28, u29, u30, u31, u32, u33, u34, u35, u36, u37, u38, u39, u40, u41, u42, u43, u44, u45, u46, u47, u48, u49, u50, u51, u52, u53, u54, u55, u56, u57, u58, u59, u60, u61, u62, u63, .int .i64 4, u65, u66, u67, u68, u69, u70, u71, u72, u73, u74, u75, u76, u77, u78, u79, u80, u81, u82, u83, u84, u85, u86, u87, u88, u89, u90, u91, u92, u93, u94, u95, u96, u97, u98, u99, u100, u101, u102, u103, u104, u105, u106, u107, u108, u109, u110, u111, u112, u113, u114, u115, u116, u117, u118, u119, u120, u121, u122, u123, u124, u125, u126, u127, u128, u129, u130, u131, u132, u133, u134, u135, u136, u137, u138, u139, u140, u141, u142, u143, u144, u145, u146, u147, u148, u149, u150, u151, u152, u153, u154, u155, u156, u157, u158, u159, u160, u161, u162, u163, u164, u165, u166, u167, u168, u169, u170, u171, u172, u173, u174, u175, u176, u177, u178, u179, u180, u181, u182, u183, u184, u185, u186, u187, u188, u189, u190, u191, u192, u193, u194, u195, u196, u197, u198, u199, u200, u201, u202, u203, u204, u205, u206, u207, u208, u209, u210, u211, u212, u213, u214, u215, u216, u217, u218, u219, u220, u221, u222, u223, u224, u225, u226, u227, u228, u229, u230, u231, u232, u233, u234], []⟩ w4 := by
  have HIW := Lib.hid hiw
  have HKP := Lib.hid hkp
  have INV := Lib.hid inv
  have D := Lib.hid h
  have HQ := Lib.hid hQ
  clear hiw hkp inv h hQ
  conv => arg 2; whnf
  obtain ⟨rr0, l2, fl2, rs2, inv2, qs, qr⟩ := step_end w0.heap.size w0 p q INV.out (by omega) (by omega) hR1 W kk HKP.out ((k : Int) + 1) E
  have INV2 := Lib.hid inv2
  have QS := Lib.hid qs
  have QR := Lib.hid qr
  clear inv2 qs qr
  have q1 : IntKind.i64.wrap ((k : Int) + 1) = (k : Int) + 1 := IntWalk.i64_in _ (by omega)
  go_upto_region 23 with fail
  refine wp_frame ?_
  intro A hA
  have sA : A.tmps.size = 235 := by rw [hA]; rfl
  have e1 : A.eval (.tmp 6) = .pointer (some ⟨p, 0, none⟩) := by rw [hA]; rfl
  have e2 : A.eval (.tmp 9) = .pointer (some ⟨bx, 0, none⟩) := by rw [hA]; rfl
  have e3 : A.eval (.tmp 10) = .pointer (some ⟨bx + 1, 0, none⟩) := by rw [hA]; rfl
  have e4 : A.eval (.tmp 8) = .int .i64 k := by rw [hA]; rfl
  have HA := Lib.hid hA
  clear hA
  have D' := Lib.hid (D.out.later (w' := w4.drew) ((Below.refl _ _).drew))
  have hkey : w4.rangeAt (bx + 1) 0 (k15 kk) ∧ w4.rangeAt bx 0 (x15 4 W E kk) := ⟨D.out.row (b := bx + 1) (xs := k15 kk) (by simp), D.out.row (b := bx) (xs := x15 4 W E kk) (by simp)⟩
  refine wp_region_noPanic ?_
  refine wp_region_held_drew (S := fun w' => w'.rangeAt (bx + 1) 0 (k15 kk) ∧ w'.rangeAt bx 0 (x15 4 W E kk)) (by kernel_rfl) hkey (fun hH => ?_)
  clear hkey D
  refine wpAnyH_take (i := 0) rfl (by kernel_rfl) (by kernel_rfl) (by kernel_rfl) (fun _ _ _ h => h) (y_move (by rfl) (.tmp 6) (by rfl) e1) hH ?_
  refine wpAnyH_take (i := 1) rfl (by kernel_rfl) (by kernel_rfl) (by kernel_rfl) (fun _ _ _ h => h) (y_f1 (b := bx) (by rfl) (by rfl) (x := .tmp 9) (by simp [ev_ne, e2])) hH ?_
  refine wpAnyH_take (i := 2) rfl (by kernel_rfl) (by kernel_rfl) (by kernel_rfl) (fun _ _ _ h => h) (y_load3 (n := W) (by rfl) (by rfl) (ev_eq (by simp [sz_put, sA])) (fun w hS => by have h1 := hS.2 1 _ rfl; simpa using h1)) hH ?_
  refine wpAnyH_take (i := 3) rfl (by kernel_rfl) (by kernel_rfl) (by kernel_rfl) (fun _ _ _ h => h) (yieldsIf_load_mid (by simp [Region.wanted]) 58 (.tmp 10) (by rfl) (bx + 1) 0 (by simp [ev_ne, e3]) (k15 kk) _ (fun w' hS => hS.1) Try.underlying58 rfl KZ.size58) hH ?_
  refine wpAnyH_take (i := 4) rfl (by kernel_rfl) (by kernel_rfl) (by kernel_rfl) (fun _ _ _ h => h) (y_move (v := .int .i64 k) (by rfl) (.tmp 8) (by rfl) (by simp [ev_ne, e4])) hH ?_
  refine wpAnyH_take (i := 5) rfl (by kernel_rfl) (by kernel_rfl) (by kernel_rfl) (fun _ _ _ h => h) (y_add1 (n := (k : Int)) (by rfl) (by rfl) (ev_eq (by simp [sz_put, sA])) q1) hH ?_
  refine wpAnyH_take (i := 7) rfl (by kernel_rfl) (by kernel_rfl) (by kernel_rfl) (fun _ _ _ h => h) (y_f4 (b := bx) (by rfl) (by rfl) (x := .tmp 9) (by simp [ev_ne, e2])) hH ?_
  refine wpAnyH_take (i := 8) rfl (by kernel_rfl) (by kernel_rfl) (by kernel_rfl) (fun _ _ _ h => h) (y_load54 (n := E) (by rfl) (by rfl) (ev_eq (by simp [sz_put, sA])) (fun w hS => by have h1 := hS.2 4 _ rfl; simpa using h1)) hH ?_
  refine wpAnyH_ready (rs := [6]) (by kernel_rfl) (by simp) ?_
  refine AllReadyH.cons rfl (fun K0 hK0 => ?_) AllReadyH.nil
  refine wp_call15 (R := fun x w' => ∃ v', x = ZA v' ∧ Duo w0.heap.size w0 w' p q R (dd l) fl rs l fl (rr rs) [(bx + 2, k15 kk), (bx + 1, k15 kk), (bx, x15 4 W E kk)] ((v', some ((k : Int) + 1)) :: [])) (by rfl) (by rfl) enter43 #[.int .i64 ((k : Int) + 1)] (by simp [ev_ne, ev_eq, sz_put, sA]) ((duo_zone D'.out ((k : Int) + 1)).mono (fun x w' ⟨v, hx, h⟩ => ⟨ZA v, hx, v, rfl, h⟩)) ?_
  rintro u w5 ⟨v, rfl, h5⟩
  have hkey : w5.rangeAt (bx + 1) 0 (k15 kk) ∧ w5.rangeAt bx 0 (x15 4 W E kk) := ⟨h5.row (b := bx + 1) (xs := k15 kk) (by simp), h5.row (b := bx) (xs := x15 4 W E kk) (by simp)⟩
  have D5 := Lib.hid h5
  clear h5 D'
  refine hK0.out _ _ hkey (fun hH => ?_)
  clear hK0 K0 hkey
  refine wpAnyH_ready (rs := [9]) (by kernel_rfl) (by simp) ?_
  refine AllReadyH.cons rfl (fun K0 hK0 => ?_) AllReadyH.nil
  refine wp_call15 (R := fun x w' => x = .int .i64 rr0 ∧ Ahead w0.heap.size w0 w' p q R l2 fl2 rs2 l fl rs [(bx + 2, k15 kk), (bx + 1, k15 kk), (bx, x15 4 W E kk)] ((v, some ((k : Int) + 1)) :: [])) (by rfl) (by rfl) enter42 #[.pointer (some ⟨p, 0, none⟩), .int .i64 W, KK kk, ZA v, .int .i64 E] (by simp [ev_ne, ev_eq, sz_put, sA]) ((QS.out _ _ _ v D5.out (by simp)).mono (fun x w' ⟨hx, h⟩ => ⟨.int .i64 rr0, hx, rfl, h⟩)) ?_
  rintro u w6 ⟨hu, h6⟩
  have hkey : w6.rangeAt (bx + 1) 0 (k15 kk) ∧ w6.rangeAt bx 0 (x15 4 W E kk) := ⟨h6.row (b := bx + 1) (xs := k15 kk) (by simp), h6.row (b := bx) (xs := x15 4 W E kk) (by simp)⟩
  have D6 := Lib.hid h6
  clear h6 QS D5
  refine hK0.out _ _ hkey (fun hH => ?_)
  clear hK0 K0 hkey
  subst hu
  refine wpAnyH_take (i := 10) rfl (by kernel_rfl) (by kernel_rfl) (by kernel_rfl) (fun _ _ _ h => h) (y_assign (by rfl) (.tmp 106) (by rfl) (ev_eq (by simp [sz_put, sA]))) hH ?_
  refine wpAnyH_done (by kernel_rfl) ?_ _
  refine NoPanic.normal ?_
  rw [HA.out]
  have c1 : w6.cell? ⟨bx, 1, none⟩ = some (.int .i64 W) := D6.out.cell (b := bx) (xs := x15 4 W E kk) (by simp) 1 _ rfl
  have c4 : w6.cell? ⟨bx, 4, none⟩ = some (.int .i64 E) := D6.out.cell (b := bx) (xs := x15 4 W E kk) (by simp) 4 _ rfl
  have k0 : w6.cell? ⟨bx + 2, 0, none⟩ = some (.int .i64 kk.1) := D6.out.cell (b := bx + 2) (xs := k15 kk) (by simp) 0 _ rfl
  have k1 : w6.cell? ⟨bx + 2, 1, none⟩ = some (.string kk.2) := D6.out.cell (b := bx + 2) (xs := k15 kk) (by simp) 1 _ rfl
  have QR2 := Lib.hid (QR.out _ _ _ D6.out)
  go_wp2_with fail
  refine QR2.out.mono ?_
  clear QR QR2 c1 c4 k0 k1 D6
  rintro e w7 ⟨rfl, h7⟩
  have D7 := Lib.hid h7
  clear h7
  have b1 : (rr0 != rr0) = false := by simp
  go_wp2
  all_goals
    exact HQ.out _ _ ⟨fr_intro (by kernel_rfl), l2, fl2, rs2, INV2.out, D7.out.only (fun x hx => by simp only [List.mem_singleton] at hx; subst hx; simp) (fun _ h => by cases h)⟩

theorem sw_case4 {w0 w4 : World} {p q R k bx : Nat} {W E : Int} {kk : PK} {l : List (PK × Int)} {fl : List TFl} {rs : List (Int × Option Int × Int)} {A : Act} (hA : AtSw A p q k bx 4) (hk : k < 100) (hR1 : 1 ≤ R) (hR2 : R ≤ 20) (hiw : KI.ok W) (hkp : KP.ok kk) (inv : Inv15 R k l fl rs)
    (h : Both w0.heap.size w0 w4 p q R l fl rs (rows15 bx 4 W E kk) []) {Q : Exit → Act → World → Prop} (hQ : ∀ A' w', SwPost w0 p q R k bx 4 W E kk A A' w' → Q .normal A' w') : Code.wp Try.prog sw15 Q A w4 := by
  obtain ⟨sz, df, s6, s7, s8, s9, s10, s11, s64⟩ := hA
  have hAB := lit15 sz df
  rw [s6, s7, s8, s9, s10, s11, s64] at hAB
  exact wp_at hAB (sw_case4_in hk hR1 hR2 hiw hkp inv h (fun A' w' h => hQ A' w' (SwPost_from hAB h)))

end Go.Proofs.Ytnnaidladcdbdaa
