/- ShardTells' switch: Result, Drop, Purge, nothing. -/
import Derived.Test.YtnnaidladcdbdaaWSwA
namespace Go.Proofs.Ytnnaidladcdbdaa
open Go.RowKit Go.ChangeMaps
open KZ (SV sv ZA KK)
set_option linter.unusedVariables false

set_option maxRecDepth 1000000 in
set_option maxHeartbeats 8000000 in
theorem sw_case5_in {w0 w4 : World} {p q R k bx : Nat} {W E : Int} {kk : PK} {l : List (PK × Int)} {fl : List TFl} {rs : List (Int × Option Int × Int)} {u0 u1 u2 u3 u4 u5 u12 u13 u14 u15 u16 u17 u18 u19 u20 u21 u22 u23 u24 u25 u26 u27 u28 u29 u30 u31 u32 u33 u34 u35 u36 u37 u38 u39 u40 u41 u42 u43 u44 u45 u46 u47 u48 u49 u50 u51 u52 u53 u54 u55 u56 u57 u58 u59 u60 u61 u62 u63 u65 u66 u67 u68 u69 u70 u71 u72 u73 u74 u75 u76 u77 u78 u79 u80 u81 u82 u83 u84 u85 u86 u87 u88 u89 u90 u91 u92 u93 u94 u95 u96 u97 u98 u99 u100 u101 u102 u103 u104 u105 u106 u107 u108 u109 u110 u111 u112 u113 u114 u115 u116 u117 u118 u119 u120 u121 u122 u123 u124 u125 u126 u127 u128 u129 u130 u131 u132 u133 u134 u135 u136 u137 u138 u139 u140 u141 u142 u143 u144 u145 u146 u147 u148 u149 u150 u151 u152 u153 u154 u155 u156 u157 u158 u159 u160 u161 u162 u163 u164 u165 u166 u167 u168 u169 u170 u171 u172 u173 u174 u175 u176 u177 u178 u179 u180 u181 u182 u183 u184 u185 u186 u187 u188 u189 u190 u191 u192 u193 u194 u195 u196 u197 u198 u199 u200 u201 u202 u203 u204 u205 u206 u207 u208 u209 u210 u211 u212 u213 u214 u215 u216 u217 u218 u219 u220 u221 u222 u223 u224 u225 u226 u227 u228 u229 u230 u231 u232 u233 u234 : Value} (hk : k < 100) (hR1 : 1 ≤ R) (hR2 : R ≤ 20) (hiw : KI.ok W) (hkp : KP.ok kk) (inv : Inv15 R k l fl rs)
    (h : Both w0.heap.size w0 w4 p q R l fl rs (rows15 bx 5 W E kk) []) {Q : Exit → Act → World → Prop} (hQ : ∀ A' w', SwPost w0 p q R k bx 5 W E kk ⟨#[u0, u1, u2, u3, u4, u5, .pointer (some ⟨p, 0, none⟩), .pointer (some ⟨q, 0, none⟩), .int .i64 k, .pointer (some ⟨bx, 0, none⟩), .pointer (some ⟨bx + 1, 0, none⟩), .pointer (some ⟨bx + 2, 0, none⟩), u12, u13, u14, u15, u16, u17, u18, u19, u20, u21, u22, u23, u24, u25, u26, u27, u28, u29, u30, u31, u32, u33, u34, u35, u36, u37, u38, u39, u40, u41, u42, u43, u44, u45, u46, u47, u48, u49, u50, u51, u52, u53, u54, u55, u56, u57, u58, u59, u60, u61, u62, u63, .int .i64 5, u65, u66, u67, u68, u69, u70, u71, u72, u73, u74, u75, u76, u77, u78, u79, u80, u81, u82, u83, u84, u85, u86, u87, u88, u89, u90, u91, u92, u93, u94, u95, u96, u97, u98, u99, u100, u101, u102, u103, u104, u105, u106, u107, u108, u109, u110, u111, u112, u113, u114, u115, u116, u117, u118, u119, u120, u121, u122, u123, u124, u125, u126, u127, u128, u129, u130, u131, u132, u133, u134, u135, u136, u137, u138, u139, u140, u141, u142, u143, u144, u145, u146, u147, u148, u149, u150, u151, u152, u153, u154, u155, u156, u157, u158, u159, u160, u161, u162, u163, u164, u165, u166, u167, u168, u169, u170, u171, u172, u173, u174, u175, u176, u177, u178, u179, u180, u181, u182, u183, u184, u185, u186, u187, u188, u189, u190, u191, u192, u193, u194, u195, u196, u197, u198, u199, u200, u201, u202, u203, u204, u205, u206, u207, u208, u209, u210, u211, u212, u213, u214, u215, u216, u217, u218, u219, u220, u221, u222, u223, u224, u225, u226, u227, u228, u229, u230, u231, u232, u233, u234], []⟩ A' w' → Q .normal A' w') : Code.wp Try.prog sw15 Q ⟨#[u0, u1, u2, u3, u4, u5, .pointer (some ⟨p, 0, none⟩), .pointer (some ⟨q, 0, none⟩), .int .i64 k, .pointer (some ⟨bx, 0, none⟩), .pointer (some ⟨bx + 1, 0, none⟩), .pointer (some ⟨bx + 2, 0, none⟩), u12, u13, u14, u15, u16, u17, u18, u19, u20, u21, u22, u23, u24, u25, u26, u27, u28, u29, u30, u31, u32, u33, u34, u35, u36, u37, u38, u39, u40, u41, u42, u43, u44, u45, u46, u47, u48, u49, u50, u51, u52, u53, u54, u55, u56, u57, u58, u59, u60, u61, u62, u63, .int .i64 5, u65, u66, u67, u68, u69, u70, u71, u72, u73, u74, u75, u76, u77, u78, u79, u80, u81, u82, u83, u84, u85, u86, u87, u88, u89, u90, u91, u92, u93, u94, u95, u96, u97, u98, u99, u100, u101, u102, u103, u104, u105, u106, u107, u108, u109, u110, u111, u112, u113, u114, u115, u116, u117, u118, u119, u120, u121, u122, u123, u124, u125, u126, u127, u128, u129, u130, u131, u132, u133, u134, u135, u136, u137, u138, u139, u140, u141, u142, u143, u144, u145, u146, u147, u148, u149, u150, u151, u152, u153, u154, u155, u156, u157, u158, u159, u160, u161, u162, u163, u164, u165, u166, u167, u168, u169, u170, u171, u172, u173, u174, u175, u176, u177, u178, u179, u180, u181, u182, u183, u184, u185, u186, u187, u188, u189, u190, u191, u192, u193, u194, u195, u196, u197, u198, u199, u200, u201, u202, u203, u204, u205, u206, u207, u208, u209, u210, u211, u212, u213, u214, u215, u216, u217, u218, u219, u220, u221, u222, u223, u224, u225, u226, u227, u228, u229, u230, u231, u232, u233, u234], []⟩ w4 := by
  have HIW := Lib.hid hiw
  have HKP := Lib.hid hkp
  have INV := Lib.hid inv
  have D := Lib.hid h
  have HQ := Lib.hid hQ
  clear hiw hkp inv h hQ
  conv => arg 2; whnf
  obtain ⟨n, e1, ok, oo, l2, fl2, rs2, inv2, hn, qs, qr⟩ := step_result w0.heap.size w0 p q INV.out (by omega) W HIW.out
  have INV2 := Lib.hid inv2
  have QS := Lib.hid (qs _ _ _ D.out)
  have QR := Lib.hid qr
  have HN := Lib.hid hn
  clear inv2 qs qr hn
  have c1 : w4.cell? ⟨bx, 1, none⟩ = some (.int .i64 W) := D.out.cell (b := bx) (xs := x15 5 W E kk) (by simp) 1 _ rfl
  go_wp2_with fail
  refine QS.out.mono ?_
  clear QS c1
  rintro e w5 ⟨v, rfl, h5⟩
  have D5 := Lib.hid h5
  clear h5 D
  go_upto_region 29 with (refine wpList_store_mid (by rfl) 69 (.tmp 18) (.tmp 126) (by rfl) w5.heap.size 0 (za (sv v)) (by rfl) (by rfl) (by exact there21 _ _ rfl) (size69' _) (za_one rfl) ?_)
  generalize hw : (w5.alloc _).setCells _ _ _ = w6
  obtain ⟨hb, hr, hlt⟩ := lay69 w5 _ (by rfl) v w6 hw
  have D6 := Lib.hid (D5.out.add (b := w5.heap.size) (xs := zc (sv v)) hb (Nat.le_refl _) hlt hr)
  clear hw D5 hb hr hlt
  have c1 : w6.cell? ⟨bx, 1, none⟩ = some (.int .i64 W) := D6.out.cell (b := bx) (xs := x15 5 W E kk) (by simp) 1 _ rfl
  have QR2 := Lib.hid (QR.out _ _ _ D6.out)
  go_wp2_with fail
  refine QR2.out.mono ?_
  clear QR QR2 c1 D6
  rintro e w7 ⟨rfl, h7⟩
  have D7 := Lib.hid h7
  clear h7
  have hzr := D7.out.row (b := w5.heap.size) (xs := zc (sv v)) (by simp)
  have QN := Lib.hid (duo_number D7.out (D7.out.at (v := v) (o := oo) (by simp)))
  have b1 : (e1 != e1) = false := by simp
  have b2 : (n != n) = false := by simp
  have b3 : (ok != ok) = false := by simp
  go_wp2_with (refine wpList_load_15 (by rfl) 69 (.tmp 18) (by rfl) (w5.heap.size) 0 (by rfl) (zc (sv v)) _ (by exact hzr) Try.underlying69 rfl (size69 _) ?_)
  refine QN.out.mono ?_
  clear QN hzr D7
  rintro e w8 ⟨rfl, h8⟩
  have D8 := Lib.hid h8
  clear h8
  rw [HN.out]
  go_wp2
  all_goals
    exact HQ.out _ _ ⟨fr_intro (by kernel_rfl), l2, fl2, rs2, INV2.out, D8.out.only (fun x hx => by simp only [List.mem_singleton] at hx; subst hx; simp) (fun _ h => by cases h)⟩

theorem sw_case5 {w0 w4 : World} {p q R k bx : Nat} {W E : Int} {kk : PK} {l : List (PK × Int)} {fl : List TFl} {rs : List (Int × Option Int × Int)} {A : Act} (hA : AtSw A p q k bx 5) (hk : k < 100) (hR1 : 1 ≤ R) (hR2 : R ≤ 20) (hiw : KI.ok W) (hkp : KP.ok kk) (inv : Inv15 R k l fl rs)
    (h : Both w0.heap.size w0 w4 p q R l fl rs (rows15 bx 5 W E kk) []) {Q : Exit → Act → World → Prop} (hQ : ∀ A' w', SwPost w0 p q R k bx 5 W E kk A A' w' → Q .normal A' w') : Code.wp Try.prog sw15 Q A w4 := by
  obtain ⟨sz, df, s6, s7, s8, s9, s10, s11, s64⟩ := hA
  have hAB := lit15 sz df
  rw [s6, s7, s8, s9, s10, s11, s64] at hAB
  exact wp_at hAB (sw_case5_in hk hR1 hR2 hiw hkp inv h (fun A' w' h => hQ A' w' (SwPost_from hAB h)))

set_option maxRecDepth 1000000 in
set_option maxHeartbeats 8000000 in
theorem sw_case6_in {w0 w4 : World} {p q R k bx : Nat} {W E : Int} {kk : PK} {l : List (PK × Int)} {fl : List TFl} {rs : List (Int × Option Int × Int)} {u0 u1 u2 u3 u4 u5 u12 u13 u14 u15 u16 u17 u18 u19 u20 u21 u22 u23 u24 u25 u26 u27 u28 u29 u30 u31 u32 u33 u34 u35 u36 u37 u38 u39 u40 u41 u42 u43 u44 u45 u46 u47 u48 u49 u50 u51 u52 u53 u54 u55 u56 u57 u58 u59 u60 u61 u62 u63 u65 u66 u67 u68 u69 u70 u71 u72 u73 u74 u75 u76 u77 u78 u79 u80 u81 u82 u83 u84 u85 u86 u87 u88 u89 u90 u91 u92 u93 u94 u95 u96 u97 u98 u99 u100 u101 u102 u103 u104 u105 u106 u107 u108 u109 u110 u111 u112 u113 u114 u115 u116 u117 u118 u119 u120 u121 u122 u123 u124 u125 u126 u127 u128 u129 u130 u131 u132 u133 u134 u135 u136 u137 u138 u139 u140 u141 u142 u143 u144 u145 u146 u147 u148 u149 u150 u151 u152 u153 u154 u155 u156 u157 u158 u159 u160 u161 u162 u163 u164 u165 u166 u167 u168 u169 u170 u171 u172 u173 u174 u175 u176 u177 u178 u179 u180 u181 u182 u183 u184 u185 u186 u187 u188 u189 u190 u191 u192 u193 u194 u195 u196 u197 u198 u199 u200 u201 u202 u203 u204 u205 u206 u207 u208 u209 u210 u211 u212 u213 u214 u215 u216 u217 u218 u219 u220 u221 u222 u223 u224 u225 u226 u227 u228 u229 u230 u231 u232 u233 u234 : Value} (hk : k < 100) (hR1 : 1 ≤ R) (hR2 : R ≤ 20) (hiw : KI.ok W) (hkp : KP.ok kk) (inv : Inv15 R k l fl rs)
    (h : Both w0.heap.size w0 w4 p q R l fl rs (rows15 bx 6 W E kk) []) {Q : Exit → Act → World → Prop} (hQ : ∀ A' w', SwPost w0 p q R k bx 6 W E kk ⟨#[u0, u1, u2, u3, u4, u5, .pointer (some ⟨p, 0, none⟩), .pointer (some ⟨q, 0, none⟩), .int .i64 k, .pointer (some ⟨bx, 0, none⟩), .pointer (some ⟨bx + 1, 0, none⟩), .pointer (some ⟨bx + 2, 0, none⟩), u12, u13, u14, u15, u16, u17, u18, u19, u20, u21, u22, u23, u24, u25, u26, u27, u28, u29, u30, u31, u32, u33, u34, u35, u36, u37, u38, u39, u40, u41, u42, u43, u44, u45, u46, u47, u48, u49, u50, u51, u52, u53, u54, u55, u56, u57, u58, u59, u60, u61, u62, u63, .int .i64 6, u65, u66, u67, u68, u69, u70, u71, u72, u73, u74, u75, u76, u77, u78, u79, u80, u81, u82, u83, u84, u85, u86, u87, u88, u89, u90, u91, u92, u93, u94, u95, u96, u97, u98, u99, u100, u101, u102, u103, u104, u105, u106, u107, u108, u109, u110, u111, u112, u113, u114, u115, u116, u117, u118, u119, u120, u121, u122, u123, u124, u125, u126, u127, u128, u129, u130, u131, u132, u133, u134, u135, u136, u137, u138, u139, u140, u141, u142, u143, u144, u145, u146, u147, u148, u149, u150, u151, u152, u153, u154, u155, u156, u157, u158, u159, u160, u161, u162, u163, u164, u165, u166, u167, u168, u169, u170, u171, u172, u173, u174, u175, u176, u177, u178, u179, u180, u181, u182, u183, u184, u185, u186, u187, u188, u189, u190, u191, u192, u193, u194, u195, u196, u197, u198, u199, u200, u201, u202, u203, u204, u205, u206, u207, u208, u209, u210, u211, u212, u213, u214, u215, u216, u217, u218, u219, u220, u221, u222, u223, u224, u225, u226, u227, u228, u229, u230, u231, u232, u233, u234], []⟩ A' w' → Q .normal A' w') : Code.wp Try.prog sw15 Q ⟨#[u0, u1, u2, u3, u4, u5, .pointer (some ⟨p, 0, none⟩), .pointer (some ⟨q, 0, none⟩), .int .i64 k, .pointer (some ⟨bx, 0, none⟩), .pointer (some ⟨bx + 1, 0, none⟩), .pointer (some ⟨bx + 2, 0, none⟩), u12, u13, u14, u15, u16, u17, u18, u19, u20, u21, u22, u23, u24, u25, u26, u27, u28, u29, u30, u31, u32, u33, u34, u35, u36, u37, u38, u39, u40, u41, u42, u43, u44, u45, u46, u47, u48, u49, u50, u51, u52, u53, u54, u55, u56, u57, u58, u59, u60, u61, u62, u63, .int .i64 6, u65, u66, u67, u68, u69, u70, u71, u72, u73, u74, u75, u76, u77, u78, u79, u80, u81, u82, u83, u84, u85, u86, u87, u88, u89, u90, u91, u92, u93, u94, u95, u96, u97, u98, u99, u100, u101, u102, u103, u104, u105, u106, u107, u108, u109, u110, u111, u112, u113, u114, u115, u116, u117, u118, u119, u120, u121, u122, u123, u124, u125, u126, u127, u128, u129, u130, u131, u132, u133, u134, u135, u136, u137, u138, u139, u140, u141, u142, u143, u144, u145, u146, u147, u148, u149, u150, u151, u152, u153, u154, u155, u156, u157, u158, u159, u160, u161, u162, u163, u164, u165, u166, u167, u168, u169, u170, u171, u172, u173, u174, u175, u176, u177, u178, u179, u180, u181, u182, u183, u184, u185, u186, u187, u188, u189, u190, u191, u192, u193, u194, u195, u196, u197, u198, u199, u200, u201, u202, u203, u204, u205, u206, u207, u208, u209, u210, u211, u212, u213, u214, u215, u216, u217, u218, u219, u220, u221, u222, u223, u224, u225, u226, u227, u228, u229, u230, u231, u232, u233, u234], []⟩ w4 := by
  have HIW := Lib.hid hiw
  have HKP := Lib.hid hkp
  have INV := Lib.hid inv
  have D := Lib.hid h
  have HQ := Lib.hid hQ
  clear hiw hkp inv h hQ
  conv => arg 2; whnf
  obtain ⟨y, l2, fl2, rs2, inv2, qs, qr⟩ := step_drop w0.heap.size w0 p q INV.out (by omega) kk HKP.out
  have INV2 := Lib.hid inv2
  have QS := Lib.hid (qs _ _ _ D.out)
  have QR := Lib.hid qr
  clear inv2 qs qr
  have k0 : w4.cell? ⟨bx + 1, 0, none⟩ = some (.int .i64 kk.1) := D.out.cell (b := bx + 1) (xs := k15 kk) (by simp) 0 _ rfl
  have k1 : w4.cell? ⟨bx + 1, 1, none⟩ = some (.string kk.2) := D.out.cell (b := bx + 1) (xs := k15 kk) (by simp) 1 _ rfl
  go_wp2_with fail
  refine QS.out.mono ?_
  clear QS k0 k1
  rintro e w5 ⟨rfl, h5⟩
  have D5 := Lib.hid h5
  clear h5 D
  have k0 : w5.cell? ⟨bx + 2, 0, none⟩ = some (.int .i64 kk.1) := D5.out.cell (b := bx + 2) (xs := k15 kk) (by simp) 0 _ rfl
  have k1 : w5.cell? ⟨bx + 2, 1, none⟩ = some (.string kk.2) := D5.out.cell (b := bx + 2) (xs := k15 kk) (by simp) 1 _ rfl
  have QR2 := Lib.hid (QR.out _ _ _ D5.out)
  go_wp2_with fail
  refine QR2.out.mono ?_
  clear QR QR2 k0 k1 D5
  rintro e w7 ⟨rfl, h7⟩
  have D7 := Lib.hid h7
  clear h7
  have b1 : (y != y) = false := by simp
  go_wp2
  all_goals
    exact HQ.out _ _ ⟨fr_intro (by kernel_rfl), l2, fl2, rs2, INV2.out, D7.out.only (fun x hx => by simp only [List.mem_singleton] at hx; subst hx; simp) (fun _ h => by cases h)⟩

theorem sw_case6 {w0 w4 : World} {p q R k bx : Nat} {W E : Int} {kk : PK} {l : List (PK × Int)} {fl : List TFl} {rs : List (Int × Option Int × Int)} {A : Act} (hA : AtSw A p q k bx 6) (hk : k < 100) (hR1 : 1 ≤ R) (hR2 : R ≤ 20) (hiw : KI.ok W) (hkp : KP.ok kk) (inv : Inv15 R k l fl rs)
    (h : Both w0.heap.size w0 w4 p q R l fl rs (rows15 bx 6 W E kk) []) {Q : Exit → Act → World → Prop} (hQ : ∀ A' w', SwPost w0 p q R k bx 6 W E kk A A' w' → Q .normal A' w') : Code.wp Try.prog sw15 Q A w4 := by
  obtain ⟨sz, df, s6, s7, s8, s9, s10, s11, s64⟩ := hA
  have hAB := lit15 sz df
  rw [s6, s7, s8, s9, s10, s11, s64] at hAB
  exact wp_at hAB (sw_case6_in hk hR1 hR2 hiw hkp inv h (fun A' w' h => hQ A' w' (SwPost_from hAB h)))

set_option maxRecDepth 1000000 in
set_option maxHeartbeats 8000000 in
theorem sw_case7_in {w0 w4 : World} {p q R k bx : Nat} {W E : Int} {kk : PK} {l : List (PK × Int)} {fl : List TFl} {rs : List (Int × Option Int × Int)} {u0 u1 u2 u3 u4 u5 u12 u13 u14 u15 u16 u17 u18 u19 u20 u21 u22 u23 u24 u25 u26 u27 u28 u29 u30 u31 u32 u33 u34 u35 u36 u37 u38 u39 u40 u41 u42 u43 u44 u45 u46 u47 u48 u49 u50 u51 u52 u53 u54 u55 u56 u57 u58 u59 u60 u61 u62 u63 u65 u66 u67 u68 u69 u70 u71 u72 u73 u74 u75 u76 u77 u78 u79 u80 u81 u82 u83 u84 u85 u86 u87 u88 u89 u90 u91 u92 u93 u94 u95 u96 u97 u98 u99 u100 u101 u102 u103 u104 u105 u106 u107 u108 u109 u110 u111 u112 u113 u114 u115 u116 u117 u118 u119 u120 u121 u122 u123 u124 u125 u126 u127 u128 u129 u130 u131 u132 u133 u134 u135 u136 u137 u138 u139 u140 u141 u142 u143 u144 u145 u146 u147 u148 u149 u150 u151 u152 u153 u154 u155 u156 u157 u158 u159 u160 u161 u162 u163 u164 u165 u166 u167 u168 u169 u170 u171 u172 u173 u174 u175 u176 u177 u178 u179 u180 u181 u182 u183 u184 u185 u186 u187 u188 u189 u190 u191 u192 u193 u194 u195 u196 u197 u198 u199 u200 u201 u202 u203 u204 u205 u206 u207 u208 u209 u210 u211 u212 u213 u214 u215 u216 u217 u218 u219 u220 u221 u222 u223 u224 u225 u226 u227 u228 u229 u230 u231 u232 u233 u234 : Value} (hk : k < 100) (hR1 : 1 ≤ R) (hR2 : R ≤ 20) (hiw : KI.ok W) (hkp : KP.ok kk) (inv : Inv15 R k l fl rs)
    (h : Both w0.heap.size w0 w4 p q R l fl rs (rows15 bx 7 W E kk) []) {Q : Exit → Act → World → Prop} (hQ : ∀ A' w', SwPost w0 p q R k bx 7 W E kk ⟨#[u0, u1, u2, u3, u4, u5, .pointer (some ⟨p, 0, none⟩), .pointer (some ⟨q, 0, none⟩), .int .i64 k, .pointer (some ⟨bx, 0, none⟩), .pointer (some ⟨bx + 1, 0, none⟩), .pointer (some ⟨bx + 2, 0, none⟩), u12, u13, u14, u15, u16, u17, u18, u19, u20, u21, u22, u23, u24, u25, u26, u27, u28, u29, u30, u31, u32, u33, u34, u35, u36, u37, u38, u39, u40, u41, u42, u43, u44, u45, u46, u47, u48, u49, u50, u51, u52, u53, u54, u55, u56, u57, u58, u59, u60, u61, u62, u63, .int .i64 7, u65, u66, u67, u68, u69, u70, u71, u72, u73, u74, u75, u76, u77, u78, u79, u80, u81, u82, u83, u84, u85, u86, u87, u88, u89, u90, u91, u92, u93, u94, u95, u96, u97, u98, u99, u100, u101, u102, u103, u104, u105, u106, u107, u108, u109, u110, u111, u112, u113, u114, u115, u116, u117, u118, u119, u120, u121, u122, u123, u124, u125, u126, u127, u128, u129, u130, u131, u132, u133, u134, u135, u136, u137, u138, u139, u140, u141, u142, u143, u144, u145, u146, u147, u148, u149, u150, u151, u152, u153, u154, u155, u156, u157, u158, u159, u160, u161, u162, u163, u164, u165, u166, u167, u168, u169, u170, u171, u172, u173, u174, u175, u176, u177, u178, u179, u180, u181, u182, u183, u184, u185, u186, u187, u188, u189, u190, u191, u192, u193, u194, u195, u196, u197, u198, u199, u200, u201, u202, u203, u204, u205, u206, u207, u208, u209, u210, u211, u212, u213, u214, u215, u216, u217, u218, u219, u220, u221, u222, u223, u224, u225, u226, u227, u228, u229, u230, u231, u232, u233, u234], []⟩ A' w' → Q .normal A' w') : Code.wp Try.prog sw15 Q ⟨#[u0, u1, u2, u3, u4, u5, .pointer (some ⟨p, 0, none⟩), .pointer (some ⟨q, 0, none⟩), .int .i64 k, .pointer (some ⟨bx, 0, none⟩), .pointer (some ⟨bx + 1, 0, none⟩), .pointer (some ⟨bx + 2, 0, none⟩), u12, u13, u14, u15, u16, u17, u18, u19, u20, u21, u22, u23, u24, u25, u26, u27, u28, u29, u30, u31, u32, u33, u34, u35, u36, u37, u38, u39, u40, u41, u42, u43, u44, u45, u46, u47, u48, u49, u50, u51, u52, u53, u54, u55, u56, u57, u58, u59, u60, u61, u62, u63, .int .i64 7, u65, u66, u67, u68, u69, u70, u71, u72, u73, u74, u75, u76, u77, u78, u79, u80, u81, u82, u83, u84, u85, u86, u87, u88, u89, u90, u91, u92, u93, u94, u95, u96, u97, u98, u99, u100, u101, u102, u103, u104, u105, u106, u107, u108, u109, u110, u111, u112, u113, u114, u115, u116, u117, u118, u119, u120, u121, u122, u123, u124, u125, u126, u127, u128, u129, u130, u131, u132, u133, u134, u135, u136, u137, u138, u139, u140, u141, u142, u143, u144, u145, u146, u147, u148, u149, u150, u151, u152, u153, u154, u155, u156, u157, u158, u159, u160, u161, u162, u163, u164, u165, u166, u167, u168, u169, u170, u171, u172, u173, u174, u175, u176, u177, u178, u179, u180, u181, u182, u183, u184, u185, u186, u187, u188, u189, u190, u191, u192, u193, u194, u195, u196, u197, u198, u199, u200, u201, u202, u203, u204, u205, u206, u207, u208, u209, u210, u211, u212, u213, u214, u215, u216, u217, u218, u219, u220, u221, u222, u223, u224, u225, u226, u227, u228, u229, u230, u231, u232, u233, u234], []⟩ w4 := by
  have HIW := Lib.hid hiw
  have HKP := Lib.hid hkp
  have INV := Lib.hid inv
  have D := Lib.hid h
  have HQ := Lib.hid hQ
  clear hiw hkp inv h hQ
  conv => arg 2; whnf
  obtain ⟨y, l2, fl2, rs2, inv2, qs, qr⟩ := step_purge w0.heap.size w0 p q INV.out (by omega) kk.1
  have INV2 := Lib.hid inv2
  have QS := Lib.hid (qs _ _ _ D.out)
  have QR := Lib.hid qr
  clear inv2 qs qr
  have c2 : w4.cell? ⟨bx, 2, none⟩ = some (.int .i64 kk.1) := D.out.cell (b := bx) (xs := x15 7 W E kk) (by simp) 2 _ rfl
  go_wp2_with fail
  refine QS.out.mono ?_
  clear QS c2
  rintro e w5 ⟨rfl, h5⟩
  have D5 := Lib.hid h5
  clear h5 D
  have c2 : w5.cell? ⟨bx, 2, none⟩ = some (.int .i64 kk.1) := D5.out.cell (b := bx) (xs := x15 7 W E kk) (by simp) 2 _ rfl
  have QR2 := Lib.hid (QR.out _ _ _ D5.out)
  go_wp2_with fail
  refine QR2.out.mono ?_
  clear QR QR2 c2 D5
  rintro e w7 ⟨rfl, h7⟩
  have D7 := Lib.hid h7
  clear h7
  have b1 : ((y : Int) != (y : Int)) = false := by simp
  go_wp2
  all_goals
    exact HQ.out _ _ ⟨fr_intro (by kernel_rfl), l2, fl2, rs2, INV2.out, D7.out.only (fun x hx => by simp only [List.mem_singleton] at hx; subst hx; simp) (fun _ h => by cases h)⟩

theorem sw_case7 {w0 w4 : World} {p q R k bx : Nat} {W E : Int} {kk : PK} {l : List (PK × Int)} {fl : List TFl} {rs : List (Int × Option Int × Int)} {A : Act} (hA : AtSw A p q k bx 7) (hk : k < 100) (hR1 : 1 ≤ R) (hR2 : R ≤ 20) (hiw : KI.ok W) (hkp : KP.ok kk) (inv : Inv15 R k l fl rs)
    (h : Both w0.heap.size w0 w4 p q R l fl rs (rows15 bx 7 W E kk) []) {Q : Exit → Act → World → Prop} (hQ : ∀ A' w', SwPost w0 p q R k bx 7 W E kk A A' w' → Q .normal A' w') : Code.wp Try.prog sw15 Q A w4 := by
  obtain ⟨sz, df, s6, s7, s8, s9, s10, s11, s64⟩ := hA
  have hAB := lit15 sz df
  rw [s6, s7, s8, s9, s10, s11, s64] at hAB
  exact wp_at hAB (sw_case7_in hk hR1 hR2 hiw hkp inv h (fun A' w' h => hQ A' w' (SwPost_from hAB h)))

set_option maxRecDepth 1000000 in
set_option maxHeartbeats 8000000 in
theorem sw_none_in {w0 w4 : World} {p q R k bx : Nat} {K W E : Int} {kk : PK} {l : List (PK × Int)} {fl : List TFl} {rs : List (Int × Option Int × Int)} {u0 u1 u2 u3 u4 u5 u12 u13 u14 u15 u16 u17 u18 u19 u20 u21 u22 u23 u24 u25 u26 u27 u28 u29 u30 u31 u32 u33 u34 u35 u36 u37 u38 u39 u40 u41 u42 u43 u44 u45 u46 u47 u48 u49 u50 u51 u52 u53 u54 u55 u56 u57 u58 u59 u60 u61 u62 u63 u65 u66 u67 u68 u69 u70 u71 u72 u73 u74 u75 u76 u77 u78 u79 u80 u81 u82 u83 u84 u85 u86 u87 u88 u89 u90 u91 u92 u93 u94 u95 u96 u97 u98 u99 u100 u101 u102 u103 u104 u105 u106 u107 u108 u109 u110 u111 u112 u113 u114 u115 u116 u117 u118 u119 u120 u121 u122 u123 u124 u125 u126 u127 u128 u129 u130 u131 u132 u133 u134 u135 u136 u137 u138 u139 u140 u141 u142 u143 u144 u145 u146 u147 u148 u149 u150 u151 u152 u153 u154 u155 u156 u157 u158 u159 u160 u161 u162 u163 u164 u165 u166 u167 u168 u169 u170 u171 u172 u173 u174 u175 u176 u177 u178 u179 u180 u181 u182 u183 u184 u185 u186 u187 u188 u189 u190 u191 u192 u193 u194 u195 u196 u197 u198 u199 u200 u201 u202 u203 u204 u205 u206 u207 u208 u209 u210 u211 u212 u213 u214 u215 u216 u217 u218 u219 u220 u221 u222 u223 u224 u225 u226 u227 u228 u229 u230 u231 u232 u233 u234 : Value} (hk : k < 100) (hR1 : 1 ≤ R) (hR2 : R ≤ 20) (hiw : KI.ok W) (hkp : KP.ok kk) (inv : Inv15 R k l fl rs)
    (h : Both w0.heap.size w0 w4 p q R l fl rs (rows15 bx K W E kk) []) (n0 : K ≠ 0) (n1 : K ≠ 1) (n2 : K ≠ 2) (n3 : K ≠ 3) (n4 : K ≠ 4) (n5 : K ≠ 5) (n6 : K ≠ 6) (n7 : K ≠ 7) {Q : Exit → Act → World → Prop} (hQ : ∀ A' w', SwPost w0 p q R k bx K W E kk ⟨#[u0, u1, u2, u3, u4, u5, .pointer (some ⟨p, 0, none⟩), .pointer (some ⟨q, 0, none⟩), .int .i64 k, .pointer (some ⟨bx, 0, none⟩), .pointer (some ⟨bx + 1, 0, none⟩), .pointer (some ⟨bx + 2, 0, none⟩), u12, u13, u14, u15, u16, u17, u18, u19, u20, u21, u22, u23, u24, u25, u26, u27, u28, u29, u30, u31, u32, u33, u34, u35, u36, u37, u38, u39, u40, u41, u42, u43, u44, u45, u46, u47, u48, u49, u50, u51, u52, u53, u54, u55, u56, u57, u58, u59, u60, u61, u62, u63, .int .i64 K, u65, u66, u67, u68, u69, u70, u71, u72, u73, u74, u75, u76, u77, u78, u79, u80, u81, u82, u83, u84, u85, u86, u87, u88, u89, u90, u91, u92, u93, u94, u95, u96, u97, u98, u99, u100, u101, u102, u103, u104, u105, u106, u107, u108, u109, u110, u111, u112, u113, u114, u115, u116, u117, u118, u119, u120, u121, u122, u123, u124, u125, u126, u127, u128, u129, u130, u131, u132, u133, u134, u135, u136, u137, u138, u139, u140, u141, u142, u143, u144, u145, u146, u147, u148, u149, u150, u151, u152, u153, u154, u155, u156, u157, u158, u159, u160, u161, u162, u163, u164, u165, u166, u167, u168, u169, u170, u171, u172, u173, u174, u175, u176, u177, u178, u179, u180, u181, u182, u183, u184, u185, u186, u187, u188, u189, u190, u191, u192, u193, u194, u195, u196, u197, u198, u199, u200, u201, u202, u203, u204, u205, u206, u207, u208, u209, u210, u211, u212, u213, u214, u215, u216, u217, u218, u219, u220, u221, u222, u223, u224, u225, u226, u227, u228, u229, u230, u231, u232, u233, u234], []⟩ A' w' → Q .normal A' w') : Code.wp Try.prog sw15 Q ⟨#[u0, u1, u2, u3, u4, u5, .pointer (some ⟨p, 0, none⟩), .pointer (some ⟨q, 0, none⟩), .int .i64 k, .pointer (some ⟨bx, 0, none⟩), .pointer (some ⟨bx + 1, 0, none⟩), .pointer (some ⟨bx + 2, 0, none⟩), u12, u13, u14, u15, u16, u17, u18, u19, u20, u21, u22, u23, u24, u25, u26, u27, u28, u29, u30, u31, u32, u33, u34, u35, u36, u37, u38, u39, u40, u41, u42, u43, u44, u45, u46, u47, u48, u49, u50, u51, u52, u53, u54, u55, u56, u57, u58, u59, u60, u61, u62, u63, .int .i64 K, u65, u66, u67, u68, u69, u70, u71, u72, u73, u74, u75, u76, u77, u78, u79, u80, u81, u82, u83, u84, u85, u86, u87, u88, u89, u90, u91, u92, u93, u94, u95, u96, u97, u98, u99, u100, u101, u102, u103, u104, u105, u106, u107, u108, u109, u110, u111, u112, u113, u114, u115, u116, u117, u118, u119, u120, u121, u122, u123, u124, u125, u126, u127, u128, u129, u130, u131, u132, u133, u134, u135, u136, u137, u138, u139, u140, u141, u142, u143, u144, u145, u146, u147, u148, u149, u150, u151, u152, u153, u154, u155, u156, u157, u158, u159, u160, u161, u162, u163, u164, u165, u166, u167, u168, u169, u170, u171, u172, u173, u174, u175, u176, u177, u178, u179, u180, u181, u182, u183, u184, u185, u186, u187, u188, u189, u190, u191, u192, u193, u194, u195, u196, u197, u198, u199, u200, u201, u202, u203, u204, u205, u206, u207, u208, u209, u210, u211, u212, u213, u214, u215, u216, u217, u218, u219, u220, u221, u222, u223, u224, u225, u226, u227, u228, u229, u230, u231, u232, u233, u234], []⟩ w4 := by
  have HIW := Lib.hid hiw
  have HKP := Lib.hid hkp
  have INV := Lib.hid inv
  have D := Lib.hid h
  have HQ := Lib.hid hQ
  clear hiw hkp inv h hQ
  conv => arg 2; whnf
  have b0 : (K == 0) = false := beq_eq_false_iff_ne.2 n0
  have b1 : (K == 1) = false := beq_eq_false_iff_ne.2 n1
  have b2 : (K == 2) = false := beq_eq_false_iff_ne.2 n2
  have b3 : (K == 3) = false := beq_eq_false_iff_ne.2 n3
  have b4 : (K == 4) = false := beq_eq_false_iff_ne.2 n4
  have b5 : (K == 5) = false := beq_eq_false_iff_ne.2 n5
  have b6 : (K == 6) = false := beq_eq_false_iff_ne.2 n6
  have b7 : (K == 7) = false := beq_eq_false_iff_ne.2 n7
  go_wp2
  all_goals
    exact HQ.out _ _ ⟨fr_intro (by kernel_rfl), l, fl, rs, step_none INV.out, D.out.only (fun x hx => by simp only [List.mem_singleton] at hx; subst hx; simp) (fun _ h => by cases h)⟩

theorem sw_none {w0 w4 : World} {p q R k bx : Nat} {K W E : Int} {kk : PK} {l : List (PK × Int)} {fl : List TFl} {rs : List (Int × Option Int × Int)} {A : Act} (hA : AtSw A p q k bx K) (hk : k < 100) (hR1 : 1 ≤ R) (hR2 : R ≤ 20) (hiw : KI.ok W) (hkp : KP.ok kk) (inv : Inv15 R k l fl rs)
    (h : Both w0.heap.size w0 w4 p q R l fl rs (rows15 bx K W E kk) []) (n0 : K ≠ 0) (n1 : K ≠ 1) (n2 : K ≠ 2) (n3 : K ≠ 3) (n4 : K ≠ 4) (n5 : K ≠ 5) (n6 : K ≠ 6) (n7 : K ≠ 7) {Q : Exit → Act → World → Prop} (hQ : ∀ A' w', SwPost w0 p q R k bx K W E kk A A' w' → Q .normal A' w') : Code.wp Try.prog sw15 Q A w4 := by
  obtain ⟨sz, df, s6, s7, s8, s9, s10, s11, s64⟩ := hA
  have hAB := lit15 sz df
  rw [s6, s7, s8, s9, s10, s11, s64] at hAB
  exact wp_at hAB (sw_none_in hk hR1 hR2 hiw hkp inv h n0 n1 n2 n3 n4 n5 n6 n7 (fun A' w' h => hQ A' w' (SwPost_from hAB h)))

theorem sw_case {w0 w4 : World} {A : Act} {p q R k bx : Nat} {K W E : Int} {kk : PK} {l : List (PK × Int)} {fl : List TFl} {rs : List (Int × Option Int × Int)} (hA : AtSw A p q k bx K) (hk : k < 100) (hR1 : 1 ≤ R) (hR2 : R ≤ 20) (hiw : KI.ok W) (hkp : KP.ok kk) (inv : Inv15 R k l fl rs)
    (h : Both w0.heap.size w0 w4 p q R l fl rs (rows15 bx K W E kk) []) {Q : Exit → Act → World → Prop} (hQ : ∀ A' w', SwPost w0 p q R k bx K W E kk A A' w' → Q .normal A' w') : Code.wp Try.prog sw15 Q A w4 := by
  rcases (by omega : K = 0 ∨ K = 1 ∨ K = 2 ∨ K = 3 ∨ K = 4 ∨ K = 5 ∨ K = 6 ∨ K = 7 ∨ (K ≠ 0 ∧ K ≠ 1 ∧ K ≠ 2 ∧ K ≠ 3 ∧ K ≠ 4 ∧ K ≠ 5 ∧ K ≠ 6 ∧ K ≠ 7)) with h0 | h0 | h0 | h0 | h0 | h0 | h0 | h0 | ⟨n0, n1, n2, n3, n4, n5, n6, n7⟩
  · subst h0; exact sw_case0 hA hk hR1 hR2 hiw hkp inv h hQ
  · subst h0; exact sw_case1 hA hk hR1 hR2 hiw hkp inv h hQ
  · subst h0; exact sw_case2 hA hk hR1 hR2 hiw hkp inv h hQ
  · subst h0; exact sw_case3 hA hk hR1 hR2 hiw hkp inv h hQ
  · subst h0; exact sw_case4 hA hk hR1 hR2 hiw hkp inv h hQ
  · subst h0; exact sw_case5 hA hk hR1 hR2 hiw hkp inv h hQ
  · subst h0; exact sw_case6 hA hk hR1 hR2 hiw hkp inv h hQ
  · subst h0; exact sw_case7 hA hk hR1 hR2 hiw hkp inv h hQ
  · exact sw_none hA hk hR1 hR2 hiw hkp inv h n0 n1 n2 n3 n4 n5 n6 n7 hQ

end Go.Proofs.Ytnnaidladcdbdaa
