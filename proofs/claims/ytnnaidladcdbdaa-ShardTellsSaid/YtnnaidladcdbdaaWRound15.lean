/- ShardTells: a round of its loop, the loop, and the walk: the call answers true. -/
import Derived.Test.YtnnaidladcdbdaaWSwC
import Derived.Test.YtnnaidladcdbdaaWRest15
import Derived.Test.YtnnaidladcdbdaaShown35
namespace Go.Proofs.Ytnnaidladcdbdaa
open Go.RowKit Go.ChangeMaps
open KZ (SV sv ZA KK)
set_option linter.unusedVariables false

def regAt (n : Nat) : Code → Option Code
  | .region m o d => if m = n then some (.region m o d) else none
  | .seq a b => match regAt n a with
    | some c => some c
    | none => regAt n b
  | .block _ c => regAt n c
  | .loop c => regAt n c
  | .scope c => regAt n c
  | .cond _ a b => match regAt n a with
    | some c => some c
    | none => regAt n b
  | _ => none
def loopOf : Code → Option Code
  | .loop c => some c
  | .seq a b => match loopOf a with
    | some c => some c
    | none => loopOf b
  | .block _ c => loopOf c
  | .scope c => loopOf c
  | .cond _ a b => match loopOf a with
    | some c => some c
    | none => loopOf b
  | _ => none
noncomputable def next15 : Code := ((Try.f14.body.bind (regAt 9)).getD .skip)
noncomputable def body15 : Code := ((Try.f14.body.bind loopOf).getD .skip)
noncomputable def blk15 : Code := ((Try.f14.body.bind (blockOf 0)).getD .skip)

set_option maxRecDepth 1000000 in
def frNext (C U : Nat → Value) : Act := ⟨#[C 0, C 1, C 2, C 3, C 4, C 5, C 6, C 7, U 8, C 9, C 10, C 11, C 12, C 13, C 14, C 15, C 16, C 17, C 18, C 19, C 20, C 21, C 22, C 23, C 24, C 25, C 26, C 27, C 28, C 29, C 30, C 31, C 32, C 33, C 34, C 35, C 36, C 37, C 38, C 39, C 40, C 41, C 42, C 43, C 44, C 45, C 46, U 47, U 48, C 49, C 50, C 51, C 52, C 53, C 54, C 55, C 56, C 57, C 58, C 59, C 60, C 61, C 62, C 63, C 64, C 65, C 66, C 67, C 68, C 69, C 70, C 71, C 72, C 73, C 74, C 75, C 76, C 77, C 78, C 79, C 80, C 81, C 82, C 83, C 84, C 85, C 86, C 87, C 88, C 89, C 90, C 91, C 92, C 93, C 94, C 95, C 96, C 97, C 98, C 99, C 100, C 101, C 102, C 103, C 104, C 105, C 106, C 107, C 108, C 109, C 110, C 111, C 112, C 113, C 114, C 115, C 116, C 117, C 118, C 119, C 120, C 121, C 122, C 123, C 124, C 125, C 126, C 127, C 128, C 129, C 130, C 131, C 132, C 133, C 134, C 135, C 136, C 137, C 138, C 139, C 140, C 141, C 142, C 143, C 144, C 145, C 146, C 147, C 148, C 149, C 150, C 151, C 152, C 153, C 154, C 155, C 156, C 157, C 158, C 159, C 160, C 161, C 162, C 163, C 164, C 165, C 166, C 167, C 168, C 169, C 170, C 171, C 172, C 173, C 174, C 175, C 176, C 177, C 178, C 179, C 180, C 181, C 182, C 183, C 184, C 185, C 186, C 187, C 188, C 189, C 190, C 191, C 192, C 193, C 194, C 195, C 196, C 197, C 198, C 199, C 200, C 201, C 202, C 203, C 204, C 205, C 206, C 207, C 208, C 209, C 210, C 211, C 212, C 213, C 214, C 215, C 216, C 217, C 218, C 219, C 220, C 221, C 222, C 223, C 224, C 225, C 226, C 227, C 228, C 229, C 230, C 231, C 232, C 233, C 234], []⟩

set_option maxRecDepth 1000000 in
set_option maxHeartbeats 4000000 in
theorem next_in {k : Nat} {w : World} {u0 u1 u2 u3 u4 u5 u6 u7 u9 u10 u11 u12 u13 u14 u15 u16 u17 u18 u19 u20 u21 u22 u23 u24 u25 u26 u27 u28 u29 u30 u31 u32 u33 u34 u35 u36 u37 u38 u39 u40 u41 u42 u43 u44 u45 u46 u47 u48 u49 u50 u51 u52 u53 u54 u55 u56 u57 u58 u59 u60 u61 u62 u63 u64 u65 u66 u67 u68 u69 u70 u71 u72 u73 u74 u75 u76 u77 u78 u79 u80 u81 u82 u83 u84 u85 u86 u87 u88 u89 u90 u91 u92 u93 u94 u95 u96 u97 u98 u99 u100 u101 u102 u103 u104 u105 u106 u107 u108 u109 u110 u111 u112 u113 u114 u115 u116 u117 u118 u119 u120 u121 u122 u123 u124 u125 u126 u127 u128 u129 u130 u131 u132 u133 u134 u135 u136 u137 u138 u139 u140 u141 u142 u143 u144 u145 u146 u147 u148 u149 u150 u151 u152 u153 u154 u155 u156 u157 u158 u159 u160 u161 u162 u163 u164 u165 u166 u167 u168 u169 u170 u171 u172 u173 u174 u175 u176 u177 u178 u179 u180 u181 u182 u183 u184 u185 u186 u187 u188 u189 u190 u191 u192 u193 u194 u195 u196 u197 u198 u199 u200 u201 u202 u203 u204 u205 u206 u207 u208 u209 u210 u211 u212 u213 u214 u215 u216 u217 u218 u219 u220 u221 u222 u223 u224 u225 u226 u227 u228 u229 u230 u231 u232 u233 u234 : Value} (hk : k < 100) {Q : Exit → Act → World → Prop} (hQ : ∀ A', (∃ U, A' = frNext (C15 ⟨#[u0, u1, u2, u3, u4, u5, u6, u7, .int .i64 k, u9, u10, u11, u12, u13, u14, u15, u16, u17, u18, u19, u20, u21, u22, u23, u24, u25, u26, u27, u28, u29, u30, u31, u32, u33, u34, u35, u36, u37, u38, u39, u40, u41, u42, u43, u44, u45, u46, u47, u48, u49, u50, u51, u52, u53, u54, u55, u56, u57, u58, u59, u60, u61, u62, u63, u64, u65, u66, u67, u68, u69, u70, u71, u72, u73, u74, u75, u76, u77, u78, u79, u80, u81, u82, u83, u84, u85, u86, u87, u88, u89, u90, u91, u92, u93, u94, u95, u96, u97, u98, u99, u100, u101, u102, u103, u104, u105, u106, u107, u108, u109, u110, u111, u112, u113, u114, u115, u116, u117, u118, u119, u120, u121, u122, u123, u124, u125, u126, u127, u128, u129, u130, u131, u132, u133, u134, u135, u136, u137, u138, u139, u140, u141, u142, u143, u144, u145, u146, u147, u148, u149, u150, u151, u152, u153, u154, u155, u156, u157, u158, u159, u160, u161, u162, u163, u164, u165, u166, u167, u168, u169, u170, u171, u172, u173, u174, u175, u176, u177, u178, u179, u180, u181, u182, u183, u184, u185, u186, u187, u188, u189, u190, u191, u192, u193, u194, u195, u196, u197, u198, u199, u200, u201, u202, u203, u204, u205, u206, u207, u208, u209, u210, u211, u212, u213, u214, u215, u216, u217, u218, u219, u220, u221, u222, u223, u224, u225, u226, u227, u228, u229, u230, u231, u232, u233, u234], []⟩) U) ∧ C15 A' 8 = .int .i64 ((k + 1 : Nat) : Int) → Q .normal A' w) : Code.wp Try.prog next15 Q ⟨#[u0, u1, u2, u3, u4, u5, u6, u7, .int .i64 k, u9, u10, u11, u12, u13, u14, u15, u16, u17, u18, u19, u20, u21, u22, u23, u24, u25, u26, u27, u28, u29, u30, u31, u32, u33, u34, u35, u36, u37, u38, u39, u40, u41, u42, u43, u44, u45, u46, u47, u48, u49, u50, u51, u52, u53, u54, u55, u56, u57, u58, u59, u60, u61, u62, u63, u64, u65, u66, u67, u68, u69, u70, u71, u72, u73, u74, u75, u76, u77, u78, u79, u80, u81, u82, u83, u84, u85, u86, u87, u88, u89, u90, u91, u92, u93, u94, u95, u96, u97, u98, u99, u100, u101, u102, u103, u104, u105, u106, u107, u108, u109, u110, u111, u112, u113, u114, u115, u116, u117, u118, u119, u120, u121, u122, u123, u124, u125, u126, u127, u128, u129, u130, u131, u132, u133, u134, u135, u136, u137, u138, u139, u140, u141, u142, u143, u144, u145, u146, u147, u148, u149, u150, u151, u152, u153, u154, u155, u156, u157, u158, u159, u160, u161, u162, u163, u164, u165, u166, u167, u168, u169, u170, u171, u172, u173, u174, u175, u176, u177, u178, u179, u180, u181, u182, u183, u184, u185, u186, u187, u188, u189, u190, u191, u192, u193, u194, u195, u196, u197, u198, u199, u200, u201, u202, u203, u204, u205, u206, u207, u208, u209, u210, u211, u212, u213, u214, u215, u216, u217, u218, u219, u220, u221, u222, u223, u224, u225, u226, u227, u228, u229, u230, u231, u232, u233, u234], []⟩ w := by
  have HQ := Lib.hid hQ
  clear hQ
  conv => arg 2; whnf
  go_wp2
  exact HQ.out _ ⟨fr_intro (by kernel_rfl), by show Value.int .i64 _ = _; go_num⟩

theorem next_wp {k : Nat} {w : World} {A : Act} (sz : A.tmps.size = 235) (df : A.defers = []) (s8 : C15 A 8 = .int .i64 k) (hk : k < 100) {Q : Exit → Act → World → Prop} (hQ : ∀ A', (∃ U, A' = frNext (C15 A) U) ∧ C15 A' 8 = .int .i64 ((k + 1 : Nat) : Int) → Q .normal A' w) : Code.wp Try.prog next15 Q A w := by
  have hAB := lit15 sz df
  rw [s8] at hAB
  exact wp_at hAB (next_in hk (fun A' h => hQ A' ⟨fr_from hAB h.1, h.2⟩))

/-- What a round leaves. -/
def RoundPost (w0 : World) (p q R k : Nat) (A A' : Act) (w' : World) : Prop :=
  (∃ U, A' = frLoop (C15 A) U) ∧ C15 A' 8 = .int .i64 ((k + 1 : Nat) : Int) ∧ ∃ l fl rs, Inv15 R (k + 1) l fl rs ∧ Both w0.heap.size w0 w' p q R l fl rs [] []

set_option maxRecDepth 1000000 in
set_option maxHeartbeats 16000000 in
theorem round_in {w0 wr : World} {p q R k len1 cap1 b off : Nat} {K W E : Int} {kk : PK} {l : List (PK × Int)} {fl : List TFl} {rs : List (Int × Option Int × Int)} {u0 u2 u3 u4 u5 u9 u10 u11 u12 u13 u14 u15 u16 u17 u18 u19 u20 u21 u22 u23 u24 u25 u26 u27 u28 u29 u30 u31 u32 u33 u34 u35 u36 u37 u38 u39 u40 u41 u42 u43 u44 u45 u46 u47 u48 u49 u50 u51 u52 u53 u54 u55 u56 u57 u58 u59 u60 u61 u62 u63 u64 u65 u66 u67 u68 u69 u70 u71 u72 u73 u74 u75 u76 u77 u78 u79 u80 u81 u82 u83 u84 u85 u86 u87 u88 u89 u90 u91 u92 u93 u94 u95 u96 u97 u98 u99 u100 u101 u102 u103 u104 u105 u106 u107 u108 u109 u110 u111 u112 u113 u114 u115 u116 u117 u118 u119 u120 u121 u122 u123 u124 u125 u126 u127 u128 u129 u130 u131 u132 u133 u134 u135 u136 u137 u138 u139 u140 u141 u142 u143 u144 u145 u146 u147 u148 u149 u150 u151 u152 u153 u154 u155 u156 u157 u158 u159 u160 u161 u162 u163 u164 u165 u166 u167 u168 u169 u170 u171 u172 u173 u174 u175 u176 u177 u178 u179 u180 u181 u182 u183 u184 u185 u186 u187 u188 u189 u190 u191 u192 u193 u194 u195 u196 u197 u198 u199 u200 u201 u202 u203 u204 u205 u206 u207 u208 u209 u210 u211 u212 u213 u214 u215 u216 u217 u218 u219 u220 u221 u222 u223 u224 u225 u226 u227 u228 u229 u230 u231 u232 u233 u234 : Value} (hlt1 : k < len1) (hlt2 : k < 100) (hR1 : 1 ≤ R) (hR2 : R ≤ 20) (hiw : KI.ok W) (hkp : KP.ok kk)
    (H0 : wr.cell? ⟨b, off + k * 5, none⟩ = some (.int .i64 K)) (H1 : wr.cell? ⟨b, off + k * 5 + 1, none⟩ = some (.int .i64 W)) (H2 : wr.cell? ⟨b, off + k * 5 + 2, none⟩ = some (.int .i64 kk.1)) (H3 : wr.cell? ⟨b, off + k * 5 + 3, none⟩ = some (.string kk.2)) (H4 : wr.cell? ⟨b, off + k * 5 + 4, none⟩ = some (.int .i64 E))
    (inv : Inv15 R k l fl rs) (h4 : Both w0.heap.size w0 wr p q R l fl rs [] []) {Q : Exit → Act → World → Prop} (hQ : ∀ A' w', RoundPost w0 p q R k ⟨#[u0, .slice (some ⟨b, off, none⟩) len1 cap1, u2, u3, u4, u5, .pointer (some ⟨p, 0, none⟩), .pointer (some ⟨q, 0, none⟩), .int .i64 k, u9, u10, u11, u12, u13, u14, u15, u16, u17, u18, u19, u20, u21, u22, u23, u24, u25, u26, u27, u28, u29, u30, u31, u32, u33, u34, u35, u36, u37, u38, u39, u40, u41, u42, u43, u44, u45, u46, u47, u48, u49, u50, u51, u52, u53, u54, u55, u56, u57, u58, u59, u60, u61, u62, u63, u64, u65, u66, u67, u68, u69, u70, u71, u72, u73, u74, u75, u76, u77, u78, u79, u80, u81, u82, u83, u84, u85, u86, u87, u88, u89, u90, u91, u92, u93, u94, u95, u96, u97, u98, u99, u100, u101, u102, u103, u104, u105, u106, u107, u108, u109, u110, u111, u112, u113, u114, u115, u116, u117, u118, u119, u120, u121, u122, u123, u124, u125, u126, u127, u128, u129, u130, u131, u132, u133, u134, u135, u136, u137, u138, u139, u140, u141, u142, u143, u144, u145, u146, u147, u148, u149, u150, u151, u152, u153, u154, u155, u156, u157, u158, u159, u160, u161, u162, u163, u164, u165, u166, u167, u168, u169, u170, u171, u172, u173, u174, u175, u176, u177, u178, u179, u180, u181, u182, u183, u184, u185, u186, u187, u188, u189, u190, u191, u192, u193, u194, u195, u196, u197, u198, u199, u200, u201, u202, u203, u204, u205, u206, u207, u208, u209, u210, u211, u212, u213, u214, u215, u216, u217, u218, u219, u220, u221, u222, u223, u224, u225, u226, u227, u228, u229, u230, u231, u232, u233, u234], []⟩ A' w' → Q .normal A' w') : Code.wp Try.prog body15 Q ⟨#[u0, .slice (some ⟨b, off, none⟩) len1 cap1, u2, u3, u4, u5, .pointer (some ⟨p, 0, none⟩), .pointer (some ⟨q, 0, none⟩), .int .i64 k, u9, u10, u11, u12, u13, u14, u15, u16, u17, u18, u19, u20, u21, u22, u23, u24, u25, u26, u27, u28, u29, u30, u31, u32, u33, u34, u35, u36, u37, u38, u39, u40, u41, u42, u43, u44, u45, u46, u47, u48, u49, u50, u51, u52, u53, u54, u55, u56, u57, u58, u59, u60, u61, u62, u63, u64, u65, u66, u67, u68, u69, u70, u71, u72, u73, u74, u75, u76, u77, u78, u79, u80, u81, u82, u83, u84, u85, u86, u87, u88, u89, u90, u91, u92, u93, u94, u95, u96, u97, u98, u99, u100, u101, u102, u103, u104, u105, u106, u107, u108, u109, u110, u111, u112, u113, u114, u115, u116, u117, u118, u119, u120, u121, u122, u123, u124, u125, u126, u127, u128, u129, u130, u131, u132, u133, u134, u135, u136, u137, u138, u139, u140, u141, u142, u143, u144, u145, u146, u147, u148, u149, u150, u151, u152, u153, u154, u155, u156, u157, u158, u159, u160, u161, u162, u163, u164, u165, u166, u167, u168, u169, u170, u171, u172, u173, u174, u175, u176, u177, u178, u179, u180, u181, u182, u183, u184, u185, u186, u187, u188, u189, u190, u191, u192, u193, u194, u195, u196, u197, u198, u199, u200, u201, u202, u203, u204, u205, u206, u207, u208, u209, u210, u211, u212, u213, u214, u215, u216, u217, u218, u219, u220, u221, u222, u223, u224, u225, u226, u227, u228, u229, u230, u231, u232, u233, u234], []⟩ wr := by
  have HIW := Lib.hid hiw
  have HKP := Lib.hid hkp
  have INV := Lib.hid inv
  have D0 := Lib.hid h4
  have HQ := Lib.hid hQ
  have i1 : (k : Int) < (len1 : Int) := by omega
  clear hiw hkp inv h4 hQ
  conv => arg 2; whnf
  go_upto_region 13 with fail
  have hs1 : (wr.alloc (.cells #[.int .i64 K, .int .i64 W, .int .i64 kk.1, .string kk.2, .int .i64 E] 88)).heap.size = wr.heap.size + 1 := by simp
  have D1 := D0.out.add (w' := wr.alloc (.cells #[.int .i64 K, .int .i64 W, .int .i64 kk.1, .string kk.2, .int .i64 E] 88)) (b := wr.heap.size) (xs := x15 K W E kk) ((Below.refl _ _).alloc (Nat.le_refl _) _) (Nat.le_refl _) (by simp) (range_alloc _ _ _)
  clear D0 H0 H1 H2 H3 H4
  revert hs1 D1
  generalize wr.alloc (.cells #[.int .i64 K, .int .i64 W, .int .i64 kk.1, .string kk.2, .int .i64 E] 88) = wa
  intro hs1 D1
  have hs2 : (wa.alloc (.cells #[.int .i64 kk.1, .string kk.2] 58)).heap.size = wr.heap.size + 2 := by rw [World.size_alloc, hs1]
  have D2 := D1.add (w' := wa.alloc (.cells #[.int .i64 kk.1, .string kk.2] 58)) (b := wr.heap.size + 1) (xs := k15 kk) ((Below.refl _ _).alloc (Nat.le_refl _) _) (by omega) (by rw [hs2]; omega) (by have := range_alloc wa #[.int .i64 kk.1, .string kk.2] 58; rw [hs1] at this; exact this)
  clear hs1 D1
  revert hs2 D2
  generalize wa.alloc (.cells #[.int .i64 kk.1, .string kk.2] 58) = wb
  intro hs2 D2
  have D3 := D2.add (w' := wb.alloc (.cells #[.int .i64 kk.1, .string kk.2] 89)) (b := wr.heap.size + 2) (xs := k15 kk) ((Below.refl _ _).alloc (Nat.le_refl _) _) (by omega) (by rw [World.size_alloc, hs2]; omega) (by have := range_alloc wb #[.int .i64 kk.1, .string kk.2] 89; rw [hs2] at this; exact this)
  clear hs2 D2
  revert D3
  generalize wb.alloc (.cells #[.int .i64 kk.1, .string kk.2] 89) = w4
  intro D3
  have D := Lib.hid D3
  clear D3
  revert D
  generalize wr.heap.size = bx
  intro D
  have cx : w4.cell? ⟨bx, 0, none⟩ = some (.int .i64 K) := D.out.cell (b := bx) (xs := x15 K W E kk) (by simp) 0 _ rfl
  go_upto_block 2 with fail
  rename_i K1 hK1 K0 hK0
  have HK0 := Lib.hid hK0
  have HK1 := Lib.hid hK1
  clear hK0 hK1 cx
  refine wp_frame ?_
  intro F hF
  have hSw : AtSw F p q k bx K := by subst hF; exact ⟨rfl, rfl, rfl, rfl, rfl, rfl, rfl, rfl, rfl⟩
  change Code.wp Try.prog sw15 _ _ _
  refine sw_case hSw hlt2 hR1 hR2 HIW.out HKP.out INV.out D.out (fun F2 w5 hp => ?_)
  obtain ⟨⟨U2, hF2⟩, l2, fl2, rs2, inv2, h5⟩ := hp
  refine HK0.out _ _ ?_
  change Code.wp Try.prog rest15 _ _ _
  have hR : AtRest F2 p q bx := by subst hF2; exact ⟨rfl, rfl, hSw.s6, hSw.s7, hSw.s9⟩
  refine rest_wp hR (m := k + 1) (by omega) hR2 HIW.out inv2 h5 (fun F3 w6 hp => ?_)
  obtain ⟨⟨U3, hF3⟩, h6⟩ := hp
  have s8 : C15 F3 8 = .int .i64 k := by subst hF3; subst hF2; exact hSw.s8
  have sz3 : F3.tmps.size = 235 := by subst hF3; rfl
  have df3 : F3.defers = [] := by subst hF3; rfl
  have H6 := Lib.hid h6
  have INV2 := Lib.hid inv2
  clear h6 inv2 h5 hR D HK0
  refine HK1.out _ _ ?_
  change Code.wp Try.prog next15 _ _ _
  refine next_wp sz3 df3 s8 hlt2 (fun F4 hp => ?_)
  obtain ⟨⟨U4, hF4⟩, e8⟩ := hp
  refine HQ.out _ _ ⟨?_, e8, l2, fl2, rs2, INV2.out, H6.out⟩
  subst hF4
  subst hF3
  subst hF2
  subst hF
  exact fr_intro (by kernel_rfl)

set_option maxRecDepth 1000000 in
set_option maxHeartbeats 4000000 in
theorem stop_in {w : World} {k len1 cap1 : Nat} {a1 : Option Addr} {u0 u2 u3 u4 u5 u6 u7 u9 u10 u11 u12 u13 u14 u15 u16 u17 u18 u19 u20 u21 u22 u23 u24 u25 u26 u27 u28 u29 u30 u31 u32 u33 u34 u35 u36 u37 u38 u39 u40 u41 u42 u43 u44 u45 u46 u47 u48 u49 u50 u51 u52 u53 u54 u55 u56 u57 u58 u59 u60 u61 u62 u63 u64 u65 u66 u67 u68 u69 u70 u71 u72 u73 u74 u75 u76 u77 u78 u79 u80 u81 u82 u83 u84 u85 u86 u87 u88 u89 u90 u91 u92 u93 u94 u95 u96 u97 u98 u99 u100 u101 u102 u103 u104 u105 u106 u107 u108 u109 u110 u111 u112 u113 u114 u115 u116 u117 u118 u119 u120 u121 u122 u123 u124 u125 u126 u127 u128 u129 u130 u131 u132 u133 u134 u135 u136 u137 u138 u139 u140 u141 u142 u143 u144 u145 u146 u147 u148 u149 u150 u151 u152 u153 u154 u155 u156 u157 u158 u159 u160 u161 u162 u163 u164 u165 u166 u167 u168 u169 u170 u171 u172 u173 u174 u175 u176 u177 u178 u179 u180 u181 u182 u183 u184 u185 u186 u187 u188 u189 u190 u191 u192 u193 u194 u195 u196 u197 u198 u199 u200 u201 u202 u203 u204 u205 u206 u207 u208 u209 u210 u211 u212 u213 u214 u215 u216 u217 u218 u219 u220 u221 u222 u223 u224 u225 u226 u227 u228 u229 u230 u231 u232 u233 u234 : Value} (hk : k ≤ len1) (hk2 : k ≤ 100) (h : ¬ (k < len1 ∧ k < 100)) {Q : Exit → Act → World → Prop} (hQ : ∀ A', (∃ U, A' = frLoop (C15 ⟨#[u0, .slice a1 len1 cap1, u2, u3, u4, u5, u6, u7, .int .i64 k, u9, u10, u11, u12, u13, u14, u15, u16, u17, u18, u19, u20, u21, u22, u23, u24, u25, u26, u27, u28, u29, u30, u31, u32, u33, u34, u35, u36, u37, u38, u39, u40, u41, u42, u43, u44, u45, u46, u47, u48, u49, u50, u51, u52, u53, u54, u55, u56, u57, u58, u59, u60, u61, u62, u63, u64, u65, u66, u67, u68, u69, u70, u71, u72, u73, u74, u75, u76, u77, u78, u79, u80, u81, u82, u83, u84, u85, u86, u87, u88, u89, u90, u91, u92, u93, u94, u95, u96, u97, u98, u99, u100, u101, u102, u103, u104, u105, u106, u107, u108, u109, u110, u111, u112, u113, u114, u115, u116, u117, u118, u119, u120, u121, u122, u123, u124, u125, u126, u127, u128, u129, u130, u131, u132, u133, u134, u135, u136, u137, u138, u139, u140, u141, u142, u143, u144, u145, u146, u147, u148, u149, u150, u151, u152, u153, u154, u155, u156, u157, u158, u159, u160, u161, u162, u163, u164, u165, u166, u167, u168, u169, u170, u171, u172, u173, u174, u175, u176, u177, u178, u179, u180, u181, u182, u183, u184, u185, u186, u187, u188, u189, u190, u191, u192, u193, u194, u195, u196, u197, u198, u199, u200, u201, u202, u203, u204, u205, u206, u207, u208, u209, u210, u211, u212, u213, u214, u215, u216, u217, u218, u219, u220, u221, u222, u223, u224, u225, u226, u227, u228, u229, u230, u231, u232, u233, u234], []⟩) U) → Q (.exit 0) A' w) : Code.wp Try.prog body15 Q ⟨#[u0, .slice a1 len1 cap1, u2, u3, u4, u5, u6, u7, .int .i64 k, u9, u10, u11, u12, u13, u14, u15, u16, u17, u18, u19, u20, u21, u22, u23, u24, u25, u26, u27, u28, u29, u30, u31, u32, u33, u34, u35, u36, u37, u38, u39, u40, u41, u42, u43, u44, u45, u46, u47, u48, u49, u50, u51, u52, u53, u54, u55, u56, u57, u58, u59, u60, u61, u62, u63, u64, u65, u66, u67, u68, u69, u70, u71, u72, u73, u74, u75, u76, u77, u78, u79, u80, u81, u82, u83, u84, u85, u86, u87, u88, u89, u90, u91, u92, u93, u94, u95, u96, u97, u98, u99, u100, u101, u102, u103, u104, u105, u106, u107, u108, u109, u110, u111, u112, u113, u114, u115, u116, u117, u118, u119, u120, u121, u122, u123, u124, u125, u126, u127, u128, u129, u130, u131, u132, u133, u134, u135, u136, u137, u138, u139, u140, u141, u142, u143, u144, u145, u146, u147, u148, u149, u150, u151, u152, u153, u154, u155, u156, u157, u158, u159, u160, u161, u162, u163, u164, u165, u166, u167, u168, u169, u170, u171, u172, u173, u174, u175, u176, u177, u178, u179, u180, u181, u182, u183, u184, u185, u186, u187, u188, u189, u190, u191, u192, u193, u194, u195, u196, u197, u198, u199, u200, u201, u202, u203, u204, u205, u206, u207, u208, u209, u210, u211, u212, u213, u214, u215, u216, u217, u218, u219, u220, u221, u222, u223, u224, u225, u226, u227, u228, u229, u230, u231, u232, u233, u234], []⟩ w := by
  have HQ := Lib.hid hQ
  clear hQ
  have hd : k = len1 ∨ k = 100 := by omega
  conv => arg 2; whnf
  rcases hd with rfl | rfl
  · go_wp2_with fail
    all_goals exact HQ.out _ (fr_intro (by kernel_rfl))
  · go_wp2_with fail
    all_goals exact HQ.out _ (fr_intro (by kernel_rfl))

/-- The frame at the loop. -/
structure AtLoop (A : Act) (p q len1 cap1 : Nat) (a1 : Option Addr) : Prop where
  size : A.tmps.size = 235
  defers : A.defers = []
  s1 : C15 A 1 = .slice a1 len1 cap1
  s6 : C15 A 6 = .pointer (some ⟨p, 0, none⟩)
  s7 : C15 A 7 = .pointer (some ⟨q, 0, none⟩)
  s8 : C15 A 8 = .int .i64 0

set_option maxRecDepth 1000000 in
set_option maxHeartbeats 4000000 in
theorem loop_wp {w0 w3 : World} {p q R len1 cap1 : Nat} {a1 : Option Addr} {Ks Ws Es : Nat → Int} {Ps : Nat → PK} (hrow : StepRow15 w0 a1 len1 Ks Ws Es Ps) (hR1 : 1 ≤ R) (hR2 : R ≤ 20) (h3 : Both w0.heap.size w0 w3 p q R [] [] [] [] []) {A : Act} (hA : AtLoop A p q len1 cap1 a1)
    {Q : Exit → Act → World → Prop} (hQ : ∀ A' w', (∃ U, A' = frLoop (C15 A) U) → Below w0.heap.size w0 w' → Q .normal A' w') : Code.wp Try.prog blk15 Q A w3 := by
  conv => arg 2; whnf
  refine wp_block ?_
  change Code.wp Try.prog (Code.loop body15) _ _ _
  refine wp_loop (fun A' w' => (∃ U, A' = frLoop (C15 A) U) ∧ ∃ (k : Nat) (l : List (PK × Int)) (fl : List TFl) (rs : List (Int × Option Int × Int)), C15 A' 8 = .int .i64 k ∧ k ≤ len1 ∧ k ≤ 100 ∧ Inv15 R k l fl rs ∧ Both w0.heap.size w0 w' p q R l fl rs [] []) (fun A' _ => 100 - (intOf (C15 A' 8)).toNat) ⟨?_, 0, [], [], [], hA.s8, by omega, by omega, Inv15.start R, h3⟩ ?_
  · have hAB := lit15 hA.size hA.defers
    exact ⟨C15 A, hAB⟩
  · rintro A2 wr ⟨⟨U, hU⟩, k, l, fl, rs, s8, hk, hk2, inv, h4⟩
    have sz : A2.tmps.size = 235 := by subst hU; rfl
    have df : A2.defers = [] := by subst hU; rfl
    have s1 : C15 A2 1 = .slice a1 len1 cap1 := by subst hU; exact hA.s1
    have s6 : C15 A2 6 = .pointer (some ⟨p, 0, none⟩) := by subst hU; exact hA.s6
    have s7 : C15 A2 7 = .pointer (some ⟨q, 0, none⟩) := by subst hU; exact hA.s7
    have chain : ∀ A3 : Act, (∃ U, A3 = frLoop (C15 A2) U) → ∃ U, A3 = frLoop (C15 A) U := fun A3 ⟨U3, h3⟩ => by
      subst h3
      subst hU
      exact ⟨U3, by kernel_rfl⟩
    have hAB := lit15 sz df
    by_cases hlt : k < len1 ∧ k < 100
    · obtain ⟨hlt1, hlt2⟩ := hlt
      obtain ⟨b, off, ha, hbw, hc0, hc1, hc2, hc3, hc4, hiw, hkp⟩ := hrow k hlt1
      subst ha
      have hold : ∀ o v, w0.cell? ⟨b, o, none⟩ = some v → wr.cell? ⟨b, o, none⟩ = some v := fun o v hc => (h4.below.cell (p := ⟨b, o, none⟩) hbw).trans hc
      rw [s1, s6, s7, s8] at hAB
      refine wp_at hAB (round_in hlt1 hlt2 hR1 hR2 hiw hkp (hold _ _ hc0) (hold _ _ hc1) (hold _ _ hc2) (hold _ _ hc3) (hold _ _ hc4) inv h4 (fun A3 w' hp => ?_))
      obtain ⟨hf, e8, l2, fl2, rs2, inv2, h5⟩ := hp
      refine ⟨⟨chain A3 (fr_from hAB hf), k + 1, l2, fl2, rs2, e8, by omega, by omega, inv2, h5⟩, ?_⟩
      show 100 - (intOf (C15 A3 8)).toNat < 100 - (intOf (C15 _ 8)).toNat
      rw [e8, s8]
      simp only [intOf]
      omega
    · have hb := h4.below
      rw [s1, s8] at hAB
      refine wp_at hAB (stop_in hk hk2 hlt (fun A3 hf => ?_))
      show Q .normal A3 wr
      exact hQ A3 wr (chain A3 (fr_from hAB hf)) hb

end Go.Proofs.Ytnnaidladcdbdaa

namespace Go.Proofs.Ytnnaidladcdbdaa
open Go.RowKit Go.ChangeMaps
open KZ (SV sv ZA KK)

set_option maxRecDepth 1000000 in
set_option maxHeartbeats 8000000 in
theorem shtells_walk (a0 : Int) (a1 : Option Addr) (len1 cap1 : Nat) (Ks Ws Es : Nat → Int) (Ps : Nat → PK) (w : World) (hrow : StepRow15 w a1 len1 Ks Ws Es Ps) :
    Calls Try.prog 14 #[.int .i64 a0, .slice a1 len1 cap1] w fun e w' => e = .returned (.bool true) ∧ Below w.heap.size w w' := by
  have HROW := Lib.hid hrow
  clear hrow
  go_enter Try.func14, Try.ntmps14
  go_wp2_with fail
  refine (shown35 w).mono ?_
  rintro e w1 ⟨rfl, hb1⟩
  go_upto_region 2 with fail
  go_cut [0] (fun i wc => ∃ r : Int, i = .int .i64 r ∧ r ≤ 20 ∧ wc = w1)
  case first =>
    by_cases h30 : a0 ≤ 20
    · go_wp2
      all_goals
        go_meet
        first | exact ⟨_, rfl, by omega, rfl⟩ | exact ⟨_, rfl, by simp, rfl⟩
    · go_wp2
      all_goals
        go_meet
        first | exact ⟨_, rfl, by omega, rfl⟩ | exact ⟨_, rfl, by simp, rfl⟩
  case rest =>
    obtain ⟨r, rfl, hr, hw⟩ := hcut
    subst wc
    go_wp2_with fail
    have hnew := duo_new r w w1 hb1
    obtain ⟨R, hR, hR1, hR2⟩ : ∃ R : Nat, max 1 r = (R : Int) ∧ 1 ≤ R ∧ R ≤ 20 := ⟨(max 1 r).toNat, by omega, by omega, by omega⟩
    rw [hR] at hnew
    clear hR hr
    refine hnew.mono ?_
    clear hnew
    rintro e w2 ⟨p, rfl, hnew⟩
    have HNEW := Lib.hid hnew
    clear hnew
    go_wp2_with fail
    refine HNEW.out.mono ?_
    clear HNEW
    rintro e w3 ⟨q, rfl, h3⟩
    have H3 := Lib.hid h3
    clear h3 hb1
    go_upto_block 0 with fail
    rename_i K0 hK0
    have HK0 := Lib.hid hK0
    clear hK0
    refine wp_frame ?_
    intro F hF
    have hL : AtLoop F p q len1 cap1 a1 := by subst hF; exact ⟨rfl, rfl, rfl, rfl, rfl, rfl⟩
    change Code.wp Try.prog blk15 _ _ _
    refine loop_wp HROW.out hR1 hR2 H3.out hL (fun F2 w4 hf hb => ?_)
    obtain ⟨U, hF2⟩ := hf
    have s5 : C15 F2 5 = .bool true := by subst hF2; subst hF; rfl
    have sz : F2.tmps.size = 235 := by subst hF2; rfl
    have df : F2.defers = [] := by subst hF2; rfl
    have hAB := lit15 sz df
    rw [s5] at hAB
    have HB := Lib.hid hb
    clear hF2 hF hL s5 sz df hb H3 HROW
    refine HK0.out _ _ ?_
    refine wp_at hAB ?_
    clear hAB
    go_wp2
    go_ret
    exact ⟨rfl, HB.out⟩

end Go.Proofs.Ytnnaidladcdbdaa
