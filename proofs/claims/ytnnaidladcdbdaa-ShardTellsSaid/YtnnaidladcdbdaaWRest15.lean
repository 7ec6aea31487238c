/- ShardTells: what stands behind the switch of a round: Keys, Len, Flying, Ready, each key. -/
import Derived.Test.YtnnaidladcdbdaaFrame15
namespace Go.Proofs.Ytnnaidladcdbdaa
open Go.RowKit Go.ChangeMaps
open KZ (SV sv ZA KK)
set_option linter.unusedVariables false

def seqAt (n : Nat) : Code → Option Code
  | .seq a b => match a with
    | .region m _ _ => if m = n then some (.seq a b) else seqAt n b
    | _ => match seqAt n a with
      | some c => some c
      | none => seqAt n b
  | .block _ c => seqAt n c
  | .loop c => seqAt n c
  | .scope c => seqAt n c
  | .cond _ a b => match seqAt n a with
    | some c => some c
    | none => seqAt n b
  | _ => none
noncomputable def rest15 : Code := ((Try.f14.body.bind (seqAt 42)).getD .skip)

/-- The frame behind the switch. -/
structure AtRest (A : Act) (p q bx : Nat) : Prop where
  size : A.tmps.size = 235
  defers : A.defers = []
  s6 : C15 A 6 = .pointer (some ⟨p, 0, none⟩)
  s7 : C15 A 7 = .pointer (some ⟨q, 0, none⟩)
  s9 : C15 A 9 = .pointer (some ⟨bx, 0, none⟩)

def RestPost (w0 : World) (p q R : Nat) (l : List (PK × Int)) (fl : List TFl) (rs : List (Int × Option Int × Int)) (A A' : Act) (w' : World) : Prop :=
  (∃ U, A' = frRest (C15 A) U) ∧ Both w0.heap.size w0 w' p q R l fl rs [] []

set_option maxRecDepth 1000000 in
set_option maxHeartbeats 16000000 in
theorem rest_in {w0 w5 : World} {p q R m bx : Nat} {K W E : Int} {kk : PK} {l5 : List (PK × Int)} {fl5 : List TFl} {rs5 : List (Int × Option Int × Int)} {u0 u1 u2 u3 u4 u5 u8 u10 u11 u12 u13 u14 u15 u16 u17 u18 u19 u20 u21 u22 u23 u24 u25 u26 u27 u28 u29 u30 u31 u32 u33 u34 u35 u36 u37 u38 u39 u40 u41 u42 u43 u44 u45 u46 u47 u48 u49 u50 u51 u52 u53 u54 u55 u56 u57 u58 u59 u60 u61 u62 u63 u64 u65 u66 u67 u68 u69 u70 u71 u72 u73 u74 u75 u76 u77 u78 u79 u80 u81 u82 u83 u84 u85 u86 u87 u88 u89 u90 u91 u92 u93 u94 u95 u96 u97 u98 u99 u100 u101 u102 u103 u104 u105 u106 u107 u108 u109 u110 u111 u112 u113 u114 u115 u116 u117 u118 u119 u120 u121 u122 u123 u124 u125 u126 u127 u128 u129 u130 u131 u132 u133 u134 u135 u136 u137 u138 u139 u140 u141 u142 u143 u144 u145 u146 u147 u148 u149 u150 u151 u152 u153 u154 u155 u156 u157 u158 u159 u160 u161 u162 u163 u164 u165 u166 u167 u168 u169 u170 u171 u172 u173 u174 u175 u176 u177 u178 u179 u180 u181 u182 u183 u184 u185 u186 u187 u188 u189 u190 u191 u192 u193 u194 u195 u196 u197 u198 u199 u200 u201 u202 u203 u204 u205 u206 u207 u208 u209 u210 u211 u212 u213 u214 u215 u216 u217 u218 u219 u220 u221 u222 u223 u224 u225 u226 u227 u228 u229 u230 u231 u232 u233 u234 : Value} (hm : m ≤ 1000) (hR2 : R ≤ 20) (hiw : KI.ok W) (inv5 : Inv15 R m l5 fl5 rs5) (h5 : Both w0.heap.size w0 w5 p q R l5 fl5 rs5 [(bx, x15 K W E kk)] []) {Q : Exit → Act → World → Prop} (hQ : ∀ A' w', RestPost w0 p q R l5 fl5 rs5 ⟨#[u0, u1, u2, u3, u4, u5, .pointer (some ⟨p, 0, none⟩), .pointer (some ⟨q, 0, none⟩), u8, .pointer (some ⟨bx, 0, none⟩), u10, u11, u12, u13, u14, u15, u16, u17, u18, u19, u20, u21, u22, u23, u24, u25, u26, u27, u28, u29, u30, u31, u32, u33, u34, u35, u36, u37, u38, u39, u40, u41, u42, u43, u44, u45, u46, u47, u48, u49, u50, u51, u52, u53, u54, u55, u56, u57, u58, u59, u60, u61, u62, u63, u64, u65, u66, u67, u68, u69, u70, u71, u72, u73, u74, u75, u76, u77, u78, u79, u80, u81, u82, u83, u84, u85, u86, u87, u88, u89, u90, u91, u92, u93, u94, u95, u96, u97, u98, u99, u100, u101, u102, u103, u104, u105, u106, u107, u108, u109, u110, u111, u112, u113, u114, u115, u116, u117, u118, u119, u120, u121, u122, u123, u124, u125, u126, u127, u128, u129, u130, u131, u132, u133, u134, u135, u136, u137, u138, u139, u140, u141, u142, u143, u144, u145, u146, u147, u148, u149, u150, u151, u152, u153, u154, u155, u156, u157, u158, u159, u160, u161, u162, u163, u164, u165, u166, u167, u168, u169, u170, u171, u172, u173, u174, u175, u176, u177, u178, u179, u180, u181, u182, u183, u184, u185, u186, u187, u188, u189, u190, u191, u192, u193, u194, u195, u196, u197, u198, u199, u200, u201, u202, u203, u204, u205, u206, u207, u208, u209, u210, u211, u212, u213, u214, u215, u216, u217, u218, u219, u220, u221, u222, u223, u224, u225, u226, u227, u228, u229, u230, u231, u232, u233, u234], []⟩ A' w' → Q .normal A' w') : Code.wp Try.prog rest15 Q ⟨#[u0, u1, u2, u3, u4, u5, .pointer (some ⟨p, 0, none⟩), .pointer (some ⟨q, 0, none⟩), u8, .pointer (some ⟨bx, 0, none⟩), u10, u11, u12, u13, u14, u15, u16, u17, u18, u19, u20, u21, u22, u23, u24, u25, u26, u27, u28, u29, u30, u31, u32, u33, u34, u35, u36, u37, u38, u39, u40, u41, u42, u43, u44, u45, u46, u47, u48, u49, u50, u51, u52, u53, u54, u55, u56, u57, u58, u59, u60, u61, u62, u63, u64, u65, u66, u67, u68, u69, u70, u71, u72, u73, u74, u75, u76, u77, u78, u79, u80, u81, u82, u83, u84, u85, u86, u87, u88, u89, u90, u91, u92, u93, u94, u95, u96, u97, u98, u99, u100, u101, u102, u103, u104, u105, u106, u107, u108, u109, u110, u111, u112, u113, u114, u115, u116, u117, u118, u119, u120, u121, u122, u123, u124, u125, u126, u127, u128, u129, u130, u131, u132, u133, u134, u135, u136, u137, u138, u139, u140, u141, u142, u143, u144, u145, u146, u147, u148, u149, u150, u151, u152, u153, u154, u155, u156, u157, u158, u159, u160, u161, u162, u163, u164, u165, u166, u167, u168, u169, u170, u171, u172, u173, u174, u175, u176, u177, u178, u179, u180, u181, u182, u183, u184, u185, u186, u187, u188, u189, u190, u191, u192, u193, u194, u195, u196, u197, u198, u199, u200, u201, u202, u203, u204, u205, u206, u207, u208, u209, u210, u211, u212, u213, u214, u215, u216, u217, u218, u219, u220, u221, u222, u223, u224, u225, u226, u227, u228, u229, u230, u231, u232, u233, u234], []⟩ w5 := by
  have INV5 := Lib.hid inv5
  have HIW := Lib.hid hiw
  have HQ := Lib.hid hQ
  have hln := inv5.len
  have QK := Lib.hid (both_keys h5 (by omega))
  obtain ⟨N, hN⟩ : ∃ N : Nat, l5.length = N := ⟨_, rfl⟩
  obtain ⟨F, hF⟩ : ∃ F : Nat, fl5.length = F := ⟨_, rfl⟩
  obtain ⟨y, hy⟩ : ∃ y : Bool, has rs5 W = y := ⟨_, rfl⟩
  have HN := Lib.hid hN
  have HF := Lib.hid hF
  have HY := Lib.hid hy
  rw [hN] at QK hln
  clear hN hF hy inv5 h5 hiw hQ
  conv => arg 2; whnf
  go_wp2_with fail
  refine QK.out.mono ?_
  clear QK
  rintro e w6 ⟨rfl, hlk, hca, h6⟩
  have D6 := Lib.hid h6
  have HCA := Lib.hid hca
  clear hca
  obtain ⟨T, hne, gw, hT, hgw⟩ := below_fam1 w6
  obtain ⟨QL, QF, QY, QZ⟩ := both_fam h6 INV5.out (by omega) W HIW.out hT hgw
  rw [HN.out] at QL
  rw [HF.out] at QF
  rw [HY.out] at QY QZ
  obtain ⟨G6, ht6⟩ := h6.ref
  obtain ⟨ak, ck, af, cf, cq1, cq3, hql, hcb⟩ := ht6.rows
  rw [HN.out] at cq1
  rw [HF.out] at cq3
  have cx1 := h6.cell (b := bx) (xs := x15 K W E kk) (by simp) 1 _ rfl
  have hxl := cell_lt cx1
  have g1 : ∀ n, (gw n).cell? ⟨q, 1, none⟩ = some (.slice ak N ck) := fun n => ((hgw n).cell (p := ⟨q, 1, none⟩) hql).trans cq1
  have g3 : ∀ n, (gw n).cell? ⟨q, 3, none⟩ = some (.slice af F cf) := fun n => ((hgw n).cell (p := ⟨q, 3, none⟩) hql).trans cq3
  have gx : ∀ n, (gw n).cell? ⟨bx, 1, none⟩ = some (.int .i64 W) := fun n => ((hgw n).cell (p := ⟨bx, 1, none⟩) hxl).trans cx1
  have HCB := Lib.hid hcb
  have HQL := Lib.hid QL
  have HQF := Lib.hid QF
  have HQY := Lib.hid QY
  have HQZ := Lib.hid QZ
  have HG := Lib.hid hgw
  have HT := Lib.hid hT
  have CQ := Lib.hid cq1
  clear h6 ht6 hcb QL QF QY QZ cq1 cq3 cx1 hxl hgw hT
  have b1 : ((N : Int) != (N : Int)) = false := by simp
  have b2 : ((F : Int) != (F : Int)) = false := by simp
  have b3 : (y != y) = false := by simp
  go_upto_region 43 with fail
  refine wp_region_quiet_fam gw (by kernel_rfl) (by kernel_rfl) (HT.out _ ((Below.refl _ _).drew)) ?_
  repeat (go_big_quiet_step (first | (go_at_call 41; exact HQL.out _) | (go_at_call 40; exact HQF.out _) | (go_at_call 39; exact HQY.out _) | (go_at_call 54; exact HQZ.out _)))
  refine wpQuiet_nil ?_
  intro w7 hw7
  have hb7 : Below w6.heap.size w6 w7 := by obtain ⟨n, rfl⟩ := hw7; exact HG.out n
  have D7 := Lib.hid (D6.out.later hb7)
  have cq : w7.cell? ⟨q, 1, none⟩ = some (.slice ak N ck) := (hb7.cell (p := ⟨q, 1, none⟩) hql).trans CQ.out
  have hql7 : q < w7.heap.size := Nat.lt_of_lt_of_le hql hb7.size
  have hlk7 : w5.heap.size < w7.heap.size := Nat.lt_of_lt_of_le hlk hb7.size
  have hca7 : ∀ j x, l5[j]? = some x → w7.cell? ⟨w5.heap.size, j * 2, none⟩ = some (.int .i64 x.1.1) ∧ w7.cell? ⟨w5.heap.size, j * 2 + 1, none⟩ = some (.string x.1.2) := fun j x hx =>
    ⟨(hb7.cell (p := ⟨w5.heap.size, j * 2, none⟩) hlk).trans (HCA.out j x hx).1, (hb7.cell (p := ⟨w5.heap.size, j * 2 + 1, none⟩) hlk).trans (HCA.out j x hx).2⟩
  have hcb7 : ∀ j x, l5[j]? = some x → ∃ g, ak = some ⟨g, 0, none⟩ ∧ g < w7.heap.size ∧ w7.cell? ⟨g, j * 2, none⟩ = some (.int .i64 x.1.1) ∧ w7.cell? ⟨g, j * 2 + 1, none⟩ = some (.string x.1.2) := fun j x hx => by
    obtain ⟨g, hg, e1, e2⟩ := HCB.out j x hx
    have hgl := cell_lt e1
    exact ⟨g, hg, Nat.lt_of_lt_of_le hgl hb7.size, (hb7.cell (p := ⟨g, j * 2, none⟩) hgl).trans e1, (hb7.cell (p := ⟨g, j * 2 + 1, none⟩) hgl).trans e2⟩
  have HCA7 := Lib.hid hca7
  have HCB7 := Lib.hid hcb7
  have CQ7 := Lib.hid cq
  clear hw7 hca7 hcb7 HCA HCB HQL HQF HQY HQZ HG HT CQ g1 g3 gx D6 hb7 cq hql hlk gw hne T
  go_wp2_with fail
  go_loopw [29] (fun i wr => ∃ j : Nat, i = .int .i64 j ∧ j ≤ N ∧ Below w7.heap.size w7 wr) (fun i _ => N - (intOf i).toNat)
  case atStart => exact ⟨0, rfl, by omega, Below.refl _ _⟩
  case round =>
    obtain ⟨j, rfl, hj, hbj⟩ := hrel
    by_cases hltj : j < N
    · obtain ⟨x, hx⟩ : ∃ x, l5[j]? = some x := ⟨_, List.getElem?_eq_getElem (by rw [HN.out]; exact hltj)⟩
      obtain ⟨g, hao, hgl, e1, e2⟩ := HCB7.out j x hx
      subst hao
      obtain ⟨f1, f2⟩ := HCA7.out j x hx
      have c1 : wr.cell? ⟨w5.heap.size, j * 2, none⟩ = some (.int .i64 x.1.1) := (hbj.cell (p := ⟨w5.heap.size, j * 2, none⟩) hlk7).trans f1
      have c2 : wr.cell? ⟨w5.heap.size, j * 2 + 1, none⟩ = some (.string x.1.2) := (hbj.cell (p := ⟨w5.heap.size, j * 2 + 1, none⟩) hlk7).trans f2
      have c3 : wr.cell? ⟨g, j * 2, none⟩ = some (.int .i64 x.1.1) := (hbj.cell (p := ⟨g, j * 2, none⟩) hgl).trans e1
      have c4 : wr.cell? ⟨g, j * 2 + 1, none⟩ = some (.string x.1.2) := (hbj.cell (p := ⟨g, j * 2 + 1, none⟩) hgl).trans e2
      have c5 : wr.cell? ⟨q, 1, none⟩ = some (.slice (some ⟨g, 0, none⟩) N ck) := (hbj.cell (p := ⟨q, 1, none⟩) hql7).trans CQ7.out
      have i2 : (j : Int) < (N : Int) := by omega
      have b5 : (x.1.1 == x.1.1) = true := by simp
      have b6 : (x.1.2.toList == x.1.2.toList) = true := by simp
      clear hx e1 e2 f1 f2
      go_wp2_with (go_quiet (fail))
      go_roundw
      case rel => exact ⟨j + 1, by go_num, by omega, below_drewN hbj nq⟩
      case measure => simp [intOf]; omega
    · obtain rfl : j = N := by omega
      have h8 := D7.out.later hbj
      have D8 := Lib.hid (h8.only (ks' := []) (vs' := []) (fun _ h => by cases h) (fun _ h => by cases h))
      clear h8
      go_wp2
      exact HQ.out _ _ ⟨fr_intro (by kernel_rfl), D8.out⟩

theorem rest_wp {w0 w5 : World} {p q R m bx : Nat} {K W E : Int} {kk : PK} {l5 : List (PK × Int)} {fl5 : List TFl} {rs5 : List (Int × Option Int × Int)} {A : Act} (hA : AtRest A p q bx) (hm : m ≤ 1000) (hR2 : R ≤ 20) (hiw : KI.ok W) (inv5 : Inv15 R m l5 fl5 rs5) (h5 : Both w0.heap.size w0 w5 p q R l5 fl5 rs5 [(bx, x15 K W E kk)] []) {Q : Exit → Act → World → Prop} (hQ : ∀ A' w', RestPost w0 p q R l5 fl5 rs5 A A' w' → Q .normal A' w') : Code.wp Try.prog rest15 Q A w5 := by
  obtain ⟨sz, df, s6, s7, s9⟩ := hA
  have hAB := lit15 sz df
  rw [s6, s7, s9] at hAB
  exact wp_at hAB (rest_in hm hR2 hiw inv5 h5 (fun A' w' h => hQ A' w' ⟨fr_from hAB h.1, h.2⟩))

end Go.Proofs.Ytnnaidladcdbdaa
