/- ShardTells: its frame, the pieces of its code, and small laws of operations over a frame that is a variable. -/
import Derived.Test.YtnnaidladcdbdaaDuo15
import Derived.Deep.DeepCutAuto
import Derived.Deep.CutBlock
namespace Go.Proofs.Ytnnaidladcdbdaa
open Go.RowKit Go.ChangeMaps
open KZ (SV sv ZA KK)

/-- What lies in a slot. -/
def C15 (A : Act) (i : Nat) : Value := A.tmps.getD i undef

theorem tmps15 (A : Act) (n : Nat) (hs : A.tmps.size = n) : A.tmps = ((List.range n).map (C15 A)).toArray := by
  refine Array.ext (by simp [hs]) (fun i h1 h2 => ?_)
  simp [C15, Array.getD, h1]

set_option maxRecDepth 1000000 in
theorem lit15 {A : Act} (hs : A.tmps.size = 235) (hd : A.defers = []) : A = ⟨#[C15 A 0, C15 A 1, C15 A 2, C15 A 3, C15 A 4, C15 A 5, C15 A 6, C15 A 7, C15 A 8, C15 A 9, C15 A 10, C15 A 11, C15 A 12, C15 A 13, C15 A 14, C15 A 15, C15 A 16, C15 A 17, C15 A 18, C15 A 19, C15 A 20, C15 A 21, C15 A 22, C15 A 23, C15 A 24, C15 A 25, C15 A 26, C15 A 27, C15 A 28, C15 A 29, C15 A 30, C15 A 31, C15 A 32, C15 A 33, C15 A 34, C15 A 35, C15 A 36, C15 A 37, C15 A 38, C15 A 39, C15 A 40, C15 A 41, C15 A 42, C15 A 43, C15 A 44, C15 A 45, C15 A 46, C15 A 47, C15 A 48, C15 A 49, C15 A 50, C15 A 51, C15 A 52, C15 A 53, C15 A 54, C15 A 55, C15 A 56, C15 A 57, C15 A 58, C15 A 59, C15 A 60, C15 A 61, C15 A 62, C15 A 63, C15 A 64, C15 A 65, C15 A 66, C15 A 67, C15 A 68, C15 A 69, C15 A 70, C15 A 71, C15 A 72, C15 A 73, C15 A 74, C15 A 75, C15 A 76, C15 A 77, C15 A 78, C15 A 79, C15 A 80, C15 A 81, C15 A 82, C15 A 83, C15 A 84, C15 A 85, C15 A 86, C15 A 87, C15 A 88, C15 A 89, C15 A 90, C15 A 91, C15 A 92, C15 A 93, C15 A 94, C15 A 95, C15 A 96, C15 A 97, C15 A 98, C15 A 99, C15 A 100, C15 A 101, C15 A 102, C15 A 103, C15 A 104, C15 A 105, C15 A 106, C15 A 107, C15 A 108, C15 A 109, C15 A 110, C15 A 111, C15 A 112, C15 A 113, C15 A 114, C15 A 115, C15 A 116, C15 A 117, C15 A 118, C15 A 119, C15 A 120, C15 A 121, C15 A 122, C15 A 123, C15 A 124, C15 A 125, C15 A 126, C15 A 127, C15 A 128, C15 A 129, C15 A 130, C15 A 131, C15 A 132, C15 A 133, C15 A 134, C15 A 135, C15 A 136, C15 A 137, C15 A 138, C15 A 139, C15 A 140, C15 A 141, C15 A 142, C15 A 143, C15 A 144, C15 A 145, C15 A 146, C15 A 147, C15 A 148, C15 A 149, C15 A 150, C15 A 151, C15 A 152, C15 A 153, C15 A 154, C15 A 155, C15 A 156, C15 A 157, C15 A 158, C15 A 159, C15 A 160, C15 A 161, C15 A 162, C15 A 163, C15 A 164, C15 A 165, C15 A 166, C15 A 167, C15 A 168, C15 A 169, C15 A 170, C15 A 171, C15 A 172, C15 A 173, C15 A 174, C15 A 175, C15 A 176, C15 A 177, C15 A 178, C15 A 179, C15 A 180, C15 A 181, C15 A 182, C15 A 183, C15 A 184, C15 A 185, C15 A 186, C15 A 187, C15 A 188, C15 A 189, C15 A 190, C15 A 191, C15 A 192, C15 A 193, C15 A 194, C15 A 195, C15 A 196, C15 A 197, C15 A 198, C15 A 199, C15 A 200, C15 A 201, C15 A 202, C15 A 203, C15 A 204, C15 A 205, C15 A 206, C15 A 207, C15 A 208, C15 A 209, C15 A 210, C15 A 211, C15 A 212, C15 A 213, C15 A 214, C15 A 215, C15 A 216, C15 A 217, C15 A 218, C15 A 219, C15 A 220, C15 A 221, C15 A 222, C15 A 223, C15 A 224, C15 A 225, C15 A 226, C15 A 227, C15 A 228, C15 A 229, C15 A 230, C15 A 231, C15 A 232, C15 A 233, C15 A 234], []⟩ := by
  have h := tmps15 A 235 hs
  have e : ((List.range 235).map (C15 A)).toArray = #[C15 A 0, C15 A 1, C15 A 2, C15 A 3, C15 A 4, C15 A 5, C15 A 6, C15 A 7, C15 A 8, C15 A 9, C15 A 10, C15 A 11, C15 A 12, C15 A 13, C15 A 14, C15 A 15, C15 A 16, C15 A 17, C15 A 18, C15 A 19, C15 A 20, C15 A 21, C15 A 22, C15 A 23, C15 A 24, C15 A 25, C15 A 26, C15 A 27, C15 A 28, C15 A 29, C15 A 30, C15 A 31, C15 A 32, C15 A 33, C15 A 34, C15 A 35, C15 A 36, C15 A 37, C15 A 38, C15 A 39, C15 A 40, C15 A 41, C15 A 42, C15 A 43, C15 A 44, C15 A 45, C15 A 46, C15 A 47, C15 A 48, C15 A 49, C15 A 50, C15 A 51, C15 A 52, C15 A 53, C15 A 54, C15 A 55, C15 A 56, C15 A 57, C15 A 58, C15 A 59, C15 A 60, C15 A 61, C15 A 62, C15 A 63, C15 A 64, C15 A 65, C15 A 66, C15 A 67, C15 A 68, C15 A 69, C15 A 70, C15 A 71, C15 A 72, C15 A 73, C15 A 74, C15 A 75, C15 A 76, C15 A 77, C15 A 78, C15 A 79, C15 A 80, C15 A 81, C15 A 82, C15 A 83, C15 A 84, C15 A 85, C15 A 86, C15 A 87, C15 A 88, C15 A 89, C15 A 90, C15 A 91, C15 A 92, C15 A 93, C15 A 94, C15 A 95, C15 A 96, C15 A 97, C15 A 98, C15 A 99, C15 A 100, C15 A 101, C15 A 102, C15 A 103, C15 A 104, C15 A 105, C15 A 106, C15 A 107, C15 A 108, C15 A 109, C15 A 110, C15 A 111, C15 A 112, C15 A 113, C15 A 114, C15 A 115, C15 A 116, C15 A 117, C15 A 118, C15 A 119, C15 A 120, C15 A 121, C15 A 122, C15 A 123, C15 A 124, C15 A 125, C15 A 126, C15 A 127, C15 A 128, C15 A 129, C15 A 130, C15 A 131, C15 A 132, C15 A 133, C15 A 134, C15 A 135, C15 A 136, C15 A 137, C15 A 138, C15 A 139, C15 A 140, C15 A 141, C15 A 142, C15 A 143, C15 A 144, C15 A 145, C15 A 146, C15 A 147, C15 A 148, C15 A 149, C15 A 150, C15 A 151, C15 A 152, C15 A 153, C15 A 154, C15 A 155, C15 A 156, C15 A 157, C15 A 158, C15 A 159, C15 A 160, C15 A 161, C15 A 162, C15 A 163, C15 A 164, C15 A 165, C15 A 166, C15 A 167, C15 A 168, C15 A 169, C15 A 170, C15 A 171, C15 A 172, C15 A 173, C15 A 174, C15 A 175, C15 A 176, C15 A 177, C15 A 178, C15 A 179, C15 A 180, C15 A 181, C15 A 182, C15 A 183, C15 A 184, C15 A 185, C15 A 186, C15 A 187, C15 A 188, C15 A 189, C15 A 190, C15 A 191, C15 A 192, C15 A 193, C15 A 194, C15 A 195, C15 A 196, C15 A 197, C15 A 198, C15 A 199, C15 A 200, C15 A 201, C15 A 202, C15 A 203, C15 A 204, C15 A 205, C15 A 206, C15 A 207, C15 A 208, C15 A 209, C15 A 210, C15 A 211, C15 A 212, C15 A 213, C15 A 214, C15 A 215, C15 A 216, C15 A 217, C15 A 218, C15 A 219, C15 A 220, C15 A 221, C15 A 222, C15 A 223, C15 A 224, C15 A 225, C15 A 226, C15 A 227, C15 A 228, C15 A 229, C15 A 230, C15 A 231, C15 A 232, C15 A 233, C15 A 234] := by kernel_rfl
  rw [e] at h
  obtain ⟨t, d⟩ := A
  simp only at hd h
  subst hd
  exact congrArg (fun x => (⟨x, []⟩ : Act)) h

theorem wp_at {P : Program} {c : Code} {Q : Exit → Act → World → Prop} {A B : Act} {w : World} (h : A = B) (hw : c.wp P Q B w) : c.wp P Q A w := by rw [h]; exact hw

/-- A frame: what a piece leaves as it was, and what it writes. -/
def frSw (C U : Nat → Value) : Act := ⟨#[C 0, C 1, C 2, C 3, C 4, C 5, C 6, C 7, C 8, C 9, C 10, C 11, U 12, U 13, U 14, U 15, U 16, U 17, U 18, U 19, U 20, U 21, U 22, U 23, U 24, U 25, U 26, U 27, C 28, C 29, C 30, C 31, C 32, C 33, C 34, C 35, C 36, C 37, C 38, C 39, C 40, C 41, C 42, C 43, C 44, C 45, C 46, C 47, C 48, C 49, C 50, C 51, C 52, C 53, C 54, C 55, C 56, C 57, C 58, C 59, C 60, C 61, C 62, C 63, C 64, U 65, U 66, U 67, U 68, U 69, U 70, U 71, U 72, U 73, U 74, U 75, U 76, U 77, U 78, U 79, U 80, U 81, U 82, U 83, U 84, U 85, U 86, U 87, U 88, U 89, U 90, U 91, U 92, U 93, U 94, U 95, U 96, U 97, U 98, U 99, U 100, U 101, U 102, U 103, U 104, U 105, U 106, U 107, U 108, U 109, U 110, U 111, U 112, U 113, U 114, U 115, U 116, U 117, U 118, U 119, U 120, U 121, U 122, U 123, U 124, U 125, U 126, U 127, U 128, U 129, U 130, U 131, U 132, U 133, U 134, U 135, U 136, U 137, U 138, U 139, U 140, U 141, U 142, U 143, U 144, U 145, U 146, U 147, U 148, U 149, U 150, U 151, U 152, U 153, U 154, U 155, U 156, U 157, U 158, U 159, U 160, U 161, U 162, U 163, U 164, U 165, U 166, U 167, U 168, U 169, U 170, U 171, U 172, U 173, U 174, C 175, C 176, C 177, C 178, C 179, C 180, C 181, C 182, C 183, C 184, C 185, C 186, C 187, C 188, C 189, C 190, C 191, C 192, C 193, C 194, C 195, C 196, C 197, C 198, C 199, C 200, C 201, C 202, C 203, C 204, C 205, C 206, C 207, C 208, C 209, C 210, C 211, C 212, C 213, C 214, C 215, C 216, C 217, C 218, C 219, C 220, C 221, C 222, C 223, C 224, C 225, C 226, C 227, C 228, C 229, C 230, C 231, C 232, C 233, C 234], []⟩
def frRest (C U : Nat → Value) : Act := ⟨#[C 0, C 1, C 2, C 3, U 4, C 5, C 6, C 7, C 8, C 9, C 10, C 11, C 12, C 13, C 14, C 15, C 16, C 17, C 18, C 19, C 20, C 21, C 22, C 23, C 24, C 25, C 26, C 27, U 28, U 29, C 30, C 31, C 32, C 33, C 34, C 35, C 36, C 37, C 38, C 39, C 40, C 41, C 42, C 43, C 44, C 45, C 46, C 47, C 48, C 49, C 50, C 51, C 52, C 53, C 54, C 55, C 56, C 57, C 58, C 59, C 60, C 61, C 62, C 63, C 64, C 65, C 66, C 67, C 68, C 69, C 70, C 71, C 72, C 73, C 74, C 75, C 76, C 77, C 78, C 79, C 80, C 81, C 82, C 83, C 84, C 85, C 86, C 87, C 88, C 89, C 90, C 91, C 92, C 93, C 94, C 95, C 96, C 97, C 98, C 99, C 100, C 101, C 102, C 103, C 104, C 105, C 106, C 107, C 108, C 109, C 110, C 111, C 112, C 113, C 114, C 115, C 116, C 117, C 118, C 119, C 120, C 121, C 122, C 123, C 124, C 125, C 126, C 127, C 128, C 129, C 130, C 131, C 132, C 133, C 134, C 135, C 136, C 137, C 138, C 139, C 140, C 141, C 142, C 143, C 144, C 145, C 146, C 147, C 148, C 149, C 150, C 151, C 152, C 153, C 154, C 155, C 156, C 157, C 158, C 159, C 160, C 161, C 162, C 163, C 164, C 165, C 166, C 167, C 168, C 169, C 170, C 171, C 172, C 173, C 174, U 175, U 176, U 177, U 178, U 179, U 180, U 181, U 182, U 183, U 184, U 185, U 186, U 187, U 188, U 189, U 190, U 191, U 192, U 193, U 194, U 195, U 196, U 197, U 198, U 199, U 200, U 201, U 202, U 203, U 204, U 205, U 206, U 207, U 208, U 209, U 210, U 211, U 212, U 213, U 214, U 215, U 216, U 217, U 218, U 219, U 220, U 221, U 222, U 223, U 224, U 225, U 226, U 227, U 228, U 229, U 230, U 231, U 232, U 233, C 234], []⟩
def frLoop (C U : Nat → Value) : Act := ⟨#[C 0, C 1, C 2, C 3, U 4, C 5, C 6, C 7, U 8, U 9, U 10, U 11, U 12, U 13, U 14, U 15, U 16, U 17, U 18, U 19, U 20, U 21, U 22, U 23, U 24, U 25, U 26, U 27, U 28, U 29, C 30, C 31, C 32, C 33, C 34, C 35, C 36, C 37, C 38, U 39, U 40, U 41, U 42, U 43, U 44, U 45, U 46, U 47, U 48, U 49, U 50, U 51, U 52, U 53, U 54, U 55, U 56, U 57, U 58, U 59, U 60, U 61, U 62, U 63, U 64, U 65, U 66, U 67, U 68, U 69, U 70, U 71, U 72, U 73, U 74, U 75, U 76, U 77, U 78, U 79, U 80, U 81, U 82, U 83, U 84, U 85, U 86, U 87, U 88, U 89, U 90, U 91, U 92, U 93, U 94, U 95, U 96, U 97, U 98, U 99, U 100, U 101, U 102, U 103, U 104, U 105, U 106, U 107, U 108, U 109, U 110, U 111, U 112, U 113, U 114, U 115, U 116, U 117, U 118, U 119, U 120, U 121, U 122, U 123, U 124, U 125, U 126, U 127, U 128, U 129, U 130, U 131, U 132, U 133, U 134, U 135, U 136, U 137, U 138, U 139, U 140, U 141, U 142, U 143, U 144, U 145, U 146, U 147, U 148, U 149, U 150, U 151, U 152, U 153, U 154, U 155, U 156, U 157, U 158, U 159, U 160, U 161, U 162, U 163, U 164, U 165, U 166, U 167, U 168, U 169, U 170, U 171, U 172, U 173, U 174, U 175, U 176, U 177, U 178, U 179, U 180, U 181, U 182, U 183, U 184, U 185, U 186, U 187, U 188, U 189, U 190, U 191, U 192, U 193, U 194, U 195, U 196, U 197, U 198, U 199, U 200, U 201, U 202, U 203, U 204, U 205, U 206, U 207, U 208, U 209, U 210, U 211, U 212, U 213, U 214, U 215, U 216, U 217, U 218, U 219, U 220, U 221, U 222, U 223, U 224, U 225, U 226, U 227, U 228, U 229, U 230, U 231, U 232, U 233, C 234], []⟩

theorem fr_intro {F : Act} {fr : (Nat → Value) → (Nat → Value) → Act} {C : Nat → Value} (h : F = fr C (C15 F)) : ∃ U, F = fr C U := ⟨_, h⟩
theorem fr_from {A B F : Act} {fr : (Nat → Value) → (Nat → Value) → Act} (e : A = B) (h : ∃ U, F = fr (C15 B) U) : ∃ U, F = fr (C15 A) U := by rw [e]; exact h

def blockOf (n : Nat) : Code → Option Code
  | .block m c => if m = n then some (.block m c) else blockOf n c
  | .loop c => blockOf n c
  | .seq a b => match blockOf n a with
    | some c => some c
    | none => blockOf n b
  | .scope c => blockOf n c
  | .cond _ a b => match blockOf n a with
    | some c => some c
    | none => blockOf n b
  | _ => none
noncomputable def sw15 : Code := ((Try.f14.body.bind (blockOf 2)).getD .skip)

section
theorem wp_frame {P : Program} {c : Code} {Q : Exit → Act → World → Prop} {a : Act} {w : World} (h : ∀ A, A = a → c.wp P Q A w) : c.wp P Q a w := h a rfl
theorem ev_ne {A : Act} {d t : Nat} {v : Value} (h : t ≠ d) : (A.put (some d) v).eval (.tmp t) = A.eval (.tmp t) := Act.eval_put (fun d' e => by cases e; intro e'; injection e' with e'; exact h e')
theorem sz_put {A : Act} {d : Option Nat} {v : Value} : (A.put d v).tmps.size = A.tmps.size := by cases d <;> simp [Act.put]
theorem ev_eq {A : Act} {d : Nat} {v : Value} (h : d < A.tmps.size) : (A.put (some d) v).eval (.tmp d) = v := by
  simp [Act.put, Act.eval, h]
variable {ops : Array Oper} {S : World → Prop} {o : Oper} {a : Act}
theorem y_move {v : Value} (hg : o.guard = none) (x : Operand) (ho : o.op = .move x) (hx : a.eval x = v) : YieldsIf Try.prog ops S o v a :=
  .inl ⟨by simp [Region.wanted, hg], fun w _ => by rw [BigFrame.run_move x ho, hx]⟩
theorem y_assign {v : Value} (hg : o.guard = none) (x : Operand) (ho : o.op = .assign x) (hx : a.eval x = v) : YieldsIf Try.prog ops S o v a :=
  .inl ⟨by simp [Region.wanted, hg], fun w _ => by rw [BigFrame.run_assign x ho, hx]⟩
theorem y_f1 {b : Nat} {x : Operand} (hg : o.guard = none) (ho : o.op = .fieldAddr 88 x 1) (hx : a.eval x = .pointer (some ⟨b, 0, none⟩)) : YieldsIf Try.prog ops S o (.pointer (some ⟨b, 1, none⟩)) a :=
  .inl ⟨by simp [Region.wanted, hg], fun w _ => by unfold execOp; simp only [ho, hx]; go_simp⟩
theorem y_f4 {b : Nat} {x : Operand} (hg : o.guard = none) (ho : o.op = .fieldAddr 88 x 4) (hx : a.eval x = .pointer (some ⟨b, 0, none⟩)) : YieldsIf Try.prog ops S o (.pointer (some ⟨b, 4, none⟩)) a :=
  .inl ⟨by simp [Region.wanted, hg], fun w _ => by unfold execOp; simp only [ho, hx]; go_simp⟩
theorem y_load3 {b j : Nat} {n : Int} {x : Operand} (hg : o.guard = none) (ho : o.op = .load 3 x) (hx : a.eval x = .pointer (some ⟨b, j, none⟩)) (hc : ∀ w, S w → w.cell? ⟨b, j, none⟩ = some (.int .i64 n)) : YieldsIf Try.prog ops S o (.int .i64 n) a :=
  .inl ⟨by simp [Region.wanted, hg], fun w hS => by have h1 := hc w hS; unfold execOp; simp only [ho, hx]; go_simp⟩
theorem y_load54 {b j : Nat} {n : Int} {x : Operand} (hg : o.guard = none) (ho : o.op = .load 54 x) (hx : a.eval x = .pointer (some ⟨b, j, none⟩)) (hc : ∀ w, S w → w.cell? ⟨b, j, none⟩ = some (.int .i64 n)) : YieldsIf Try.prog ops S o (.int .i64 n) a :=
  .inl ⟨by simp [Region.wanted, hg], fun w hS => by have h1 := hc w hS; unfold execOp; simp only [ho, hx]; go_simp⟩
theorem y_add1 {n : Int} {x : Operand} (hg : o.guard = none) (ho : o.op = .binOp .add 3 x (.const (.int .i64 1)) 3) (hx : a.eval x = .int .i64 n) (hn : IntKind.i64.wrap (n + 1) = n + 1) : YieldsIf Try.prog ops S o (.int .i64 (n + 1)) a :=
  .inl ⟨by simp [Region.wanted, hg], fun w hS => by unfold execOp; simp only [ho, hx, BigFrame.eval_const]; go_simp⟩
theorem enter43 (vs : Array Value) (w : World) : Sem.run Try.prog (callFunc 43 vs) w = .ok (.enter 43 vs) w := by
  go_simp
theorem enter42 (vs : Array Value) (w : World) : Sem.run Try.prog (callFunc 42 vs) w = .ok (.enter 42 vs) w := by
  go_simp
/-- A call that comes up. -/
theorem wp_call15 {f : Nat} {xs : Array Operand} {ts : Array TypeId} {K : Act → World → Prop} {Q : Exit → Act → World → Prop} {w : World} {E : Prop} {R : Value → World → Prop} (hg : o.guard = none) (ho : o.op = .call { callee := .value (.func f), args := xs, argTypes := ts }) (hf : ∀ vs w, Sem.run Try.prog (callFunc f vs) w = .ok (.enter f vs) w) (vs : Array Value) (hx : xs.map a.eval = vs)
    (hc : Calls Try.prog f vs w fun e w' => ∃ v, e = .returned v ∧ R v w') (h : ∀ v w', R v w' → K (a.put o.dst v) w') : if Region.wanted o (yielded ops a.tmps) = true then Oper.wp Try.prog o a w K Q else E := by
  rw [if_pos (by simp [Region.wanted, hg])]
  unfold Oper.wp execOp
  simp only [ho]
  simp only [resolve, Sem.run_bind, BigFrame.eval_func, hx]
  have e1 : (Sem.run Try.prog (Deferred.ofValue (Value.func (Fn.func f) #[] #[]) vs) w).andThen (fun a w' => Sem.run Try.prog (invoke a.target a.args) w') = .ok (.enter f vs) w := by
    simp [Deferred.ofValue, invoke, go_sem, hf]
  rw [e1, Oper.upon_enter]
  exact hc.mono fun e w' ⟨v, he, hR⟩ => by subst he; exact h v w' hR
end

/-- A whole struct's load where it is asked for. -/
theorem wpList_load_15 {P : Program} {ops : Array Oper} {rest : List Oper} {op : Oper} {a : Act} {w : World} {Q : Exit → Act → World → Prop} (hw : Region.wanted op (yielded ops a.tmps) = true) (ty : TypeId) (x : Operand) (ho : op.op = .load ty x)
    (b o : Nat) (hx : a.eval x = .pointer (some ⟨b, o, none⟩)) (cs : List Value) (d : TypeDesc) (hc : w.rangeAt b o cs)
    (hu : P.underlying ty = some d) (hd : d.isRow = true) (hi : (P.info? ty).map (·.size) = some cs.length)
    (h : wpList P ops Q rest (a.put op.dst (.agg cs.toArray)) w) : wpList P ops Q (op :: rest) a w :=
  BigFrame.wpList_want hw fun _ hK => wp_load_mid ty x ho b o hx cs d hc hu hd hi (hK _ _ h)
/-- All worlds behind a call that touches nothing that was there (one at least). -/
theorem below_fam1 (w : World) : ∃ (T : Type) (_ : Nonempty T) (gw : T → World), (∀ w', Below w.heap.size w w' → ∃ n, w' = gw n) ∧ ∀ n, Below w.heap.size w (gw n) :=
  ⟨{w' // Below w.heap.size w w'}, ⟨⟨w, Below.refl _ _⟩⟩, Subtype.val, fun w' h => ⟨⟨w', h⟩, rfl⟩, fun n => n.2⟩

/-- A row of steps: kind, worker, key (release and name), error. -/
def StepRow15 (w : World) (a : Option Addr) (len : Nat) (Ks Ws Es : Nat → Int) (Ps : Nat → PK) : Prop :=
  ∀ i, i < len → ∃ b off, a = some ⟨b, off, none⟩ ∧ b < w.heap.size ∧ w.cell? ⟨b, off + i * 5, none⟩ = some (.int .i64 (Ks i)) ∧ w.cell? ⟨b, off + i * 5 + 1, none⟩ = some (.int .i64 (Ws i)) ∧
    w.cell? ⟨b, off + i * 5 + 2, none⟩ = some (.int .i64 (Ps i).1) ∧ w.cell? ⟨b, off + i * 5 + 3, none⟩ = some (.string (Ps i).2) ∧ w.cell? ⟨b, off + i * 5 + 4, none⟩ = some (.int .i64 (Es i)) ∧ KI.ok (Ws i) ∧ KP.ok (Ps i)

abbrev k15 (k : PK) : List Value := [.int .i64 k.1, .string k.2]
abbrev x15 (K W E : Int) (k : PK) : List Value := [.int .i64 K, .int .i64 W, .int .i64 k.1, .string k.2, .int .i64 E]
/-- The rows of cells that a round lays: the step, its key, the reference's key. -/
abbrev rows15 (bx : Nat) (K W E : Int) (k : PK) : List (Nat × List Value) := [(bx + 2, k15 k), (bx + 1, k15 k), (bx, x15 K W E k)]

/-- The frame at the switch. -/
structure AtSw (A : Act) (p q k bx : Nat) (K : Int) : Prop where
  size : A.tmps.size = 235
  defers : A.defers = []
  s6 : C15 A 6 = .pointer (some ⟨p, 0, none⟩)
  s7 : C15 A 7 = .pointer (some ⟨q, 0, none⟩)
  s8 : C15 A 8 = .int .i64 k
  s9 : C15 A 9 = .pointer (some ⟨bx, 0, none⟩)
  s10 : C15 A 10 = .pointer (some ⟨bx + 1, 0, none⟩)
  s11 : C15 A 11 = .pointer (some ⟨bx + 2, 0, none⟩)
  s64 : C15 A 64 = .int .i64 K

/-- What the switch leaves. -/
def SwPost (w0 : World) (p q R k bx : Nat) (K W E : Int) (kk : PK) (A A' : Act) (w' : World) : Prop :=
  (∃ U, A' = frSw (C15 A) U) ∧ ∃ l fl rs, Inv15 R (k + 1) l fl rs ∧ Both w0.heap.size w0 w' p q R l fl rs [(bx, x15 K W E kk)] []

theorem SwPost_from {w0 w' : World} {p q R k bx : Nat} {K W E : Int} {kk : PK} {A B A' : Act} (e : A = B) (h : SwPost w0 p q R k bx K W E kk B A' w') : SwPost w0 p q R k bx K W E kk A A' w' := ⟨fr_from e h.1, h.2⟩

end Go.Proofs.Ytnnaidladcdbdaa
