/- What is shown in any case of a list (chapter 14): the call answers true, and nothing that was there turns. -/
import Derived.Test.YtnnaidladcdbdaaSI
namespace Go.Proofs.Ytnnaidladcdbdaa
open Go.RowKit Go.ChangeMaps

/-- What a list's blocks are, since block B was the first new one: nothing below B has turned, and nothing of the list lies there. -/
structure Since (B : Nat) (w0 w : World) (F : Nat → Prop) : Prop where
  below : Below B w0 w
  own : ∀ b, F b → B ≤ b
  size : B ≤ w.heap.size

theorem Since.ch {B : Nat} {w0 w w' : World} {F : Nat → Prop} (h : Since B w0 w F) (hc : Ch F w w') : Since B w0 w' F :=
  ⟨h.below.trans (hc.below h.size (fun b hb hF => by have := h.own b hF; omega)), h.own, Nat.le_trans h.size hc.size⟩

theorem Since.grow {B : Nat} {w0 w w' : World} {F : Nat → Prop} {n : Nat} (h : Since B w0 w F) (hc : Ch F w w') (hn : w.heap.size ≤ n) : Since B w0 w' (grow F n) :=
  ⟨(h.ch hc).below, fun b hb => by rcases hb with hb | rfl; exact h.own b hb; exact Nat.le_trans h.size hn, (h.ch hc).size⟩

theorem Since.new {w w' : World} (hb : Below w.heap.size w w') : Since w.heap.size w w' (fun b => b = w.heap.size ∨ b = w.heap.size + 1) := ⟨hb, fun b h => by rcases h with h | h <;> omega, hb.size⟩

theorem Since.later {B : Nat} {w0 w w' : World} {F : Nat → Prop} (h : Since B w0 w F) (hb : Below w.heap.size w w') : Since B w0 w' F :=
  ⟨h.below.trans (hb.mono h.size), h.own, Nat.le_trans h.size hb.size⟩

abbrev sa : ByteArray := ⟨#[97]⟩
abbrev sb : ByteArray := ⟨#[98]⟩
abbrev sc : ByteArray := ⟨#[99]⟩
theorem nab : sa ≠ sb := by decide
theorem nac : sa ≠ sc := by decide
theorem nbc : sb ≠ sc := by decide
theorem ok1 (c : UInt8) : KS.ok ⟨#[c]⟩ := by show (1 : Nat) ≤ maxLen; unfold maxLen; omega

set_option maxRecDepth 100000 in
set_option maxHeartbeats 1000000 in
theorem shown14 (w : World) : Calls Try.prog 15 #[] w fun e w' => e = .returned (.bool true) ∧ Below w.heap.size w w' := by
  go_enter Try.func15, Try.ntmps15
  go_wp2_with fail
  refine (SI.new_ge 2 w (by omega)).mono ?_
  rintro e w1 ⟨rfl, h1, hb1⟩
  have S1 := Since.new hb1
  go_wp2_with fail
  refine (SI.put_new (k := sa) (v := 1) h1 (by simp) (ok1 97) (by simp)).mono ?_
  rintro e w2 ⟨rfl, n2, hn2, h2, hc2⟩
  have S2 := S1.grow hc2 hn2
  go_wp2_with fail
  refine (SI.put_new (k := sb) (v := 2) h2 (by simp [nab.symm]) (ok1 98) (by simp)).mono ?_
  rintro e w3 ⟨rfl, n3, hn3, h3, hc3⟩
  have S3 := S2.grow hc3 hn3
  go_wp2_with fail
  refine (SI.get_hit (k := sa) (v := 1) h3 (by simp)).mono ?_
  rintro e w4 ⟨rfl, h4, hc4⟩
  have S4 := S3.ch hc4
  have e4 : use ([] ++ [(sa, (1 : Int))] ++ [(sb, 2)]) sa 1 = [(sb, 2), (sa, 1)] := by simp [use, del, nab.symm]
  rw [e4] at h4
  go_wp2_with fail
  refine (SI.put_full (k := sc) (v := 3) h4 (by simp [nbc.symm, nac.symm]) (ok1 99) (by simp)).mono ?_
  rintro e w5 ⟨rfl, n5, hn5, h5, hc5⟩
  have S5 := S4.grow hc5 hn5
  go_wp2_with fail
  refine (SI.get_miss (k := sb) h5 (by simp [nab.symm]) (ok1 98)).mono ?_
  rintro e w6 ⟨rfl, rfl⟩
  go_wp2_with fail
  refine (SI.len_c h5).mono ?_
  rintro e w6 ⟨rfl, rfl⟩
  go_wp2_with fail
  refine (SI.drop_hit (k := sa) (v := 1) h5 (by simp)).mono ?_
  rintro e w6 ⟨rfl, h6, hc6⟩
  have S6 := S5.ch hc6
  have e6 : del ([(sa, (1 : Int))] ++ [(sc, 3)]) sa = [(sc, 3)] := by simp [del, nac.symm]
  rw [e6] at h6
  go_wp2_with fail
  refine (SI.drop_miss (k := sa) h6 (by simp) (ok1 97)).mono ?_
  rintro e w7 ⟨rfl, rfl⟩
  go_wp2_with fail
  refine (SI.keys_c h6 (by simp)).mono ?_
  rintro e w7 ⟨rfl, hk, hb7⟩
  have S7 := S6.later hb7
  go_wp2
  go_ret
  exact ⟨rfl, S7.below⟩

end Go.Proofs.Ytnnaidladcdbdaa
