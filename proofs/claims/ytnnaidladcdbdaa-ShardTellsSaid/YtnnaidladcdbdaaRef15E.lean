/- The reference of chapter 15: keys and values as a list of pairs; Drop. -/
import Derived.Test.YtnnaidladcdbdaaRef15D
namespace Go.Proofs.Ytnnaidladcdbdaa
open Go.RowKit Go.ChangeMaps
open KZ (KK)

/-- Where a key lies: at one place, and what is left without it. -/
theorem place_of15 {κ ν : Type} [DecidableEq κ] {l : List (κ × ν)} {k : κ} (z : ν) (hn : (l.map Prod.fst).Nodup) (hk : k ∈ l.map Prod.fst) :
    ∃ j, l[j]? = some (k, valOf l k z) ∧ (∀ i, i < j → ∀ x, l[i]? = some x → x.1 ≠ k) ∧ l.eraseIdx j = del l k := by
  obtain ⟨j, hj, hje⟩ := List.getElem_of_mem (valOf_mem hk z)
  have hu : ∀ i (hi : i < l.length), l[i].1 = k → i = j := fun i hi h => by
    have h1 : (l.map Prod.fst)[i]'(by simpa using hi) = (l.map Prod.fst)[j]'(by simpa using hj) := by simp [h, hje]
    exact (List.getElem_inj hn).1 h1
  refine ⟨j, by rw [List.getElem?_eq_getElem hj, hje], fun i hij x hx hxk => ?_, ?_⟩
  · obtain ⟨hi, rfl⟩ := List.getElem?_eq_some_iff.1 hx
    have := hu i hi hxk; omega
  · unfold del
    have hs : l = l.take j ++ l[j] :: l.drop (j + 1) := by rw [← List.drop_eq_getElem_cons hj, List.take_append_drop]
    rw [List.eraseIdx_eq_take_drop_succ]
    conv => rhs; rw [hs]
    rw [List.filter_append, List.filter_cons_of_neg (by simp [hje])]
    rw [List.filter_eq_self.2, List.filter_eq_self.2]
    · intro x hx
      obtain ⟨i, hi, rfl⟩ := List.getElem_of_mem hx
      simp only [List.getElem_drop, ne_eq, decide_not, Bool.not_eq_true', decide_eq_false_iff_not]
      intro h; have := hu _ _ h; omega
    · intro x hx
      obtain ⟨i, hi, rfl⟩ := List.getElem_of_mem hx
      simp only [List.getElem_take, ne_eq, decide_not, Bool.not_eq_true', decide_eq_false_iff_not]
      intro h; have := hu _ _ h; simp at hi; omega

/-- The reference, its keys and values as pairs. -/
def RL (w : World) (G : Nat → Prop) (q : Nat) (room : Int) (l : List (PK × Int)) (fs : List FR) (rs : List (Int × Int × Int)) : Prop :=
  ∃ vk vv vf vr, R15 w G q room vk vv vf vr (l.map Prod.fst) (l.map Prod.snd) fs rs

variable {w w' : World} {G : Nat → Prop} {q : Nat} {room : Int} {l : List (PK × Int)} {fs : List FR} {rs : List (Int × Int × Int)}

theorem RL.lt (h : RL w G q room l fs rs) : ∀ b, G b → b < w.heap.size := by obtain ⟨_, _, _, _, h⟩ := h; exact h.lt
theorem RL.own (h : RL w G q room l fs rs) : G q := by obtain ⟨_, _, _, _, h⟩ := h; exact h.gq
theorem RL.kept {F : Nat → Prop} (h : RL w G q room l fs rs) (hc : Ch F w w') (hGF : ∀ b, G b → ¬ F b) : RL w' G q room l fs rs := by
  obtain ⟨_, _, _, _, h⟩ := h; exact ⟨_, _, _, _, h.kept hc hGF⟩
theorem RL.later (h : RL w G q room l fs rs) (hb : Below w.heap.size w w') : RL w' G q room l fs rs := h.kept (Ch.of_none hb (fun _ => False)) (fun _ _ h => h)

theorem rl_find_hit (h : RL w G q room l fs rs) (k : PK) (hn : l.length ≤ 1000) (j : Nat) (x : Int) (hj : l[j]? = some (k, x)) (hne : ∀ i, i < j → ∀ y, l[i]? = some y → y.1 ≠ k) :
    Calls Try.prog 71 #[.pointer (some ⟨q, 0, none⟩), KK k] w fun e w' => e = .returned (.int .i64 j) ∧ Below w.heap.size w w' := by
  obtain ⟨_, _, _, _, h⟩ := h
  have hjl := (List.getElem?_eq_some_iff.1 hj).1
  refine (r15_find h k j (by simpa using hn) (by simp; omega) (fun i hi y hy => ?_) (fun y hy => ?_)).mono fun e w' ⟨he, hb⟩ => ⟨by rw [he, place15_lt (by simpa using hjl)], hb⟩
  · rw [List.getElem?_map] at hy
    obtain ⟨z, hz, rfl⟩ := Option.map_eq_some_iff.1 hy
    exact hne i hi z hz
  · rw [List.getElem?_map, hj] at hy
    simpa using hy.symm
theorem rl_find_miss (h : RL w G q room l fs rs) (k : PK) (hn : l.length ≤ 1000) (hk : has l k = false) :
    Calls Try.prog 71 #[.pointer (some ⟨q, 0, none⟩), KK k] w fun e w' => e = .returned (.int .i64 (-1)) ∧ Below w.heap.size w w' := by
  obtain ⟨_, _, _, _, h⟩ := h
  refine (r15_find h k l.length (by simpa using hn) (by simp) (fun i hi y hy e => ?_) (fun y hy => ?_)).mono fun e w' ⟨he, hb⟩ => ⟨by rw [he, place15_ge (by simp)], hb⟩
  · exact has_false.1 hk (by rw [← e]; exact List.mem_of_getElem? hy)
  · have := (List.getElem?_eq_some_iff.1 hy).1; simp at this

theorem rl_cut {k : Nat} (h : RL w G q room l fs rs) (hk : k < l.length) (hn : l.length ≤ 1000) :
    Calls Try.prog 72 #[.pointer (some ⟨q, 0, none⟩), .int .i64 k] w fun e w' => e = .returned (.tuple #[]) ∧ RL w' (fresh15 G w w') q room (l.eraseIdx k) fs rs ∧ Ch G w w' := by
  obtain ⟨vk, vv, vf, vr, h⟩ := h
  refine (r15_cut h (by simpa using hk) (by simp) (by simpa using hn)).mono fun e w' ⟨he, ⟨vk', vv', h2⟩, hc⟩ => ⟨he, ⟨vk', vv', vf, vr, ?_⟩, hc⟩
  have e1 : (l.eraseIdx k).map Prod.fst = (l.map Prod.fst).eraseIdx k := by rw [List.eraseIdx_eq_take_drop_succ, List.eraseIdx_eq_take_drop_succ]; simp
  have e2 : (l.eraseIdx k).map Prod.snd = (l.map Prod.snd).eraseIdx k := by rw [List.eraseIdx_eq_take_drop_succ, List.eraseIdx_eq_take_drop_succ]; simp
  rw [e1, e2]; exact h2

set_option maxRecDepth 100000 in
set_option maxHeartbeats 1000000 in
theorem rl_drop (h : RL w G q room l fs rs) (k : PK) (hn : l.length ≤ 1000) (hd : (l.map Prod.fst).Nodup) :
    Calls Try.prog 52 #[.pointer (some ⟨q, 0, none⟩), KK k] w fun e w' => e = .returned (.bool (has l k)) ∧ RL w' (fresh15 G w w') q room (del l k) fs rs ∧ Ch G w w' := by
  have hb1 : Below w.heap.size w (w.alloc (.cells #[.int .i64 k.1, .string k.2] 89)) := (Below.refl _ _).alloc (Nat.le_refl _) _
  have hk : ∀ i, (w.alloc (.cells #[.int .i64 k.1, .string k.2] 89)).cell? ⟨w.heap.size, i, none⟩ = #[Value.int .i64 k.1, .string k.2][i]? := fun i => World.cell?_alloc_new _ _ _ _
  have hk0 : (w.alloc (.cells #[.int .i64 k.1, .string k.2] 89)).cell? ⟨w.heap.size, 0, none⟩ = some (.int .i64 k.1) := by rw [hk]; rfl
  have hk1 : (w.alloc (.cells #[.int .i64 k.1, .string k.2] 89)).cell? ⟨w.heap.size, 1, none⟩ = some (.string k.2) := by rw [hk]; rfl
  have h1 := h.later hb1
  have HG := Lib.hid h.lt
  cases hh : has l k with
  | false =>
    have F := Lib.hid (rl_find_miss h1 k hn hh)
    have H1 := Lib.hid h1
    have HD := Lib.hid (del_none (has_false.1 hh))
    clear h h1 hk hd
    go_enter Try.func52, Try.ntmps52
    go_upto_region 1 with fail
    change Code.wp _ _ _ _ (w.alloc (.cells #[.int .i64 k.1, .string k.2] 89))
    revert hb1 hk0 hk1 F H1
    generalize w.alloc (.cells #[.int .i64 k.1, .string k.2] 89) = w1
    intro hb1 hk0 hk1 F H1
    go_wp2_with fail
    refine F.out.mono ?_
    rintro e w2 ⟨rfl, hb2⟩
    go_wp2
    go_ret
    have h2 := H1.out.later hb2
    rw [HD.out]
    have hs1 := hb1.size
    have hs2 := hb2.size
    refine ⟨rfl, ?_, Ch.of_none (hb1.trans (hb2.mono hs1)) G⟩
    obtain ⟨_, _, _, _, h3⟩ := h2
    exact ⟨_, _, _, _, h3.more (fun b hb => Or.inl hb) (fun b hb => hb.elim (fun hb => by have := HG.out b hb; omega) (fun hb => hb.2))⟩
  | true =>
    obtain ⟨j, hj, hne, hdel⟩ := place_of15 (0 : Int) hd (has_iff.1 hh)
    have hjl := (List.getElem?_eq_some_iff.1 hj).1
    have F := Lib.hid (rl_find_hit h1 k hn j _ hj hne)
    have H1 := Lib.hid h1
    have HD := Lib.hid hdel
    have HJ := Lib.hid hjl
    clear h h1 hk hd hj hne hdel hjl
    go_enter Try.func52, Try.ntmps52
    go_upto_region 1 with fail
    change Code.wp _ _ _ _ (w.alloc (.cells #[.int .i64 k.1, .string k.2] 89))
    revert hb1 hk0 hk1 F H1
    generalize w.alloc (.cells #[.int .i64 k.1, .string k.2] 89) = w1
    intro hb1 hk0 hk1 F H1
    go_wp2_with fail
    refine F.out.mono ?_
    rintro e w2 ⟨rfl, hb2⟩
    have h2 := H1.out.later hb2
    have hneg : decide ((j : Int) < 0) = false := decide_eq_false (by omega)
    have C := Lib.hid (rl_cut h2 HJ.out hn)
    clear h2
    go_wp2_with fail
    refine C.out.mono ?_
    rintro e w3 ⟨rfl, h3, hc3⟩
    go_wp2
    go_ret
    rw [HD.out] at h3
    have hs1 := hb1.size
    have hs2 := hb2.size
    have hs3 := hc3.size
    refine ⟨rfl, ?_, (Ch.of_none (hb1.trans (hb2.mono hs1)) G).trans hc3 (fun _ _ h => h)⟩
    obtain ⟨_, _, _, _, h4⟩ := h3
    exact ⟨_, _, _, _, h4.more (fun b hb => hb.imp id (fun hb => ⟨by omega, hb.2⟩)) (fun b hb => hb.elim (fun hb => by have := HG.out b hb; omega) (fun hb => hb.2))⟩

end Go.Proofs.Ytnnaidladcdbdaa
