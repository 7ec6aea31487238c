/- What the shard of chapter 15 and its reference tell, in plain lists: one state in both, and what holds of it behind each step; the reference's contracts in these words. -/
import Derived.Test.YtnnaidladcdbdaaOwn
import Derived.Test.YtnnaidladcdbdaaRef15N
import Derived.Test.YtnnaidladcdbdaaRef15R
namespace Go.Proofs.Ytnnaidladcdbdaa

abbrev TFl := PK × Int × List Int
/-- What the shard tells of what is complete. -/
def dd (l : List (PK × Int)) : List (PK × Option Int) := l.map fun x => (x.1, some x.2)
/-- The reference's results. -/
def rr (rs : List (Int × Option Int × Int)) : List (Int × Int × Int) := rs.map fun x => (x.1, x.2.1.getD 0, x.2.2)
/-- All workers that wait, or have a result. -/
def who (fl : List TFl) (rs : List (Int × Option Int × Int)) : List Int := (fl.flatMap fun x => x.2.2) ++ rs.map Prod.fst

theorem dd_keys (l : List (PK × Int)) : (dd l).map Prod.fst = l.map Prod.fst := by unfold dd; rw [List.map_map]; rfl
theorem dd_length (l : List (PK × Int)) : (dd l).length = l.length := by unfold dd; rw [List.length_map]
theorem rr_length (l : List (Int × Option Int × Int)) : (rr l).length = l.length := by unfold rr; rw [List.length_map]
theorem rr_keys (l : List (Int × Option Int × Int)) : (rr l).map Prod.fst = l.map Prod.fst := by unfold rr; rw [List.map_map]; rfl
theorem dd_append (a b : List (PK × Int)) : dd (a ++ b) = dd a ++ dd b := by unfold dd; rw [List.map_append]
theorem has_dd (l : List (PK × Int)) (k : PK) : has (dd l) k = has l k := by unfold has; rw [dd_keys]
theorem del_dd (l : List (PK × Int)) (k : PK) : del (dd l) k = dd (del l k) := by unfold del dd; rw [List.filter_map]; rfl
theorem use_dd (l : List (PK × Int)) (k : PK) (n : Int) : use (dd l) k (some n) = dd (use l k n) := by unfold use; rw [del_dd, dd_append]; rfl
theorem valOf_dd {l : List (PK × Int)} {k : PK} (hn : (l.map Prod.fst).Nodup) (h : k ∈ l.map Prod.fst) : valOf (dd l) k none = some (valOf l k 0) :=
  valOf_eq (by rw [dd_keys]; exact hn) (List.mem_map_of_mem (f := fun x : PK × Int => (x.1, some x.2)) (valOf_mem h 0))
theorem getS_dd {l : List (PK × Int)} (hn : (l.map Prod.fst).Nodup) (k : PK) : getS (dd l) k none = dd (getS l k 0) := by
  unfold getS
  rw [has_dd]
  cases hh : has l k with
  | true => simp only [if_true]; rw [valOf_dd hn (has_iff.1 hh), use_dd]
  | false => rfl
theorem putS_dd (R : Int) (l : List (PK × Int)) (k : PK) (n : Int) : putS R (dd l) k (some n) = dd (putS R l k n) := by
  unfold putS goes
  rw [has_dd, use_dd, dd_length]
  have e1 : (dd l).tail ++ [(k, some n)] = dd (l.tail ++ [(k, n)]) := by rw [dd_append]; unfold dd; rw [List.map_tail]; rfl
  have e2 : dd l ++ [(k, some n)] = dd (l ++ [(k, n)]) := by rw [dd_append]; rfl
  rw [e1, e2]
  split
  · rfl
  · split <;> rfl
theorem beginZ_dd {l : List (PK × Int)} (hn : (l.map Prod.fst).Nodup) (k : PK) : (beginZ (dd l) k).getD 0 = if has l k then valOf l k 0 else 0 := by
  unfold beginZ
  rw [has_dd]
  cases hh : has l k with
  | true => simp only [if_true]; rw [valOf_dd hn (has_iff.1 hh)]; rfl
  | false => rfl
theorem rr_del (rs : List (Int × Option Int × Int)) (i : Int) : rr (del rs i) = fgR i (rr rs) := by unfold rr fgR del; rw [List.filter_map]; rfl
theorem rr_fill {rs : List (Int × Option Int × Int)} {ws : List Int} (o : Option Int) (e : Int) (h : ∀ x ∈ rs, x.1 ∉ ws) : rr (fillR rs ws (o, e)) = rr rs ++ ws.map fun i => (i, o.getD 0, e) := by
  unfold fillR
  rw [List.filter_eq_self.2 (fun x hx => by simpa using h x hx)]
  unfold rr
  rw [List.map_append, List.map_map]; rfl

/-- A flight's place. -/
theorem split15 : ∀ {fl : List TFl} {k : PK}, (fl.map Prod.fst).Nodup → k ∈ fl.map Prod.fst → ∃ A x C, fl = A ++ x :: C ∧ x.1 = k ∧ (∀ y ∈ A, y.1 ≠ k) ∧ ∀ y ∈ C, y.1 ≠ k
  | [], k, _, h => by simp at h
  | y :: r, k, hn, h => by
    simp only [List.map_cons, List.nodup_cons] at hn
    by_cases e : y.1 = k
    · exact ⟨[], y, r, rfl, e, (fun _ h => by cases h), fun z hz hzk => hn.1 (by rw [e, ← hzk]; exact List.mem_map_of_mem hz)⟩
    · have hk : k ∈ r.map Prod.fst := by
        simp only [List.map_cons, List.mem_cons] at h
        exact h.resolve_left (fun h => e h.symm)
      obtain ⟨A, x, C, hr, hx, hA, hC⟩ := split15 hn.2 hk
      refine ⟨y :: A, x, C, by rw [hr]; rfl, hx, fun z hz => ?_, hC⟩
      rcases List.mem_cons.1 hz with rfl | hz
      · exact e
      · exact hA z hz

theorem del_split15 {A C : List TFl} {x : TFl} {k : PK} (hx : x.1 = k) (hA : ∀ y ∈ A, y.1 ≠ k) (hC : ∀ y ∈ C, y.1 ≠ k) : del (A ++ x :: C) k = A ++ C := by
  unfold del
  rw [List.filter_append, List.filter_cons_of_neg (by simp [hx]), List.filter_eq_self.2 (fun y hy => by simpa using hA y hy), List.filter_eq_self.2 (fun y hy => by simpa using hC y hy)]
theorem wait_split15 {A C : List TFl} {x : TFl} {k : PK} {i : Int} (hx : x.1 = k) (hA : ∀ y ∈ A, y.1 ≠ k) (hC : ∀ y ∈ C, y.1 ≠ k) :
    (A ++ x :: C).map (fun x => if x.1 = k then (x.1, x.2.1, x.2.2 ++ [i]) else x) = A ++ (x.1, x.2.1, x.2.2 ++ [i]) :: C := by
  rw [List.map_append, List.map_cons, if_pos hx]
  congr 1
  · exact (List.map_congr_left (fun y hy => if_neg (hA y hy))).trans (List.map_id _)
  · congr 1
    exact (List.map_congr_left (fun y hy => if_neg (hC y hy))).trans (List.map_id _)

theorem strip_keys (fl : List TFl) (i : Int) : (strip fl i).map Prod.fst = fl.map Prod.fst := by rw [List.map_map]; rfl
theorem strip_who : ∀ (fl : List TFl) (i : Int), ((strip fl i).flatMap fun x => x.2.2) = (fl.flatMap fun x => x.2.2).filter (· ≠ i)
  | [], _ => rfl
  | x :: r, i => by
    have ih := strip_who r i
    unfold strip at ih ⊢
    rw [List.map_cons, List.flatMap_cons, List.flatMap_cons, List.filter_append, ih]
theorem del_who (rs : List (Int × Option Int × Int)) (i : Int) : (del rs i).map Prod.fst = (rs.map Prod.fst).filter (· ≠ i) := by unfold del; rw [List.filter_map]; rfl
theorem who_strip (fl : List TFl) (rs : List (Int × Option Int × Int)) (i : Int) : who (strip fl i) (del rs i) = (who fl rs).filter (· ≠ i) := by
  unfold who; rw [strip_who, del_who, List.filter_append]

/-- What holds behind m steps. -/
structure Inv15 (R m : Nat) (l : List (PK × Int)) (fl : List TFl) (rs : List (Int × Option Int × Int)) : Prop where
  keys : (l.map Prod.fst).Nodup
  len : l.length ≤ R
  fkeys : (fl.map Prod.fst).Nodup
  flen : fl.length ≤ m
  apart : ∀ x ∈ fl, x.1 ∉ l.map Prod.fst
  once : (who fl rs).Nodup
  few : (who fl rs).length ≤ m

variable {R m : Nat} {l : List (PK × Int)} {fl : List TFl} {rs : List (Int × Option Int × Int)}

theorem Inv15.start (R : Nat) : Inv15 R 0 [] [] [] := ⟨by simp, by simp, by simp, by simp, (fun _ h => by cases h), by simp [who], by simp [who]⟩
theorem Inv15.later {n : Nat} (h : Inv15 R m l fl rs) (hn : m ≤ n) : Inv15 R n l fl rs := { h with flen := Nat.le_trans h.flen hn, few := Nat.le_trans h.few hn }

theorem waits_len : ∀ {fl : List TFl} {x : TFl}, x ∈ fl → x.2.2.length ≤ (fl.flatMap fun x => x.2.2).length
  | [], _, h => by cases h
  | y :: r, x, h => by
    rw [List.flatMap_cons, List.length_append]
    rcases List.mem_cons.1 h with rfl | h
    · omega
    · have := waits_len h; omega
theorem Inv15.waits (h : Inv15 R m l fl rs) {x : TFl} (hx : x ∈ fl) : x.2.2.length ≤ m := by
  have h1 := waits_len hx
  have h2 := h.few
  unfold who at h2
  rw [List.length_append] at h2
  omega
theorem Inv15.res (h : Inv15 R m l fl rs) : rs.length ≤ m := by
  have h2 := h.few
  unfold who at h2
  rw [List.length_append, List.length_map] at h2
  omega
theorem Inv15.rkeys (h : Inv15 R m l fl rs) : (rs.map Prod.fst).Nodup := (List.nodup_append.1 h.once).2.1
theorem Inv15.free (h : Inv15 R m l fl rs) {x : TFl} (hx : x ∈ fl) : ∀ y ∈ rs, y.1 ∉ x.2.2 := fun _ hy hw =>
  (List.nodup_append.1 h.once).2.2 _ (List.mem_flatMap.2 ⟨x, hx, hw⟩) _ (List.mem_map_of_mem hy) rfl

theorem del_nodup {κ ν : Type} [DecidableEq κ] {l : List (κ × ν)} (k : κ) (h : (l.map Prod.fst).Nodup) : ((del l k).map Prod.fst).Nodup := h.sublist (List.Sublist.map _ List.filter_sublist)
theorem use_nodup {κ ν : Type} [DecidableEq κ] {l : List (κ × ν)} (k : κ) (v : ν) (h : (l.map Prod.fst).Nodup) : ((use l k v).map Prod.fst).Nodup := by
  unfold use
  rw [List.map_append]
  exact List.nodup_append.2 ⟨del_nodup k h, by simp, fun a ha b hb e => by
    simp only [List.map_cons, List.map_nil, List.mem_singleton] at hb
    exact not_mem_del l k (by rw [e.trans hb] at ha; exact ha)⟩
theorem use_keys_iff {l : List (PK × Int)} {k : PK} {v : Int} (h : k ∈ l.map Prod.fst) (x : PK) : x ∈ (use l k v).map Prod.fst ↔ x ∈ l.map Prod.fst := by
  unfold use del
  rw [List.map_append, List.mem_append]
  simp only [List.mem_map, List.mem_filter, ne_eq, decide_eq_true_eq, List.map_cons, List.map_nil, List.mem_singleton]
  constructor
  · rintro (⟨y, ⟨hy, _⟩, e⟩ | e)
    · exact ⟨y, hy, e⟩
    · subst e; exact List.mem_map.1 h
  · rintro ⟨y, hy, e⟩
    by_cases hk : y.1 = k
    · exact Or.inr (e.symm.trans hk)
    · exact Or.inl ⟨y, ⟨hy, hk⟩, e⟩
theorem del_length15 {κ ν : Type} [DecidableEq κ] {l : List (κ × ν)} {k : κ} (h : k ∈ l.map Prod.fst) : (del l k).length + 1 ≤ l.length := by
  obtain ⟨x, hx, e⟩ := List.mem_map.1 h
  exact List.length_filter_lt_length_iff_exists.2 ⟨x, hx, by simp [e]⟩

theorem Inv15.begin (h : Inv15 R m l fl rs) (k : PK) (i : Int) : Inv15 R (m + 1) (getS l k 0) (beginF (dd l) fl k i) (del rs i) := by
  have hw := who_strip fl rs i
  have hon : (who (strip fl i) (del rs i)).Nodup := by rw [hw]; exact h.once.sublist List.filter_sublist
  have hni : i ∉ who (strip fl i) (del rs i) := by rw [hw]; simp
  have hfe : (who (strip fl i) (del rs i)).length ≤ m := by rw [hw]; exact Nat.le_trans (List.length_filter_le _ _) h.few
  have hsl : (strip fl i).length = fl.length := by simp [strip]
  have hfl := h.flen
  unfold beginF
  rw [has_dd]
  cases hh : has l k with
  | true =>
    have hk := has_iff.1 hh
    rw [if_pos rfl]
    unfold getS
    rw [if_pos hh]
    refine ⟨use_nodup k _ h.keys, ?_, by rw [strip_keys]; exact h.fkeys, by omega, fun x hx hm => ?_, hon, by omega⟩
    · have := del_length15 hk
      have := h.len
      unfold use
      simp only [List.length_append, List.length_cons, List.length_nil]
      omega
    · rw [use_keys_iff hk] at hm
      obtain ⟨y, hy, rfl⟩ := List.mem_map.1 hx
      exact h.apart y hy hm
  | false =>
    have hk := has_false.1 hh
    have hg : getS l k 0 = l := by unfold getS; rw [hh]; rfl
    rw [hg, if_neg (by simp)]
    have hap : ∀ x ∈ strip fl i, x.1 ∉ l.map Prod.fst := fun x hx => by
      obtain ⟨y, hy, rfl⟩ := List.mem_map.1 hx
      exact h.apart y hy
    cases hf : has fl k with
    | true =>
      rw [if_pos rfl]
      obtain ⟨A, x, C, e, hx, hA, hC⟩ := split15 (fl := strip fl i) (k := k) (by rw [strip_keys]; exact h.fkeys) (by rw [strip_keys]; exact has_iff.1 hf)
      have hkn : ((strip fl i).map Prod.fst).Nodup := by rw [strip_keys]; exact h.fkeys
      rw [e] at hon hni hfe hsl hap hkn ⊢
      rw [wait_split15 hx hA hC]
      have hp : (who (A ++ (x.1, x.2.1, x.2.2 ++ [i]) :: C) (del rs i)).Perm (i :: who (A ++ x :: C) (del rs i)) := by
        unfold who
        have hm := List.perm_middle (a := i) (l₁ := (A.flatMap fun x => x.2.2) ++ x.2.2) (l₂ := (C.flatMap fun x => x.2.2) ++ (del rs i).map Prod.fst)
        simpa [List.append_assoc] using hm
      refine ⟨h.keys, h.len, by simpa using hkn, by simp at hsl ⊢; omega, fun y hy => ?_, hp.nodup_iff.2 (List.nodup_cons.2 ⟨hni, hon⟩), by rw [hp.length_eq]; simp only [List.length_cons]; omega⟩
      rcases List.mem_append.1 hy with hy | hy
      · exact hap y (by simp [hy])
      · rcases List.mem_cons.1 hy with rfl | hy
        · exact hap x (by simp)
        · exact hap y (by simp [hy])
    | false =>
      rw [if_neg (by simp)]
      have hw2 : who (strip fl i ++ [(k, i, [])]) (del rs i) = who (strip fl i) (del rs i) := by unfold who; simp
      refine ⟨h.keys, h.len, ?_, by simp only [List.length_append, List.length_cons, List.length_nil]; omega, fun y hy => ?_, by rw [hw2]; exact hon, by rw [hw2]; omega⟩
      · rw [List.map_append, strip_keys]
        refine List.nodup_append.2 ⟨h.fkeys, by simp, fun a ha b hb e => ?_⟩
        simp only [List.map_cons, List.map_nil, List.mem_singleton] at hb
        exact has_false.1 hf (by rw [← hb, ← e]; exact ha)
      · rcases List.mem_append.1 hy with hy | hy
        · exact hap y hy
        · simp only [List.mem_singleton] at hy
          subst hy
          exact hk

theorem Inv15.put (h : Inv15 R m l fl rs) (hR : 1 ≤ R) (k : PK) (n : Int) (hk : k ∉ l.map Prod.fst) : ((putS R l k n).map Prod.fst).Nodup ∧ (putS R l k n).length ≤ R ∧ ∀ x, x ∈ (putS R l k n).map Prod.fst → x = k ∨ x ∈ l.map Prod.fst := by
  have hl := h.len
  unfold putS goes
  rw [has_false.2 hk]
  simp only [Bool.false_eq_true, if_false, Bool.not_false, Bool.true_and, decide_eq_true_eq]
  have one : ∀ a : List (PK × Int), a.Sublist l → ((a ++ [(k, n)]).map Prod.fst).Nodup ∧ ∀ x, x ∈ (a ++ [(k, n)]).map Prod.fst → x = k ∨ x ∈ l.map Prod.fst := fun a ha => by
    rw [List.map_append]
    refine ⟨List.nodup_append.2 ⟨h.keys.sublist (ha.map _), by simp, fun x hx b hb e => ?_⟩, fun x hx => ?_⟩
    · simp only [List.map_cons, List.map_nil, List.mem_singleton] at hb
      exact hk (by rw [← hb, ← e]; exact (ha.map _).subset hx)
    · rcases List.mem_append.1 hx with hx | hx
      · exact Or.inr ((ha.map _).subset hx)
      · simp only [List.map_cons, List.map_nil, List.mem_singleton] at hx
        exact Or.inl hx
  split
  · rename_i hle
    obtain ⟨h1, h2⟩ := one l.tail (List.tail_sublist l)
    exact ⟨h1, by simp only [List.length_append, List.length_tail, List.length_cons, List.length_nil]; omega, h2⟩
  · obtain ⟨h1, h2⟩ := one l (List.Sublist.refl l)
    exact ⟨h1, by simp only [List.length_append, List.length_cons, List.length_nil]; omega, h2⟩

theorem Inv15.finish (h : Inv15 R m l fl rs) (hR : 1 ≤ R) {k : PK} {i : Int} {ws : List Int} (hf : (k, i, ws) ∈ fl) (n : Int) (b : Bool) (a : Option Int × Int) : Inv15 R m (if b then putS R l k n else l) (del fl k) (fillR rs ws a) := by
  have hkf : k ∈ fl.map Prod.fst := List.mem_map_of_mem (f := Prod.fst) hf
  obtain ⟨A, x, C, e, hx, hA, hC⟩ := split15 h.fkeys hkf
  have hxe : x = (k, i, ws) := by
    rw [e] at hf
    rcases List.mem_append.1 hf with hf | hf
    · exact absurd rfl (hA _ hf)
    · rcases List.mem_cons.1 hf with hf | hf
      · exact hf.symm
      · exact absurd rfl (hC _ hf)
  have hfree := h.free hf
  have hfill : fillR rs ws a = rs ++ ws.map fun i => (i, a) := by
    unfold fillR
    rw [List.filter_eq_self.2 (fun y hy => by simpa using hfree y hy)]
  have hkl : k ∉ l.map Prod.fst := h.apart _ hf
  have hdel : del fl k = A ++ C := by rw [e]; exact del_split15 hx hA hC
  have hp : (who (del fl k) (fillR rs ws a)).Perm (who fl rs) := by
    rw [hdel, hfill, e, hxe]
    unfold who
    simp only [List.flatMap_append, List.flatMap_cons, List.map_append, List.map_map, List.append_assoc]
    have hm : ws.map (Prod.fst ∘ fun i => (i, a)) = ws := (List.map_congr_left (g := id) (fun _ _ => rfl)).trans (List.map_id _)
    rw [hm]
    refine List.Perm.append_left _ ?_
    rw [← List.append_assoc]
    exact List.perm_append_comm
  have hap : ∀ y ∈ del fl k, y.1 ≠ k ∧ y.1 ∉ l.map Prod.fst := fun y hy => by
    obtain ⟨h1, h2⟩ := List.mem_filter.1 hy
    exact ⟨by simpa using h2, h.apart y h1⟩
  obtain ⟨p1, p2, p3⟩ := h.put hR k n hkl
  refine ⟨?_, ?_, del_nodup k h.fkeys, Nat.le_trans (List.length_filter_le _ _) h.flen, fun y hy => ?_, hp.nodup_iff.2 h.once, by rw [hp.length_eq]; exact h.few⟩
  · cases b with
    | true => exact p1
    | false => exact h.keys
  · cases b with
    | true => exact p2
    | false => exact h.len
  · cases b with
    | true => exact fun hm => (p3 _ hm).elim (hap y hy).1 (hap y hy).2
    | false => exact (hap y hy).2

theorem Inv15.result (h : Inv15 R m l fl rs) (i : Int) : Inv15 R m l fl (del rs i) := by
  have hs : (who fl (del rs i)).Sublist (who fl rs) := by
    unfold who
    rw [del_who]
    exact List.Sublist.append_left List.filter_sublist _
  exact ⟨h.keys, h.len, h.fkeys, h.flen, h.apart, h.once.sublist hs, Nat.le_trans hs.length_le h.few⟩
theorem Inv15.cut {l' : List (PK × Int)} (h : Inv15 R m l fl rs) (hs : l'.Sublist l) : Inv15 R m l' fl rs :=
  ⟨h.keys.sublist (hs.map _), Nat.le_trans hs.length_le h.len, h.fkeys, h.flen, fun x hx hm => h.apart x hx ((hs.map _).subset hm), h.once, h.few⟩

end Go.Proofs.Ytnnaidladcdbdaa

namespace Go.Proofs.Ytnnaidladcdbdaa
open Go.RowKit Go.ChangeMaps
open KZ (KK)

variable {w w' : World} {G : Nat → Prop} {q R m : Nat} {l : List (PK × Int)} {fl : List TFl} {rs : List (Int × Option Int × Int)}

theorem TL.lt {room : Int} {tl : List TFl} {rs : List (Int × Int × Int)} (h : TL w G q room l tl rs) : ∀ b, G b → b < w.heap.size := by obtain ⟨_, _, h⟩ := h; exact h.lt
theorem TL.kept {room : Int} {tl : List TFl} {rs : List (Int × Int × Int)} {F : Nat → Prop} (h : TL w G q room l tl rs) (hc : Ch F w w') (hGF : ∀ b, G b → ¬ F b) : TL w' G q room l tl rs := by
  obtain ⟨fs, hfs, h⟩ := h; exact ⟨fs, hfs, h.kept hc hGF⟩
theorem TLs.same {room : Int} {tl : List TFl} {rs : List (Int × Int × Int)} (h : TL w G q room l tl rs) (hb : Below w.heap.size w w') : TLs w G q room l tl rs w' := by
  obtain ⟨fs, hfs, _, _, _, _, h⟩ := h
  have h2 := h.kept (Ch.of_none hb (fun _ => False)) (fun _ _ h => h)
  have hs := hb.size
  exact ⟨⟨fs, hfs, _, _, _, _, h2.more (fun b hb => Or.inl hb) (fun b hb => hb.elim (fun hb => by have := h.lt b hb; omega) (fun hb => hb.2))⟩, Ch.of_none hb G⟩

/-- A flight's place in the row. -/
theorem place_fl {k : PK} (hd : (fl.map Prod.fst).Nodup) (hk : k ∈ fl.map Prod.fst) :
    ∃ (j : Nat) (lead : Int) (ws : List Int), fl[j]? = some (k, lead, ws) ∧ (∀ i, i < j → ∀ y, fl[i]? = some y → y.1 ≠ k) ∧ fl.eraseIdx j = del fl k ∧
      ∀ i : Int, (strip fl i).map (fun x => if x.1 = k then (x.1, x.2.1, x.2.2 ++ [i]) else x) = (fgT i fl).set j (k, lead, ws.filter (· ≠ i) ++ [i]) := by
  obtain ⟨A, x, C, e, hx, hA, hC⟩ := split15 hd hk
  obtain ⟨xk, xl, xw⟩ := x
  simp only at hx
  subst hx
  refine ⟨A.length, xl, xw, by rw [e]; simp, fun i hi y hy => ?_, ?_, fun i => ?_⟩
  · rw [e, List.getElem?_append_left hi] at hy
    exact hA y (List.mem_of_getElem? hy)
  · rw [e, del_split15 rfl hA hC, List.eraseIdx_append_of_length_le (Nat.le_refl _)]; simp
  · have es : strip fl i = strip A i ++ (xk, xl, xw.filter (· ≠ i)) :: strip C i := by rw [e]; simp [strip]
    have hA' : ∀ y ∈ strip A i, y.1 ≠ xk := fun y hy => by obtain ⟨z, hz, rfl⟩ := List.mem_map.1 hy; exact hA z hz
    have hC' : ∀ y ∈ strip C i, y.1 ≠ xk := fun y hy => by obtain ⟨z, hz, rfl⟩ := List.mem_map.1 hy; exact hC z hz
    have et : fgT i fl = strip fl i := rfl
    rw [et, es, wait_split15 (k := xk) rfl hA' hC', List.set_append_right _ _ (by simp [strip])]
    simp [strip]

theorem tl_begin (h : TL w G q R l fl (rr rs)) (inv : Inv15 R m l fl rs) (hm : m ≤ 1000) (hR : R ≤ 1000) (i : Int) (k : PK) :
    Calls Try.prog 48 #[.pointer (some ⟨q, 0, none⟩), .int .i64 i, KK k] w fun e w' => e = .returned (.tuple #[.int .i64 ((beginZ (dd l) k).getD 0), .int .i64 (beginHow (dd l) fl k)]) ∧
      TLs w G q R (getS l k 0) (beginF (dd l) fl k i) (rr (del rs i)) w' := by
  have hl := inv.len
  have hf := inv.flen
  have hw : ∀ x ∈ fl, x.2.2.length ≤ 1000 := fun x hx => by have := inv.waits hx; omega
  have hr : (rr rs).length ≤ 10000 := by rw [rr_length]; have := inv.res; omega
  rw [beginZ_dd inv.keys, rr_del]
  unfold beginHow beginF getS
  rw [has_dd]
  cases hh : has l k with
  | true =>
    obtain ⟨j, hj, hne, he⟩ := place_of15 (0 : Int) inv.keys (has_iff.1 hh)
    have := begin_hit h i k (valOf l k 0) j (by omega) (by omega) hw hr hj hne
    rw [he] at this
    exact this
  | false =>
    cases hf : has fl k with
    | true =>
      obtain ⟨j, lead, ws, hj, hne, -, he⟩ := place_fl inv.fkeys (has_iff.1 hf)
      have := begin_wait15 h i k lead ws j (by omega) (by omega) hw hr hh hj hne
      rw [← he i] at this
      exact this
    | false =>
      exact begin_lead15 h i k (by omega) (by omega) hw hr hh (fun y hy e => has_false.1 hf (by rw [← e]; exact List.mem_map_of_mem (f := Prod.fst) hy))

theorem tl_end_no (h : TL w G q R l fl (rr rs)) (inv : Inv15 R m l fl rs) (hm : m ≤ 1000) (i : Int) (k : PK) (z e : Int) (hno : ∀ x ∈ fl, x.1 = k → x.2.1 ≠ i) :
    Calls Try.prog 49 #[.pointer (some ⟨q, 0, none⟩), .int .i64 i, KK k, .int .i64 z, .int .i64 e] w fun x w' => x = .returned (.int .i64 10) ∧ TLs w G q R l fl (rr rs) w' := by
  have hf := inv.flen
  exact (end_no15 h i k z e (by omega) hno inv.fkeys).mono fun x w' ⟨he, hb⟩ => ⟨he, TLs.same h hb⟩

theorem tl_end_yes (h : TL w G q R l fl (rr rs)) (inv : Inv15 R m l fl rs) (hm : m ≤ 1000) (hR : R ≤ 1000) (hR1 : 1 ≤ R) (i : Int) (k : PK) (z e : Int) (ws : List Int) (hin : (k, i, ws) ∈ fl) :
    Calls Try.prog 49 #[.pointer (some ⟨q, 0, none⟩), .int .i64 i, KK k, .int .i64 z, .int .i64 e] w fun x w' => x = .returned (.int .i64 0) ∧
      TLs w G q R (if e = 0 then putS R l k z else l) (del fl k) (rr (fillR rs ws (if e = 0 then some z else none, e))) w' := by
  have hl := inv.len
  have hfl := inv.flen
  obtain ⟨j, lead, ws', hj, hne, he, -⟩ := place_fl inv.fkeys (List.mem_map_of_mem (f := Prod.fst) hin)
  have hu : lead = i ∧ ws' = ws := by
    obtain ⟨j2, hj2, e2⟩ := List.getElem_of_mem hin
    have h6 : (fl.map Prod.fst)[j2]? = some k := by rw [List.getElem?_map, List.getElem?_eq_getElem hj2, e2]; rfl
    have h7 : (fl.map Prod.fst)[j]? = some k := by rw [List.getElem?_map, hj]; rfl
    have := (List.getElem?_inj (by rw [List.length_map]; exact hj2) inv.fkeys).1 (h6.trans h7.symm)
    subst this
    rw [List.getElem?_eq_getElem hj2, e2] at hj
    simp only [Option.some.injEq, Prod.mk.injEq, true_and] at hj
    exact ⟨hj.1.symm, hj.2.symm⟩
  obtain ⟨rfl, rfl⟩ := hu
  have hwl := inv.waits hin
  have hr : (rr rs).length ≤ 5000 := by rw [rr_length]; have := inv.res; omega
  have e1 : endL R l k z e = if e = 0 then putS R l k z else l := by
    unfold endL
    split
    · have hk : has l k = false := has_false.2 (inv.apart _ hin)
      unfold putS goes
      rw [hk]
      simp only [Bool.false_eq_true, if_false, Bool.not_false, Bool.true_and, decide_eq_true_eq]
      by_cases hf : (l.length : Int) = R
      · rw [if_pos hf, if_pos (by omega)]
        cases l with
        | nil => simp at hf; omega
        | cons x r => rfl
      · rw [if_neg hf, if_neg (by omega)]
    · rfl
  have e2 : rr (fillR rs ws' (if e = 0 then some z else none, e)) = rr rs ++ ws'.map fun j => (j, (if e = 0 then z else 0), e) := by
    rw [rr_fill _ _ (inv.free hin)]
    congr 2
    funext j
    split <;> rfl
  rw [e2, ← he]
  exact end_yes15 h lead k z e ws' j (by omega) (by omega) (by simp only at hwl; omega) hr (by omega) hj hne _ _ rfl e1

theorem tl_result (h : TL w G q R l fl (rr rs)) (inv : Inv15 R m l fl rs) (hm : m ≤ 1000) (i : Int) :
    Calls Try.prog 50 #[.pointer (some ⟨q, 0, none⟩), .int .i64 i] w fun e w' => e = .returned (.tuple #[.int .i64 ((valOf rs i (none, 0)).1.getD 0), .int .i64 (valOf rs i (none, 0)).2, .bool (has rs i)]) ∧ TLs w G q R l fl (rr (del rs i)) w' := by
  have hr : (rr rs).length ≤ 10000 := by rw [rr_length]; have := inv.res; omega
  cases hh : has rs i with
  | true =>
    obtain ⟨j, hj, hne, he⟩ := place_of15 ((none, 0) : Option Int × Int) inv.rkeys (has_iff.1 hh)
    obtain ⟨fs, hfs, h⟩ := h
    have hj' : (rr rs)[j]? = some (i, (valOf rs i (none, 0)).1.getD 0, (valOf rs i (none, 0)).2) := by unfold rr; rw [List.getElem?_map, hj]; rfl
    have e1 : (rr rs).eraseIdx j = rr (del rs i) := by
      rw [← he]; unfold rr
      rw [List.eraseIdx_eq_take_drop_succ, List.eraseIdx_eq_take_drop_succ]; simp
    refine (rl_result_hit h i hr j _ hj' rfl (fun a ha y hy => ?_)).mono fun x w' ⟨hx, h2, hc⟩ => ⟨hx, ⟨fs, hfs, by rw [← e1]; exact h2⟩, hc⟩
    unfold rr at hy
    rw [List.getElem?_map] at hy
    obtain ⟨z, hz, rfl⟩ := Option.map_eq_some_iff.1 hy
    exact hne a ha z hz
  | false =>
    have hno := has_false.1 hh
    rw [del_none hno, valOf_none hno]
    obtain ⟨fs, hfs, h2⟩ := h
    refine (rl_result_miss h2 i hr (fun y hy e => hno ?_)).mono fun x w' ⟨hx, hb⟩ => ⟨hx, TLs.same ⟨fs, hfs, h2⟩ hb⟩
    rw [← rr_keys, ← e]
    exact List.mem_map_of_mem hy

theorem tl_drop (h : TL w G q R l fl (rr rs)) (inv : Inv15 R m l fl rs) (hR : R ≤ 1000) (k : PK) :
    Calls Try.prog 52 #[.pointer (some ⟨q, 0, none⟩), KK k] w fun e w' => e = .returned (.bool (has l k)) ∧ TLs w G q R (del l k) fl (rr rs) w' := by
  have hl := inv.len
  obtain ⟨fs, hfs, h⟩ := h
  exact (rl_drop h k (by omega) inv.keys).mono fun x w' ⟨hx, h2, hc⟩ => ⟨hx, ⟨fs, hfs, h2⟩, hc⟩

theorem tl_purge (h : TL w G q R l fl (rr rs)) (inv : Inv15 R m l fl rs) (hR : R ≤ 1000) (rel : Int) :
    Calls Try.prog 53 #[.pointer (some ⟨q, 0, none⟩), .int .i64 rel] w fun e w' => e = .returned (.int .i64 ((l.filter fun x => decide (x.1.1 = rel)).length : Nat)) ∧ TLs w G q R (l.filter fun x => decide (x.1.1 ≠ rel)) fl (rr rs) w' := by
  have hl := inv.len
  obtain ⟨fs, hfs, h⟩ := h
  exact (rl_purge h rel (by omega)).mono fun x w' ⟨hx, h2, hc⟩ => ⟨hx, ⟨fs, hfs, h2⟩, hc⟩

theorem tl_ready (h : TL w G q R l fl (rr rs)) (inv : Inv15 R m l fl rs) (hm : m ≤ 1000) (i : Int) :
    Calls Try.prog 54 #[.pointer (some ⟨q, 0, none⟩), .int .i64 i] w fun e w' => e = .returned (.bool (has rs i)) ∧ w = w' := by
  have hr : (rr rs).length ≤ 10000 := by rw [rr_length]; have := inv.res; omega
  obtain ⟨fs, hfs, _, _, _, _, h⟩ := h
  refine (r15_ready h i hr).mono fun x w' ⟨hx, hw⟩ => ⟨?_, hw⟩
  rw [hx, rr_keys]; rfl

/-- What a caller reads of it. -/
theorem TL.rows {room : Int} {tl : List TFl} {rs : List (Int × Int × Int)} (h : TL w G q room l tl rs) : ∃ ak ck af cf, w.cell? ⟨q, 1, none⟩ = some (.slice ak l.length ck) ∧ w.cell? ⟨q, 3, none⟩ = some (.slice af tl.length cf) ∧ q < w.heap.size ∧
    ∀ j x, l[j]? = some x → ∃ g, ak = some ⟨g, 0, none⟩ ∧ w.cell? ⟨g, j * 2, none⟩ = some (.int .i64 x.1.1) ∧ w.cell? ⟨g, j * 2 + 1, none⟩ = some (.string x.1.2) := by
  obtain ⟨fs, hfs, vk, vv, vf, vr, h⟩ := h
  obtain ⟨ak, ck, ek, hk⟩ := own_shape3 (h.rows.1 (krowV vk (l.map Prod.fst)) (by simp)).1
  obtain ⟨af, cf, ef, -⟩ := own_shape3 (h.rows.1 (frowV vf fs) (by simp)).1
  have ek' : vk = .slice ak (l.map Prod.fst).length ck := ek
  have ef' : vf = .slice af fs.length cf := ef
  have hl : fs.length = tl.length := by have := congrArg List.length hfs; simpa using this
  rw [List.length_map] at ek'
  rw [hl] at ef'
  refine ⟨ak, ck, af, cf, by rw [← ek']; exact h.c1, by rw [← ef']; exact h.c3, h.lt q h.gq, fun j x hx => ?_⟩
  have hj := (List.getElem?_eq_some_iff.1 hx).1
  obtain ⟨g, hg, hgc⟩ := hk (by simp only; rw [List.length_map]; omega)
  obtain ⟨h1, h2⟩ := KZ.krow_at (l.map Prod.fst) j x.1 (by rw [List.getElem?_map, hx]; rfl)
  exact ⟨g, hg, (hgc (j * 2) (by simp only; rw [List.length_map]; omega)).trans h1, (hgc (j * 2 + 1) (by simp only; rw [List.length_map]; omega)).trans h2⟩

end Go.Proofs.Ytnnaidladcdbdaa
