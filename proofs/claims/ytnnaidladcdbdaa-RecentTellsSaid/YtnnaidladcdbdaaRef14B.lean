/- The contracts of the reference of chapter 14, the calls: New, find, Get, Put, Drop. -/
import Derived.Test.YtnnaidladcdbdaaRef14
namespace Go.Proofs.Ytnnaidladcdbdaa
open Go.RowKit Go.ChangeMaps

theorem r14_find {w : World} {G : Nat → Prop} {q : Nat} {room : Int} {l : List (ByteArray × Int)} {k : ByteArray} {j : Nat} (h : R14 w G q room l) (hn : l.length ≤ 1000)
    (hj : j ≤ l.length) (hne : ∀ i, i < j → ∀ x, l[i]? = some x → x.1 ≠ k) (hat : ∀ x, l[j]? = some x → x.1 = k) :
    Calls Try.prog 57 #[.pointer (some ⟨q, 0, none⟩), .string k] w fun e w' => e = .returned (.int .i64 (placeOf j l.length)) ∧ w = w' := by
  obtain ⟨vk, vv, c0, c1, c2, o1, o2, fz, gq, gk, gv, gkv, hlt⟩ := h
  obtain ⟨ao, cap, rfl, hc⟩ := owned_shape o1
  exact r14_find_a q l.length cap ao l k j w c1 hc rfl hn hj hne hat

set_option maxHeartbeats 400000 in
theorem r14_new_gt (room : Int) (w : World) (h : 1 < room) :
    Calls Try.prog 17 #[.int .i64 room] w fun e w' => e = .returned (.pointer (some ⟨w.heap.size, 0, none⟩)) ∧ w' = w.alloc (.cells #[.int .i64 room, .slice none 0 0, .slice none 0 0] 40) := by
  go_enter Try.func17, Try.ntmps17
  go_wp2
  go_ret
  exact ⟨rfl, rfl⟩

set_option maxHeartbeats 400000 in
theorem r14_new_lt (room : Int) (w : World) (h : room ≤ 1) :
    Calls Try.prog 17 #[.int .i64 room] w fun e w' => e = .returned (.pointer (some ⟨w.heap.size, 0, none⟩)) ∧ w' = w.alloc (.cells #[.int .i64 1, .slice none 0 0, .slice none 0 0] 40) := by
  go_enter Try.func17, Try.ntmps17
  go_wp2
  go_ret
  exact ⟨rfl, rfl⟩

theorem r14_made (w : World) (room : Int) : R14 (w.alloc (.cells #[.int .i64 room, .slice none 0 0, .slice none 0 0] 40)) (fun b => b = w.heap.size) w.heap.size room [] := by
  have hc : ∀ i, (w.alloc (.cells #[.int .i64 room, .slice none 0 0, .slice none 0 0] 40)).cell? ⟨w.heap.size, i, none⟩ = #[Value.int .i64 room, .slice none 0 0, .slice none 0 0][i]? := fun i => World.cell?_alloc_new _ _ _ _
  refine ⟨.slice none 0 0, .slice none 0 0, by rw [hc]; rfl, by rw [hc]; rfl, by rw [hc]; rfl, ⟨rfl, Or.inl ⟨rfl, rfl⟩⟩, ⟨rfl, Or.inl ⟨rfl, rfl⟩⟩, fun o => World.frozen?_alloc_new _ _ _ _, rfl, ?_, ?_, ?_, ?_⟩
  · intro b hb; cases hb
  · intro b hb; cases hb
  · intro b hb; cases hb
  · intro b hb; rw [World.size_alloc]; omega

theorem r14_new (room : Int) (w : World) :
    Calls Try.prog 17 #[.int .i64 room] w fun e w' => e = .returned (.pointer (some ⟨w.heap.size, 0, none⟩)) ∧ R14 w' (fun b => b = w.heap.size) w.heap.size (max 1 room) [] ∧ Below w.heap.size w w' := by
  by_cases h : 1 < room
  · rw [Int.max_eq_right (by omega)]
    refine (r14_new_gt room w h).mono fun e w' ⟨he, hw⟩ => ?_
    subst hw
    exact ⟨he, r14_made w room, (Below.refl _ _).alloc (Nat.le_refl _) _⟩
  · rw [Int.max_eq_left (by omega)]
    refine (r14_new_lt room w (by omega)).mono fun e w' ⟨he, hw⟩ => ?_
    subst hw
    exact ⟨he, r14_made w 1, (Below.refl _ _).alloc (Nat.le_refl _) _⟩

theorem push_end {G : Nat → Prop} {w w1 w2 w3 : World} {a b : Addr} {u v : Value} (h1 : Ch G w w1) (h2 : Ch (fresh G w w1) w1 (w2.setCell a u)) (h3 : Ch (fresh (fresh G w w1) w1 w2) (w2.setCell a u) (w3.setCell b v)) :
    (∀ x, fresh (fresh (fresh G w w1) w1 w2) (w2.setCell a u) w3 x → fresh G w (w3.setCell b v) x) ∧ Ch G w (w3.setCell b v) := by
  have s1 := h1.size
  have s2 := h2.size
  have s3 := h3.size
  rw [World.size_setCell] at s2 s3
  rw [World.size_setCell] at s3
  refine ⟨fun x hx => ?_, (h1.trans h2 ?_).trans h3 ?_⟩
  · simp only [fresh, World.size_setCell] at hx ⊢
    rcases hx with (((h | h) | h) | h)
    · exact Or.inl h
    · exact Or.inr ⟨h.1, by omega⟩
    · exact Or.inr ⟨by omega, by omega⟩
    · exact Or.inr ⟨by omega, h.2⟩
  · intro x hx hf
    rcases hf with h | h
    · exact h
    · omega
  · intro x hx hf
    rcases hf with ((h | h) | h)
    · exact h
    · omega
    · omega

theorem RR.here {w : World} {G : Nat → Prop} {q : Nat} {room : Int} {ks : List ByteArray} {vs : List Int} (h : RR w G q room ks vs) (n : Nat) : RR (w.drewN n) (fresh G w (w.drewN n)) q room ks vs := by
  obtain ⟨vk, vv, c0, c1, c2, o1, o2, fz, gq, gk, gv, gkv, hlt⟩ := h
  refine ⟨vk, vv, c0, c1, c2, o1, o2, fz, Or.inl gq, fun b hb => ⟨Or.inl (gk b hb).1, (gk b hb).2⟩, fun b hb => ⟨Or.inl (gv b hb).1, (gv b hb).2⟩, gkv, fun b hb => ?_⟩
  rcases hb with h | h
  · exact hlt b h
  · exact h.2

set_option maxRecDepth 100000 in
set_option maxHeartbeats 2000000 in
theorem r14_get_hit {w : World} {G : Nat → Prop} {q : Nat} {room : Int} {l : List (ByteArray × Int)} {k : ByteArray} {v : Int} {j : Nat} (h : R14 w G q room l) (hn : l.length ≤ 1000)
    (hj : l[j]? = some (k, v)) (hne : ∀ i, i < j → ∀ x, l[i]? = some x → x.1 ≠ k) :
    Calls Try.prog 19 #[.pointer (some ⟨q, 0, none⟩), .string k] w fun e w' => e = .returned (.tuple #[.int .i64 v, .bool true]) ∧ ∃ G', R14 w' G' q room (l.eraseIdx j ++ [(k, v)]) ∧ (∀ b, G' b → fresh G w w' b) ∧ Ch G w w' := by
  have hjl : j < l.length := (List.getElem?_eq_some_iff.1 hj).1
  have hf := r14_find h hn (Nat.le_of_lt hjl) hne (fun x hx => by rw [hj] at hx; cases hx; rfl)
  rw [placeOf_lt hjl] at hf
  have hcut := r14_cut h hjl hn
  obtain ⟨vk, vv, c0, c1, c2, o1, o2, fz, gq, gk, gv, gkv, hlt⟩ := id h
  obtain ⟨gv', cv, rfl, _, _⟩ := o2.form (by omega)
  have cj : w.cell? ⟨gv', j, none⟩ = some (.int .i64 v) := by rw [o2.cellAt j (by omega), List.getElem?_map, hj]; rfl
  obtain ⟨N, hN⟩ : ∃ N, N = l.length := ⟨_, rfl⟩
  rw [← hN] at hjl c2
  obtain ⟨i0, hi, hz0, hz1, hz2⟩ := info_parts infoS
  obtain ⟨j0, hi', hz0', hz1', hz2'⟩ := info_parts infoI
  have HCUT := Lib.hid hcut
  have HF := Lib.hid hf
  have hlen : ((l.eraseIdx j).map Prod.fst).length ≤ 1000 := by rw [List.length_map]; exact Nat.le_trans (List.length_eraseIdx_le _ _) hn
  have hlen' : ((l.eraseIdx j).map Prod.snd).length ≤ 1000 := by rw [List.length_map]; exact Nat.le_trans (List.length_eraseIdx_le _ _) hn
  clear h hn hj hne c0 c1 o1 o2 fz gq gk gv gkv hlt hN hcut hf
  go_enter Try.func19, Try.ntmps19
  go_wp2_with fail
  refine HF.out.mono ?_
  rintro e w1 ⟨rfl, rfl⟩
  go_wp2_with fail
  refine HCUT.out.mono ?_
  rintro e w1 ⟨rfl, h1, hc1⟩
  have hr1 := r14_iff.1 h1
  clear h1
  revert hr1 hlen hlen'
  generalize hks : (l.eraseIdx j).map Prod.fst = ks
  generalize hvs : (l.eraseIdx j).map Prod.snd = vs
  intro hlen hlen' hr1
  have HKS := Lib.hid hks
  have HVS := Lib.hid hvs
  clear hks hvs
  obtain ⟨vk1, ck1, ok1, fin1⟩ := hr1.key k
  have FIN1 := Lib.hid fin1
  clear fin1
  go_wp2_with (first | (at_builtin; refine wpList_append_lies _ (by rfl) (.tmp 27) (.tmp 29) 35 (by rfl) 0 9 i0 (.string ⟨#[]⟩) 1 16 Try.underlying35 hi hz0 hz1 hz2 rfl (by omega) vk1 ks.length (ks.map .string) (by rfl) ok1 ⟨w1.heap.size, 0, none⟩ 1 1 [.string k] (by rfl) (by rfl) (cell_one_new _ _ _) (by simp [Value.oneCell']) (by omega) (by unfold maxLen; omega) (by omega) (Nat.zero_le _) (w1.heap.size + 1) (by simp) ?_; intro g2 cap2 w2 hown2 hgrow2 hat2 hlt2; obtain ⟨⟨u2, cu2⟩, fu2, hr2, hc2⟩ := FIN1.out g2 cap2 w2 hown2 hgrow2 hat2 hlt2; obtain ⟨vv1, cv1, ov1, fin2⟩ := hr2.val v; have FIN2 := Lib.hid fin2; clear fin2; have cv2 : w2.cell? ⟨q, 2, none⟩ = some vv1 := by rw [← cv1, World.cell?_setCell_other _ _ _ _ (by intro e; injection e with _ e; cases e)]) | (at_builtin; refine wpList_append_lies _ (by rfl) (.tmp 37) (.tmp 39) 38 (by rfl) 0 3 j0 (.int .i64 0) 1 8 Try.underlying38 hi' hz0' hz1' hz2' rfl (by omega) vv1 vs.length (vs.map (.int .i64)) (by rfl) ov1 ⟨w2.heap.size, 0, none⟩ 1 1 [.int .i64 v] (by rfl) (by rfl) (by have h := cell_one_new (w2.setCell ⟨q, 1, none⟩ (.slice (some ⟨g2, 0, none⟩) (ks.length + 1) cap2)) (.int .i64 v) 3; rw [World.size_setCell] at h; exact h) (by simp [Value.oneCell']) (by omega) (by unfold maxLen; omega) (by omega) (Nat.zero_le _) (w2.heap.size + 1) (by simp) ?_; intro g3 cap3 w3 hown3 hgrow3 hat3 hlt3; obtain ⟨⟨u3, cu3⟩, fu3, hr3, hc3⟩ := FIN2.out g3 cap3 w3 hown3 hgrow3 (by simpa using hat3) hlt3))
  go_ret2
  obtain ⟨hg, hch⟩ := push_end hc1 hc2 hc3
  refine ⟨rfl, _, r14_iff.2 ?_, hg, hch⟩
  rw [List.map_append, List.map_append, HKS.out, HVS.out]
  exact hr3

set_option maxHeartbeats 400000 in
theorem r14_get_miss {w : World} {G : Nat → Prop} {q : Nat} {room : Int} {l : List (ByteArray × Int)} {k : ByteArray} (h : R14 w G q room l) (hn : l.length ≤ 1000)
    (hne : ∀ i, i < l.length → ∀ x, l[i]? = some x → x.1 ≠ k) :
    Calls Try.prog 19 #[.pointer (some ⟨q, 0, none⟩), .string k] w fun e w' => e = .returned (.tuple #[.int .i64 0, .bool false]) ∧ w = w' := by
  have hf := r14_find h hn (Nat.le_refl _) hne (fun x hx => absurd (List.getElem?_eq_some_iff.1 hx).1 (by omega))
  rw [placeOf_ge (by omega)] at hf
  have HF := Lib.hid hf
  clear hf h hn hne
  go_enter Try.func19, Try.ntmps19
  go_wp2_with fail
  refine HF.out.mono ?_
  rintro e w1 ⟨rfl, rfl⟩
  go_wp2
  go_ret2
  exact ⟨rfl, rfl⟩

set_option maxHeartbeats 400000 in
theorem r14_drop_miss {w : World} {G : Nat → Prop} {q : Nat} {room : Int} {l : List (ByteArray × Int)} {k : ByteArray} (h : R14 w G q room l) (hn : l.length ≤ 1000)
    (hne : ∀ i, i < l.length → ∀ x, l[i]? = some x → x.1 ≠ k) :
    Calls Try.prog 23 #[.pointer (some ⟨q, 0, none⟩), .string k] w fun e w' => e = .returned (.bool false) ∧ w = w' := by
  have hf := r14_find h hn (Nat.le_refl _) hne (fun x hx => absurd (List.getElem?_eq_some_iff.1 hx).1 (by omega))
  rw [placeOf_ge (by omega)] at hf
  have HF := Lib.hid hf
  clear hf h hn hne
  go_enter Try.func23, Try.ntmps23
  go_wp2_with fail
  refine HF.out.mono ?_
  rintro e w1 ⟨rfl, rfl⟩
  go_wp2
  go_ret
  exact ⟨rfl, rfl⟩

set_option maxHeartbeats 400000 in
theorem r14_drop_hit {w : World} {G : Nat → Prop} {q : Nat} {room : Int} {l : List (ByteArray × Int)} {k : ByteArray} {v : Int} {j : Nat} (h : R14 w G q room l) (hn : l.length ≤ 1000)
    (hj : l[j]? = some (k, v)) (hne : ∀ i, i < j → ∀ x, l[i]? = some x → x.1 ≠ k) :
    Calls Try.prog 23 #[.pointer (some ⟨q, 0, none⟩), .string k] w fun e w' => e = .returned (.bool true) ∧ R14 w' (fresh G w w') q room (l.eraseIdx j) ∧ Ch G w w' := by
  have hjl : j < l.length := (List.getElem?_eq_some_iff.1 hj).1
  have hf := r14_find h hn (Nat.le_of_lt hjl) hne (fun x hx => by rw [hj] at hx; cases hx; rfl)
  rw [placeOf_lt hjl] at hf
  have hcut := r14_cut h hjl hn
  have HCUT := Lib.hid hcut
  have HF := Lib.hid hf
  clear hf h hn hne hcut hj hjl
  go_enter Try.func23, Try.ntmps23
  go_wp2_with fail
  refine HF.out.mono ?_
  rintro e w1 ⟨rfl, rfl⟩
  go_wp2_with fail
  refine HCUT.out.mono ?_
  rintro e w1 ⟨rfl, h1, hc1⟩
  go_wp2
  go_ret
  exact ⟨rfl, h1, hc1⟩

set_option maxRecDepth 100000 in
set_option maxHeartbeats 2000000 in
theorem r14_put_hit {w : World} {G : Nat → Prop} {q : Nat} {room : Int} {l : List (ByteArray × Int)} {k : ByteArray} {v v' : Int} {j : Nat} (h : R14 w G q room l) (hn : l.length ≤ 1000)
    (hj : l[j]? = some (k, v')) (hne : ∀ i, i < j → ∀ x, l[i]? = some x → x.1 ≠ k) :
    Calls Try.prog 21 #[.pointer (some ⟨q, 0, none⟩), .string k, .int .i64 v] w fun e w' => e = .returned (.tuple #[.string ⟨#[]⟩, .bool false]) ∧ ∃ G', R14 w' G' q room (l.eraseIdx j ++ [(k, v)]) ∧ (∀ b, G' b → fresh G w w' b) ∧ Ch G w w' := by
  have hjl : j < l.length := (List.getElem?_eq_some_iff.1 hj).1
  have hf := r14_find h hn (Nat.le_of_lt hjl) hne (fun x hx => by rw [hj] at hx; cases hx; rfl)
  rw [placeOf_lt hjl] at hf
  have hcut := r14_cut h hjl hn
  obtain ⟨i0, hi, hz0, hz1, hz2⟩ := info_parts infoS
  obtain ⟨j0, hi', hz0', hz1', hz2'⟩ := info_parts infoI
  have HCUT := Lib.hid hcut
  have HF := Lib.hid hf
  have hlen : ((l.eraseIdx j).map Prod.fst).length ≤ 1000 := by rw [List.length_map]; exact Nat.le_trans (List.length_eraseIdx_le _ _) hn
  have hlen' : ((l.eraseIdx j).map Prod.snd).length ≤ 1000 := by rw [List.length_map]; exact Nat.le_trans (List.length_eraseIdx_le _ _) hn
  clear h hn hj hjl hne hcut hf
  go_enter Try.func21, Try.ntmps21
  go_wp2_with fail
  refine HF.out.mono ?_
  rintro e w1 ⟨rfl, rfl⟩
  go_wp2_with fail
  refine HCUT.out.mono ?_
  rintro e w1 ⟨rfl, h1, hc1⟩
  have hr1 := r14_iff.1 h1
  clear h1
  revert hr1 hlen hlen'
  generalize hks : (l.eraseIdx j).map Prod.fst = ks
  generalize hvs : (l.eraseIdx j).map Prod.snd = vs
  intro hlen hlen' hr1
  have HKS := Lib.hid hks
  have HVS := Lib.hid hvs
  clear hks hvs
  obtain ⟨vk1, ck1, ok1, fin1⟩ := hr1.key k
  have FIN1 := Lib.hid fin1
  clear fin1
  go_wp2_with (first | (at_builtin; refine wpList_append_lies _ (by rfl) (.tmp 41) (.tmp 43) 35 (by rfl) 0 9 i0 (.string ⟨#[]⟩) 1 16 Try.underlying35 hi hz0 hz1 hz2 rfl (by omega) vk1 ks.length (ks.map .string) (by rfl) ok1 ⟨w1.heap.size, 0, none⟩ 1 1 [.string k] (by rfl) (by rfl) (cell_one_new _ _ _) (by simp [Value.oneCell']) (by omega) (by unfold maxLen; omega) (by omega) (Nat.zero_le _) (w1.heap.size + 1) (by simp) ?_; intro g2 cap2 w2 hown2 hgrow2 hat2 hlt2; obtain ⟨⟨u2, cu2⟩, fu2, hr2, hc2⟩ := FIN1.out g2 cap2 w2 hown2 hgrow2 hat2 hlt2; obtain ⟨vv1, cv1, ov1, fin2⟩ := hr2.val v; have FIN2 := Lib.hid fin2; clear fin2; have cv2 : w2.cell? ⟨q, 2, none⟩ = some vv1 := by rw [← cv1, World.cell?_setCell_other _ _ _ _ (by intro e; injection e with _ e; cases e)]) | (at_builtin; refine wpList_append_lies _ (by rfl) (.tmp 51) (.tmp 53) 38 (by rfl) 0 3 j0 (.int .i64 0) 1 8 Try.underlying38 hi' hz0' hz1' hz2' rfl (by omega) vv1 vs.length (vs.map (.int .i64)) (by rfl) ov1 ⟨w2.heap.size, 0, none⟩ 1 1 [.int .i64 v] (by rfl) (by rfl) (by have h := cell_one_new (w2.setCell ⟨q, 1, none⟩ (.slice (some ⟨g2, 0, none⟩) (ks.length + 1) cap2)) (.int .i64 v) 3; rw [World.size_setCell] at h; exact h) (by simp [Value.oneCell']) (by omega) (by unfold maxLen; omega) (by omega) (Nat.zero_le _) (w2.heap.size + 1) (by simp) ?_; intro g3 cap3 w3 hown3 hgrow3 hat3 hlt3; obtain ⟨⟨u3, cu3⟩, fu3, hr3, hc3⟩ := FIN2.out g3 cap3 w3 hown3 hgrow3 (by simpa using hat3) hlt3))
  go_ret2
  obtain ⟨hg, hch⟩ := push_end hc1 hc2 hc3
  refine ⟨rfl, _, r14_iff.2 ?_, hg, hch⟩
  rw [List.map_append, List.map_append, HKS.out, HVS.out]
  exact hr3

set_option maxRecDepth 100000 in
set_option maxHeartbeats 2000000 in
theorem r14_put_full {w : World} {G : Nat → Prop} {q : Nat} {room : Int} {l : List (ByteArray × Int)} {k : ByteArray} {v : Int} {x : ByteArray × Int} (h : R14 w G q room l) (hn : l.length ≤ 1000)
    (hne : ∀ i, i < l.length → ∀ x, l[i]? = some x → x.1 ≠ k) (hx : l[0]? = some x) (hroom : (l.length : Int) = room) :
    Calls Try.prog 21 #[.pointer (some ⟨q, 0, none⟩), .string k, .int .i64 v] w fun e w' => e = .returned (.tuple #[.string x.1, .bool true]) ∧ ∃ G', R14 w' G' q room (l.eraseIdx 0 ++ [(k, v)]) ∧ (∀ b, G' b → fresh G w w' b) ∧ Ch G w w' := by
  have hjl : 0 < l.length := (List.getElem?_eq_some_iff.1 hx).1
  have hf := r14_find h hn (Nat.le_refl _) hne (fun x hx => absurd (List.getElem?_eq_some_iff.1 hx).1 (by omega))
  rw [placeOf_ge (by omega)] at hf
  have hcut : ∀ n, Calls Try.prog 58 #[.pointer (some ⟨q, 0, none⟩), .int .i64 0] (w.drewN n) fun e w' => e = .returned (.tuple #[]) ∧ R14 w' (fresh G w w') q room (l.eraseIdx 0) ∧ Ch G w w' := fun n => (r14_cut (k := 0) (h.drewN n) hjl hn).mono fun e w' ⟨h1, h2, h3⟩ => ⟨h1, h2, h3.of_drewN⟩
  obtain ⟨vk, vv, c0, c1, c2, o1, o2, fz, gq, gk, gv, gkv, hlt⟩ := id h
  obtain ⟨gk', ck, rfl, _, _⟩ := o1.form (by omega)
  have cj : w.cell? ⟨gk', 0, none⟩ = some (.string x.1) := by rw [o1.cellAt 0 (by omega), List.getElem?_map, hx]; rfl
  subst hroom
  obtain ⟨i0, hi, hz0, hz1, hz2⟩ := info_parts infoS
  obtain ⟨j0, hi', hz0', hz1', hz2'⟩ := info_parts infoI
  have hlen : ((l.eraseIdx 0).map Prod.fst).length ≤ 1000 := by rw [List.length_map]; exact Nat.le_trans (List.length_eraseIdx_le _ _) hn
  have hlen' : ((l.eraseIdx 0).map Prod.snd).length ≤ 1000 := by rw [List.length_map]; exact Nat.le_trans (List.length_eraseIdx_le _ _) hn
  have HCUT := Lib.hid hcut
  have HF := Lib.hid hf
  clear h hne hx c2 o1 o2 fz gq gk gv gkv hlt hcut hf
  revert HCUT
  generalize hN : l.length = N at *
  have HN := Lib.hid hN
  clear hN
  intro HCUT
  go_enter Try.func21, Try.ntmps21
  go_wp2_with fail
  refine HF.out.mono ?_
  rintro e w1 ⟨rfl, rfl⟩
  go_wp2_with (go_quiet (fail))
  go_wp2_with fail
  refine (HCUT.out nq).mono ?_
  rintro e w1 ⟨rfl, h1, hc1⟩
  have hr1 := r14_iff.1 h1
  clear h1
  revert hr1 hlen hlen'
  generalize hks : (l.eraseIdx 0).map Prod.fst = ks
  generalize hvs : (l.eraseIdx 0).map Prod.snd = vs
  intro hlen hlen' hr1
  have HKS := Lib.hid hks
  have HVS := Lib.hid hvs
  clear hks hvs
  obtain ⟨vk1, ck1, ok1, fin1⟩ := hr1.key k
  have FIN1 := Lib.hid fin1
  clear fin1
  go_wp2_with (first | (at_builtin; refine wpList_append_lies _ (by rfl) (.tmp 41) (.tmp 43) 35 (by rfl) 0 9 i0 (.string ⟨#[]⟩) 1 16 Try.underlying35 hi hz0 hz1 hz2 rfl (by omega) vk1 ks.length (ks.map .string) (by rfl) ok1 ⟨w1.heap.size, 0, none⟩ 1 1 [.string k] (by rfl) (by rfl) (cell_one_new _ _ _) (by simp [Value.oneCell']) (by omega) (by unfold maxLen; omega) (by omega) (Nat.zero_le _) (w1.heap.size + 1) (by simp) ?_; intro g2 cap2 w2 hown2 hgrow2 hat2 hlt2; obtain ⟨⟨u2, cu2⟩, fu2, hr2, hc2⟩ := FIN1.out g2 cap2 w2 hown2 hgrow2 hat2 hlt2; obtain ⟨vv1, cv1, ov1, fin2⟩ := hr2.val v; have FIN2 := Lib.hid fin2; clear fin2; have cv2 : w2.cell? ⟨q, 2, none⟩ = some vv1 := by rw [← cv1, World.cell?_setCell_other _ _ _ _ (by intro e; injection e with _ e; cases e)]) | (at_builtin; refine wpList_append_lies _ (by rfl) (.tmp 51) (.tmp 53) 38 (by rfl) 0 3 j0 (.int .i64 0) 1 8 Try.underlying38 hi' hz0' hz1' hz2' rfl (by omega) vv1 vs.length (vs.map (.int .i64)) (by rfl) ov1 ⟨w2.heap.size, 0, none⟩ 1 1 [.int .i64 v] (by rfl) (by rfl) (by have h := cell_one_new (w2.setCell ⟨q, 1, none⟩ (.slice (some ⟨g2, 0, none⟩) (ks.length + 1) cap2)) (.int .i64 v) 3; rw [World.size_setCell] at h; exact h) (by simp [Value.oneCell']) (by omega) (by unfold maxLen; omega) (by omega) (Nat.zero_le _) (w2.heap.size + 1) (by simp) ?_; intro g3 cap3 w3 hown3 hgrow3 hat3 hlt3; obtain ⟨⟨u3, cu3⟩, fu3, hr3, hc3⟩ := FIN2.out g3 cap3 w3 hown3 hgrow3 (by simpa using hat3) hlt3))
  go_ret2
  obtain ⟨hg, hch⟩ := push_end hc1 hc2 hc3
  refine ⟨rfl, _, r14_iff.2 ?_, hg, hch⟩
  rw [List.map_append, List.map_append, HKS.out, HVS.out]
  exact hr3

set_option maxRecDepth 100000 in
set_option maxHeartbeats 2000000 in
theorem r14_put_new {w : World} {G : Nat → Prop} {q : Nat} {room : Int} {l : List (ByteArray × Int)} {k : ByteArray} {v : Int} (h : R14 w G q room l) (hn : l.length ≤ 1000)
    (hne : ∀ i, i < l.length → ∀ x, l[i]? = some x → x.1 ≠ k) (hroom : (l.length : Int) ≠ room) :
    Calls Try.prog 21 #[.pointer (some ⟨q, 0, none⟩), .string k, .int .i64 v] w fun e w' => e = .returned (.tuple #[.string ⟨#[]⟩, .bool false]) ∧ ∃ G', R14 w' G' q room (l ++ [(k, v)]) ∧ (∀ b, G' b → fresh G w w' b) ∧ Ch G w w' := by
  have hf := r14_find h hn (Nat.le_refl _) hne (fun x hx => absurd (List.getElem?_eq_some_iff.1 hx).1 (by omega))
  rw [placeOf_ge (by omega)] at hf
  have hlen : (l.map Prod.fst).length ≤ 1000 := by rw [List.length_map]; exact hn
  have hlen' : (l.map Prod.snd).length ≤ 1000 := by rw [List.length_map]; exact hn
  have hr0 := r14_iff.1 h
  obtain ⟨vk, vv, c0, c1, c2, o1, o2, fz, gq, gk, gv, gkv, hlt⟩ := id h
  obtain ⟨ao, ck, rfl, _⟩ := owned_shape o1
  obtain ⟨i0, hi, hz0, hz1, hz2⟩ := info_parts infoS
  obtain ⟨j0, hi', hz0', hz1', hz2'⟩ := info_parts infoI
  have HF := Lib.hid hf
  have HR0 := Lib.hid hr0
  have HR := Lib.hid hroom
  have hb : ((l.length : Int) == room) = false := beq_eq_false_iff_ne.2 hroom
  clear h hne c2 o1 o2 fz gq gk gv gkv hlt hf hr0 hroom
  go_enter Try.func21, Try.ntmps21
  go_wp2_with fail
  refine HF.out.mono ?_
  rintro e w1 ⟨rfl, rfl⟩
  go_upto_region 10 with (go_quiet (fail))
  have hr1 := HR0.out.here nq
  have hc1 : Ch G w (w.drewN nq) := (Ch.refl G w).drewN nq
  revert hr1 hc1
  generalize w.drewN nq = w1
  intro hr1 hc1
  clear c1 c0
  revert hr1 hlen hlen'
  generalize hks : (l).map Prod.fst = ks
  generalize hvs : (l).map Prod.snd = vs
  intro hlen hlen' hr1
  have HKS := Lib.hid hks
  have HVS := Lib.hid hvs
  clear hks hvs
  obtain ⟨vk1, ck1, ok1, fin1⟩ := hr1.key k
  have FIN1 := Lib.hid fin1
  clear fin1
  go_wp2_with (first | (at_builtin; refine wpList_append_lies _ (by rfl) (.tmp 41) (.tmp 43) 35 (by rfl) 0 9 i0 (.string ⟨#[]⟩) 1 16 Try.underlying35 hi hz0 hz1 hz2 rfl (by omega) vk1 ks.length (ks.map .string) (by rfl) ok1 ⟨w1.heap.size, 0, none⟩ 1 1 [.string k] (by rfl) (by rfl) (cell_one_new _ _ _) (by simp [Value.oneCell']) (by omega) (by unfold maxLen; omega) (by omega) (Nat.zero_le _) (w1.heap.size + 1) (by simp) ?_; intro g2 cap2 w2 hown2 hgrow2 hat2 hlt2; obtain ⟨⟨u2, cu2⟩, fu2, hr2, hc2⟩ := FIN1.out g2 cap2 w2 hown2 hgrow2 hat2 hlt2; obtain ⟨vv1, cv1, ov1, fin2⟩ := hr2.val v; have FIN2 := Lib.hid fin2; clear fin2; have cv2 : w2.cell? ⟨q, 2, none⟩ = some vv1 := by rw [← cv1, World.cell?_setCell_other _ _ _ _ (by intro e; injection e with _ e; cases e)]) | (at_builtin; refine wpList_append_lies _ (by rfl) (.tmp 51) (.tmp 53) 38 (by rfl) 0 3 j0 (.int .i64 0) 1 8 Try.underlying38 hi' hz0' hz1' hz2' rfl (by omega) vv1 vs.length (vs.map (.int .i64)) (by rfl) ov1 ⟨w2.heap.size, 0, none⟩ 1 1 [.int .i64 v] (by rfl) (by rfl) (by have h := cell_one_new (w2.setCell ⟨q, 1, none⟩ (.slice (some ⟨g2, 0, none⟩) (ks.length + 1) cap2)) (.int .i64 v) 3; rw [World.size_setCell] at h; exact h) (by simp [Value.oneCell']) (by omega) (by unfold maxLen; omega) (by omega) (Nat.zero_le _) (w2.heap.size + 1) (by simp) ?_; intro g3 cap3 w3 hown3 hgrow3 hat3 hlt3; obtain ⟨⟨u3, cu3⟩, fu3, hr3, hc3⟩ := FIN2.out g3 cap3 w3 hown3 hgrow3 (by simpa using hat3) hlt3))
  go_ret2
  obtain ⟨hg, hch⟩ := push_end hc1 hc2 hc3
  refine ⟨rfl, _, r14_iff.2 ?_, hg, hch⟩
  rw [List.map_append, List.map_append, HKS.out, HVS.out]
  exact hr3
end Go.Proofs.Ytnnaidladcdbdaa
