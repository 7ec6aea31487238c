/- The contracts of recent.List[string, int]: New, Len, Get, Drop, Put, Keys, out, last: what each makes of the list that lies in memory. The keys are of the kind that their type allows. -/
import Derived.Test.YtnnaidladcdbdaaRows
import Derived.Test.YtnnaidladcdbdaaKeys
namespace Go.Proofs.Ytnnaidladcdbdaa
open Go.RowKit Go.ChangeMaps
open Go.Maps (Keyed)

namespace SI
def cs (k : ByteArray) (v : Int) : List Value := [.string k, .int .i64 v]

theorem zeroP (w : World) : (zeroValue 104).run Try.prog w = .ok (.pointer none) w := by kernel_rfl

set_option maxHeartbeats 400000 in
theorem out_a (nb no ub uo vb vo : Nat) (x y : Value) (w : World)
  (c2 : w.cell? ⟨nb, no + 2, none⟩ = some (.pointer (some ⟨ub, uo, none⟩)))
  (c3 : w.cell? ⟨nb, no + 3, none⟩ = some (.pointer (some ⟨vb, vo, none⟩)))
  (u3 : w.cell? ⟨ub, uo + 3, none⟩ = some x) (v2 : w.cell? ⟨vb, vo + 2, none⟩ = some y)
  (fu : w.frozen? ⟨ub, uo + 3, none⟩ = false) (fv : w.frozen? ⟨vb, vo + 2, none⟩ = false)
  (hne : (⟨ub, uo + 3, none⟩ : Addr) ≠ ⟨vb, vo + 2, none⟩) :
    Calls Try.prog 55 #[.pointer (some ⟨nb, no, none⟩)] w fun e w' => e = .returned (.tuple #[]) ∧ w' = ((w.setCell ⟨ub, uo + 3, none⟩ (.pointer (some ⟨vb, vo, none⟩))).setCell ⟨vb, vo + 2, none⟩ (.pointer (some ⟨ub, uo, none⟩))).drew := by
  go_enter Try.func55, Try.ntmps55
  go_wp2
  go_region
  go_end0
  exact ⟨rfl, rfl⟩

variable {F : Nat → Prop} {p m : Nat} {room : Int}

theorem out_c {w : World} {a c : List (Nat × ByteArray × Int)} {x : Nat × ByteArray × Int} (h : RingAt cs 2 w F p m room (a ++ x :: c)) :
    Calls Try.prog 55 #[.pointer (some ⟨x.1, 0, none⟩)] w fun e w' => e = .returned (.tuple #[]) ∧
      RingAt cs 2 w' F p m room (a ++ c) ∧ NodeAt cs 2 w' F x ∧ x.1 ∉ p :: (a ++ c).map (·.1) ∧ KeepMaps w w' ∧ Ch F w w' := by
  obtain ⟨u, v, k1, k2, k3, k4, hne, fu, fv, hw⟩ := h.out
  exact (out_a x.1 0 u.1 u.2 v.1 v.2 _ _ w (by simpa using k1) (by simpa using k2) k3 k4 fu fv hne).mono fun e w' ⟨he, hw'⟩ => ⟨he, hw w' hw'⟩

set_option maxHeartbeats 400000 in
theorem last_a (p nb ub uo : Nat) (x y z s' : Value) (w : World)
  (r2 : w.cell? ⟨p, 4, none⟩ = some (.pointer (some ⟨ub, uo, none⟩)))
  (n2 : w.cell? ⟨nb, 2, none⟩ = some x) (n3 : w.cell? ⟨nb, 3, none⟩ = some y)
  (u3 : w.cell? ⟨ub, uo + 3, none⟩ = some z)
  (f1 : w.frozen? ⟨p, 4, none⟩ = false) (f2 : w.frozen? ⟨nb, 2, none⟩ = false) (f3 : w.frozen? ⟨nb, 3, none⟩ = false) (f4 : w.frozen? ⟨ub, uo+3, none⟩ = false)
  (_hn : p ≠ nb) (hu : ub ≠ nb)
  (hs : (((w.setCell ⟨nb, 2, none⟩ (.pointer (some ⟨ub, uo, none⟩))).setCell ⟨nb, 3, none⟩ (.pointer (some ⟨p, 2, none⟩))).setCell ⟨ub, uo + 3, none⟩ (.pointer (some ⟨nb, 0, none⟩))).cell? ⟨p, 4, none⟩ = some s') :
    Calls Try.prog 56 #[.pointer (some ⟨p, 0, none⟩), .pointer (some ⟨nb, 0, none⟩)] w fun e w' => e = .returned (.tuple #[]) ∧ w' = ((((w.setCell ⟨nb, 2, none⟩ (.pointer (some ⟨ub, uo, none⟩))).setCell ⟨nb, 3, none⟩ (.pointer (some ⟨p, 2, none⟩))).setCell ⟨ub, uo + 3, none⟩ (.pointer (some ⟨nb, 0, none⟩))).setCell ⟨p, 4, none⟩ (.pointer (some ⟨nb, 0, none⟩))).drew.drew := by
  go_enter Try.func56, Try.ntmps56
  go_wp2
  go_region
  go_wp2
  go_region
  go_end0
  exact ⟨rfl, rfl⟩

theorem last_c {w : World} {ns : List (Nat × ByteArray × Int)} {x : Nat × ByteArray × Int} (h : RingAt cs 2 w F p m room ns) (hx : NodeAt cs 2 w F x) (hb : x.1 ∉ p :: ns.map (·.1)) :
    Calls Try.prog 56 #[.pointer (some ⟨p, 0, none⟩), .pointer (some ⟨x.1, 0, none⟩)] w fun e w' => e = .returned (.tuple #[]) ∧
      RingAt cs 2 w' F p m room (ns ++ [x]) ∧ KeepMaps w w' ∧ Ch F w w' := by
  obtain ⟨u, k1, k2, hun, hpn, hne, fu, fp, hw⟩ := h.last hx hb
  obtain ⟨v2, n2⟩ := hx.prev
  obtain ⟨v3, n3⟩ := hx.next
  obtain ⟨s1, hs1⟩ := cell?_setCell_some (p := ⟨x.1, 2, none⟩) (x := pt u) k1
  obtain ⟨s2, hs2⟩ := cell?_setCell_some (p := ⟨x.1, 3, none⟩) (x := pt (p, 2)) hs1
  obtain ⟨s3, hs3⟩ := cell?_setCell_some (p := ⟨u.1, u.2 + 3, none⟩) (x := pt (x.1, 0)) hs2
  exact (last_a p x.1 u.1 u.2 _ _ _ _ w k1 n2 n3 k2 fp (hx.frz _) (hx.frz _) fu hpn hun hs3).mono fun e w' ⟨he, hw'⟩ => ⟨he, hw w' hw'⟩

abbrev Is (w : World) (F : Nat → Prop) (p : Nat) (room : Int) (l : List (ByteArray × Int)) : Prop := LIs KS cs 2 w F p room l

set_option maxHeartbeats 400000 in
theorem new_ge (room : Int) (w : World) (h : 1 ≤ room) :
    Calls Try.prog 16 #[.int .i64 room] w fun e w' => e = .returned (.pointer (some ⟨w.heap.size + 1, 0, none⟩)) ∧
      Is w' (fun b => b = w.heap.size ∨ b = w.heap.size + 1) (w.heap.size + 1) room [] ∧ Below w.heap.size w w' := by
  have hmm := @run_makeMap Try.prog
  go_enter Try.func16, Try.ntmps16
  go_wp2
  go_region
  go_wp2
  go_ret
  exact ⟨rfl, LIs.made (zs := [.string ⟨#[]⟩, .int .i64 0]) h rfl rfl⟩

set_option maxHeartbeats 400000 in
theorem new_lt (room : Int) (w : World) (h : room < 1) :
    Calls Try.prog 16 #[.int .i64 room] w fun e w' => e = .returned (.pointer (some ⟨w.heap.size + 1, 0, none⟩)) ∧
      Is w' (fun b => b = w.heap.size ∨ b = w.heap.size + 1) (w.heap.size + 1) 1 [] ∧ Below w.heap.size w w' := by
  have hmm := @run_makeMap Try.prog
  go_enter Try.func16, Try.ntmps16
  go_wp2
  go_region
  go_wp2
  go_ret
  exact ⟨rfl, LIs.made (zs := [.string ⟨#[]⟩, .int .i64 0]) (by omega) rfl rfl⟩

theorem new_c (room : Int) (w : World) :
    Calls Try.prog 16 #[.int .i64 room] w fun e w' => e = .returned (.pointer (some ⟨w.heap.size + 1, 0, none⟩)) ∧
      Is w' (fun b => b = w.heap.size ∨ b = w.heap.size + 1) (w.heap.size + 1) (max 1 room) [] ∧ Below w.heap.size w w' := by
  by_cases h : 1 ≤ room
  · rw [Int.max_eq_right h]; exact new_ge room w h
  · rw [Int.max_eq_left (by omega)]; exact new_lt room w (by omega)

set_option maxHeartbeats 400000 in
theorem len_c {w : World} {l : List (ByteArray × Int)} (h : Is w F p room l) :
    Calls Try.prog 25 #[.pointer (some ⟨p, 0, none⟩)] w fun e w' => e = .returned (.int .i64 l.length) ∧ w = w' := by
  obtain ⟨m, ns, rfl, hr, hm, hF, hroom⟩ := h
  have c1 := hr.c1
  have hlen := hm.len KS Try.underlying103 3
  simp only [List.length_map] at hlen ⊢
  clear hr hm hF
  go_enter Try.func25, Try.ntmps25
  go_wp2
  go_ret
  exact ⟨rfl, rfl⟩

set_option maxHeartbeats 400000 in
theorem get_miss {w : World} {l : List (ByteArray × Int)} {k : ByteArray} (h : Is w F p room l) (hk : k ∉ l.map Prod.fst) (hok : KS.ok k) :
    Calls Try.prog 18 #[.pointer (some ⟨p, 0, none⟩), .string k] w fun e w' => e = .returned (.tuple #[.int .i64 0, .bool false]) ∧ w = w' := by
  obtain ⟨m, ns, hl, hr, hm, hF, hroom⟩ := h
  have c1 := hr.c1
  have hlook := look_miss hl hk hok hm Try.underlying103 (zeroP w)
  clear hr hm hF hk hl hok
  go_enter Try.func18, Try.ntmps18
  go_wp2
  go_ret2
  exact ⟨rfl, rfl⟩

set_option maxHeartbeats 400000 in
theorem get_hit {w : World} {l : List (ByteArray × Int)} {k : ByteArray} {v : Int} (h : Is w F p room l) (hk : (k, v) ∈ l) :
    Calls Try.prog 18 #[.pointer (some ⟨p, 0, none⟩), .string k] w fun e w' => e = .returned (.tuple #[.int .i64 v, .bool true]) ∧ Is w' F p room (use l k v) ∧ Ch F w w' := by
  obtain ⟨m, b, a, c, rfl, hn, hr, hm, hF, hroom⟩ := h.split hk
  have c1 := hr.c1
  have hlook := look_hit hm hn Try.underlying103 (zeroP w)
  have HN := Lib.hid hn
  clear hn h hk
  go_enter Try.func18, Try.ntmps18
  go_wp2_with fail
  refine (out_c hr).mono ?_
  rintro e w1 ⟨rfl, hr1, hn1, hx1, hk1, hc1⟩
  go_wp2_with fail
  refine (last_c hr1 hn1 hx1).mono ?_
  rintro e w2 ⟨rfl, hr2, hk2, hc2⟩
  have v1 : w2.cell? ⟨b, 1, none⟩ = some (.int .i64 v) := hr2.cells (b, k, v) (by simp) 1 (by omega)
  go_wp2
  go_ret2
  exact ⟨rfl, LIs.used HN.out hm hF hroom hk1 hk2 hc1 hc2 hr2⟩

set_option maxHeartbeats 400000 in
theorem drop_miss {w : World} {l : List (ByteArray × Int)} {k : ByteArray} (h : Is w F p room l) (hk : k ∉ l.map Prod.fst) (hok : KS.ok k) :
    Calls Try.prog 22 #[.pointer (some ⟨p, 0, none⟩), .string k] w fun e w' => e = .returned (.bool false) ∧ w = w' := by
  obtain ⟨m, ns, hl, hr, hm, hF, hroom⟩ := h
  have c1 := hr.c1
  have hlook := look_miss hl hk hok hm Try.underlying103 (zeroP w)
  clear hr hm hF hk hl hok
  go_enter Try.func22, Try.ntmps22
  go_wp2
  go_ret
  exact ⟨rfl, rfl⟩

set_option maxHeartbeats 400000 in
theorem drop_hit {w : World} {l : List (ByteArray × Int)} {k : ByteArray} {v : Int} (h : Is w F p room l) (hk : (k, v) ∈ l) :
    Calls Try.prog 22 #[.pointer (some ⟨p, 0, none⟩), .string k] w fun e w' => e = .returned (.bool true) ∧ Is w' F p room (del l k) ∧ Ch F w w' := by
  obtain ⟨m, b, a, c, rfl, hn, hr, hm, hF, hroom⟩ := h.split hk
  have c1 := hr.c1
  have hlook := look_hit hm hn Try.underlying103 (zeroP w)
  have HN := Lib.hid hn
  clear hn h hk
  go_enter Try.func22, Try.ntmps22
  go_wp2_with fail
  refine (out_c hr).mono ?_
  rintro e w1 ⟨rfl, hr1, hn1, hx1, hk1, hc1⟩
  have c1' := hr1.c1
  obtain ⟨o, hdel, hIs⟩ := LIs.dropped (K := KS) HN.out hm hF hroom hk1 hc1 hr1 Try.underlying103 0
  go_wp2
  go_ret
  exact ⟨rfl, hIs⟩

set_option maxRecDepth 100000 in
set_option maxHeartbeats 400000 in
theorem put_old {w : World} {l : List (ByteArray × Int)} {k : ByteArray} {v v0 : Int} (h : Is w F p room l) (hk : (k, v0) ∈ l) :
    Calls Try.prog 20 #[.pointer (some ⟨p, 0, none⟩), .string k, .int .i64 v] w fun e w' => e = .returned (.tuple #[.string ⟨#[]⟩, .bool false]) ∧
      ∃ n, w.heap.size ≤ n ∧ Is w' (grow F n) p room (use l k v) ∧ Ch F w w' := by
  have hok := h.keys_ok _ hk
  have D := Lib.hid (drop_hit h.drew hk)
  clear h
  go_enter Try.func20, Try.ntmps20
  go_wp2_with fail
  refine wp_region_any (by kernel_rfl) ?_
  change wpAny _ _ _ _ _ _ _ (World.drew _)
  refine wpAny_take (i := 0) (v := .pointer (some ⟨p, 0, none⟩)) rfl (by kernel_rfl) (by kernel_rfl) (by kernel_rfl) (fun _ _ _ h => h) (Or.inl ⟨by rfl, fun w => by go_simp⟩) ?_
  refine wpAny_take (i := 1) (v := .string k) rfl (by kernel_rfl) (by kernel_rfl) (by kernel_rfl) (fun _ _ _ h => h) (Or.inl ⟨by rfl, fun w => by go_simp⟩) ?_
  refine wpAny_ready (rs := [2]) (by kernel_rfl) (by simp) ?_
  refine AllReady.cons rfl (fun K hK => ?_) AllReady.nil
  go_simp
  refine D.out.mono ?_
  rintro e w1 ⟨rfl, h1, hc1⟩
  simp only []
  refine hK _ _ ?_
  clear hK K
  refine wpAny_rest 3 (by kernel_rfl) (by rfl) (by kernel_rfl) ?_
  simp only [List.drop_succ_cons, List.drop_zero]
  repeat (go_big_quiet_step (fail))
  refine wpQuiet_nil ?_
  intro w2 hw'
  obtain ⟨nq, hw''⟩ := hw'
  have h2 : Is w2 F p room (del l k) := by rw [hw'']; exact h1.drewN nq
  have hc2 : Ch F w w2 := by rw [hw'']; exact hc1.of_drew.drewN nq
  clear hw'' h1 hc1 w1
  obtain ⟨m, ns, o, c1, hrun, hr3, hn3, hb3, hfin⟩ := LIs.fresh (v := v) h2 (not_mem_del l k) hok Try.underlying103 (ob := #[.string k, .int .i64 v, .pointer none, .pointer none]) (nt := 106) rfl rfl
  have FIN := Lib.hid hfin
  clear hfin
  go_wp2_with fail
  refine (last_c hr3 hn3 hb3).mono ?_
  rintro e w4 ⟨rfl, hr4, hk4, hc4⟩
  go_wp2
  go_ret2
  obtain ⟨f1, f2⟩ := FIN.out w4 hr4 hk4 hc4
  exact ⟨rfl, w2.heap.size, hc2.size, f1, hc2.trans f2 (fun _ _ h => h)⟩

set_option maxRecDepth 100000 in
set_option maxHeartbeats 400000 in
theorem put_new {w : World} {l : List (ByteArray × Int)} {k : ByteArray} {v : Int} (h : Is w F p room l) (hk : k ∉ l.map Prod.fst) (hok : KS.ok k) (hl : (l.length : Int) < room) :
    Calls Try.prog 20 #[.pointer (some ⟨p, 0, none⟩), .string k, .int .i64 v] w fun e w' => e = .returned (.tuple #[.string ⟨#[]⟩, .bool false]) ∧
      ∃ n, w.heap.size ≤ n ∧ Is w' (grow F n) p room (l ++ [(k, v)]) ∧ Ch F w w' := by
  have D := Lib.hid (fun n => drop_miss (h.drewN n) hk hok)
  obtain ⟨m, ns, hl0, hr, hm, hF, hroom⟩ := id h
  have c0 := hr.c0
  have c1 := hr.c1
  have hlen : ∀ n, (Builtin.len_ #[103] 3 #[.map (some m)]).run Try.prog (w.drewN n) = .ok (.int .i64 l.length) (w.drewN n) := fun n => by
    have hm' : MapIs KS.val KS.ok (w.drewN n) m (ns.map fun x => (x.2.1, pt (x.1, 0))) := hm
    have := hm'.len KS Try.underlying103 3
    rw [← hl0]; simpa using this
  clear hr hm hF hl0
  go_enter Try.func20, Try.ntmps20
  go_wp2_with fail
  go_quiet ((go_at_call 22; exact quiet_same (D.out _)))
  have h2 := h.drewN nq
  have hc2 : Ch F w (w.drewN nq) := (Ch.refl F w).drewN nq
  clear h c0 c1 hlen D
  revert h2 hc2
  generalize w.drewN nq = w2
  intro h2 hc2
  obtain ⟨m, ns, o, c1, hrun, hr3, hn3, hb3, hfin⟩ := LIs.fresh (v := v) h2 hk hok Try.underlying103 (ob := #[.string k, .int .i64 v, .pointer none, .pointer none]) (nt := 106) rfl rfl
  have FIN := Lib.hid hfin
  clear hfin
  go_wp2_with fail
  refine (last_c hr3 hn3 hb3).mono ?_
  rintro e w4 ⟨rfl, hr4, hk4, hc4⟩
  go_wp2
  go_ret2
  obtain ⟨f1, f2⟩ := FIN.out w4 hr4 hk4 hc4
  exact ⟨rfl, w2.heap.size, hc2.size, f1, hc2.trans f2 (fun _ _ h => h)⟩

set_option maxRecDepth 100000 in
set_option maxHeartbeats 400000 in
theorem put_full {w : World} {r : List (ByteArray × Int)} {k k0 : ByteArray} {v v0 : Int} (h : Is w F p room ((k0, v0) :: r)) (hk : k ∉ ((k0, v0) :: r).map Prod.fst) (hok : KS.ok k) (hl : room ≤ (((k0, v0) :: r).length : Int)) :
    Calls Try.prog 20 #[.pointer (some ⟨p, 0, none⟩), .string k, .int .i64 v] w fun e w' => e = .returned (.tuple #[.string k0, .bool true]) ∧
      ∃ n, w.heap.size ≤ n ∧ Is w' (grow F n) p room (r ++ [(k, v)]) ∧ Ch F w w' := by
  have D := Lib.hid (fun n => drop_miss (h.drewN n) hk hok)
  have hnd := h.nodup
  have hdel : del ((k0, v0) :: r) k0 = r := by
    simp only [List.map_cons, List.nodup_cons] at hnd
    unfold del
    rw [List.filter_cons_of_neg (by simp)]
    exact del_none hnd.1
  obtain ⟨m, ns, hl0, hr, hm, hF, hroom⟩ := id h
  have c0 := hr.c0
  have c1 := hr.c1
  have hlen : ∀ n, (Builtin.len_ #[103] 3 #[.map (some m)]).run Try.prog (w.drewN n) = .ok (.int .i64 (((k0, v0) :: r).length : Nat)) (w.drewN n) := fun n => by
    have hm' : MapIs KS.val KS.ok (w.drewN n) m (ns.map fun x => (x.2.1, pt (x.1, 0))) := hm
    have := hm'.len KS Try.underlying103 3
    rw [← hl0]; simpa using this
  obtain ⟨b0, c5, hb0⟩ := h.head
  have cb0 : w.cell? ⟨b0, 0, none⟩ = some (.string k0) := hb0 0 (by omega)
  have hk' : k ∉ r.map Prod.fst := fun e => hk (by simp only [List.map_cons, List.mem_cons]; exact Or.inr e)
  obtain ⟨N, hN⟩ : ∃ N : Nat, N = ((k0, v0) :: r).length := ⟨_, rfl⟩
  rw [← hN] at hl hlen
  have HD := Lib.hid hdel
  clear hr hm hF hl0 hnd hb0 hdel hN
  go_enter Try.func20, Try.ntmps20
  go_wp2_with fail
  go_quiet ((go_at_call 22; exact quiet_same (D.out _)))
  have D2 := drop_hit (h.drewN nq) (k := k0) (v := v0) (by simp)
  go_wp2_with fail
  refine D2.mono ?_
  rintro e w2 ⟨rfl, h2, hc2⟩
  rw [HD.out] at h2
  replace hc2 := hc2.of_drewN
  clear h c0 c1 hlen D D2 c5 cb0
  obtain ⟨m, ns, o, c1, hrun, hr3, hn3, hb3, hfin⟩ := LIs.fresh (v := v) h2 hk' hok Try.underlying103 (ob := #[.string k, .int .i64 v, .pointer none, .pointer none]) (nt := 106) rfl rfl
  have FIN := Lib.hid hfin
  clear hfin
  go_wp2_with fail
  refine (last_c hr3 hn3 hb3).mono ?_
  rintro e w4 ⟨rfl, hr4, hk4, hc4⟩
  go_wp2
  go_ret2
  obtain ⟨f1, f2⟩ := FIN.out w4 hr4 hk4 hc4
  exact ⟨rfl, w2.heap.size, hc2.size, f1, hc2.trans f2 (fun _ _ h => h)⟩

theorem infoE : (Try.prog.info? 9).map (fun i => (i.zero, i.size, i.bytes)) = some (some (.string ⟨#[]⟩), 1, 16) := by kernel_rfl
theorem sizeN0 : (Try.prog.info? 106).map (fun i => i.size) = some 4 := by kernel_rfl
theorem sizeN : ∃ j, Try.prog.info? 106 = some j ∧ j.size ≠ 0 := by
  obtain ⟨j, h1, h2⟩ := Option.map_eq_some_iff.1 sizeN0
  exact ⟨j, h1, by omega⟩

set_option maxRecDepth 100000 in
set_option maxHeartbeats 800000 in
theorem keys_c {w : World} {l : List (ByteArray × Int)} (h : Is w F p room l) (hl : l.length ≤ 1000) :
    Calls Try.prog 24 #[.pointer (some ⟨p, 0, none⟩)] w fun e w' => e = .returned (.slice (some ⟨w.heap.size, 0, none⟩) l.length l.length) ∧
      w'.ownsRow w.heap.size 9 1 (.slice (some ⟨w.heap.size, 0, none⟩) l.length l.length) l.length (l.map fun x => .string x.1) ∧ Below w.heap.size w w' := by
  obtain ⟨m, ns, rfl, hr, hm, hF, hroom⟩ := h
  have c1 := hr.c1
  have hlen := hm.len KS Try.underlying103 3
  simp only [List.length_map] at hlen hl ⊢
  obtain ⟨i0, hi, hz0, hz1, hz2⟩ := info_parts infoE
  obtain ⟨j, hj1, hj2⟩ := sizeN
  clear hm
  obtain ⟨N, hN⟩ : ∃ N, N = ns.length := ⟨_, rfl⟩
  have HN := Lib.hid hN
  rw [← hN] at hl hlen ⊢
  clear hN
  have HR := Lib.hid hr
  have HJ := Lib.hid hj1
  clear hr hF hj1
  go_enter Try.func24, Try.ntmps24
  go_wp2_with (at_make; refine wpList_make_own _ rfl _ _ 35 rfl w.heap.size 9 i0 (.string ⟨#[]⟩) 1 Try.underlying35 hi hz0 hz1 .i64 .i64 _ N rfl rfl rfl (by rw [hz2]; omega) (by unfold maxLen; omega) (Nat.le_refl _) ?_; intro w1 hown hg1; have hb1 := (Below.refl w.heap.size w).grown hg1 (Nat.le_refl _) (fun _ h => by cases h); have c5 : w1.cell? ⟨p, 5, none⟩ = some (cur p ns) := (HR.out.below hb1).first)
  go_loopw [3, 4] (fun o n wr => ∃ a c, ns = a ++ c ∧ n = cur p c ∧ o = .slice (some ⟨w.heap.size, 0, none⟩) a.length N ∧ wr.ownsRow w.heap.size 9 1 (.slice (some ⟨w.heap.size, 0, none⟩) a.length N) a.length (a.map fun x => .string x.2.1) ∧ Below w.heap.size w wr) (fun o _ _ => N - (match o with | .slice _ k _ => k | _ => 0))
  case atStart => exact ⟨[], ns, rfl, rfl, rfl, hown, hb1⟩
  case round =>
    obtain ⟨a, c, hns, rfl, rfl, hown1, hb2⟩ := hrel
    have HN2 := Lib.hid hns
    have HR2 := Lib.hid (HR.out.below hb2)
    clear hown hb1 hg1 c5
    cases c with
    | nil =>
      have hq := run_neq_ptr_same wr ⟨p, 2, none⟩ Try.underlying104 HJ.out
      have e0 : cur p ([] : List (Nat × ByteArray × Int)) = .pointer (some ⟨p, 2, none⟩) := rfl
      rw [e0]
      have HE := Lib.hid (show a.length = N by rw [HN.out, hns]; simp)
      have HA := Lib.hid (show ns = a by rw [hns]; simp)
      clear e0 hns
      go_wp2_with fail
      go_ret
      rw [HA.out]
      rw [HE.out] at hown1 ⊢
      exact ⟨rfl, by rw [List.map_map]; exact hown1, hb2⟩
    | cons x c =>
      have hq := HR2.out.neq hns Try.underlying104 HJ.out hj2
      have e0 : cur p (x :: c) = .pointer (some ⟨x.1, 0, none⟩) := rfl
      rw [e0]
      have c0 : wr.cell? ⟨x.1, 0, none⟩ = some (.string x.2.1) := HR2.out.cells x (by rw [hns]; simp) 0 (by omega)
      have hlt : a.length < N := by rw [HN.out, hns]; simp
      clear e0 hns
      go_wp2_with (at_builtin; refine wpList_append_fits _ rfl _ _ 35 rfl w.heap.size 9 i0 1 Try.underlying35 hi hz1 w.heap.size a.length N _ rfl (hown1.alloc _) ⟨wr.heap.size, 0, none⟩ 1 1 [.string x.2.1] rfl rfl (cell_one_new _ _ _) (by simp [Value.oneCell']) (by omega) ?_; intro w2 hown2 hg2; have hb3 := (hb2.alloc hb2.size _).grown hg2 (by have := hb2.size; simp; omega) (fun _ h => by cases h; exact Nat.le_refl _); have c3 : w2.cell? ⟨x.1, 3, none⟩ = some (cur p c) := (HR.out.below hb3).next HN2.out)
      refine ⟨⟨a ++ [x], c, by rw [HN2.out]; simp, rfl, by simp, ?_, hb3⟩, by simp; omega⟩
      simp only [List.length_append, List.length_cons, List.length_nil, List.map_append, List.map_cons, List.map_nil]
      exact hown2

theorem get_c {w : World} {l : List (ByteArray × Int)} {k : ByteArray} (h : Is w F p room l) (hok : KS.ok k) :
    Calls Try.prog 18 #[.pointer (some ⟨p, 0, none⟩), .string k] w fun e w' => e = .returned (.tuple #[.int .i64 (if has l k then valOf l k 0 else 0), .bool (has l k)]) ∧ Is w' F p room (getS l k 0) ∧ Ch F w w' := by
  cases hh : has l k with
  | true =>
    have hm := has_iff.1 hh
    refine (get_hit h (valOf_mem hm 0)).mono fun e w' ⟨h1, h2, h3⟩ => ⟨by simpa using h1, ?_, h3⟩
    unfold getS; rw [hh]; exact h2
  | false =>
    refine (get_miss h (has_false.1 hh) hok).mono fun e w' ⟨h1, h2⟩ => ?_
    subst h2
    refine ⟨by simpa using h1, ?_, Ch.refl _ _⟩
    unfold getS; rw [hh]; exact h

theorem drop_c {w : World} {l : List (ByteArray × Int)} {k : ByteArray} (h : Is w F p room l) (hok : KS.ok k) :
    Calls Try.prog 22 #[.pointer (some ⟨p, 0, none⟩), .string k] w fun e w' => e = .returned (.bool (has l k)) ∧ Is w' F p room (del l k) ∧ Ch F w w' := by
  cases hh : has l k with
  | true => exact drop_hit h (valOf_mem (has_iff.1 hh) 0)
  | false =>
    refine (drop_miss h (has_false.1 hh) hok).mono fun e w' ⟨h1, h2⟩ => ?_
    subst h2
    exact ⟨h1, by rw [del_none (has_false.1 hh)]; exact h, Ch.refl _ _⟩

theorem put_c {w : World} {l : List (ByteArray × Int)} {k : ByteArray} {v : Int} (h : Is w F p room l) (hok : KS.ok k) :
    Calls Try.prog 20 #[.pointer (some ⟨p, 0, none⟩), .string k, .int .i64 v] w fun e w' => e = .returned (.tuple #[.string (goneK room l k ⟨#[]⟩), .bool (goes room l k)]) ∧
      ∃ n, w.heap.size ≤ n ∧ Is w' (grow F n) p room (putS room l k v) ∧ Ch F w w' := by
  cases hh : has l k with
  | true =>
    have hg : goes room l k = false := by simp [goes, hh]
    have := put_old (v := v) h (valOf_mem (has_iff.1 hh) 0)
    simp only [goneK, putS, hg, hh, if_true, Bool.false_eq_true, if_false]
    exact this
  | false =>
    by_cases hl : room ≤ (l.length : Int)
    · have hg : goes room l k = true := by simp [goes, hh, hl]
      cases l with
      | nil =>
        obtain ⟨_, _, _, _, _, _, hr⟩ := h
        simp only [List.length_nil] at hl; omega
      | cons x r =>
        have := put_full (v := v) h (has_false.1 hh) hok hl
        simp only [goneK, putS, hg, hh, if_true, Bool.false_eq_true, if_false, List.head?_cons, Option.map_some, Option.getD_some, List.tail_cons]
        exact this
    · have hg : goes room l k = false := by simp [goes, hl]
      have := put_new (v := v) h (has_false.1 hh) hok (by omega)
      simp only [goneK, putS, hg, hh, Bool.false_eq_true, if_false]
      exact this

end SI
end Go.Proofs.Ytnnaidladcdbdaa
