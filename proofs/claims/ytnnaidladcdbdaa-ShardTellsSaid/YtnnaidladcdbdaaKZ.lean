/- The contracts of recent.List[shard.Key, api.Zone] (chapter 15): New, Len, Get, Drop, Put, Keys, out, last. A key is two cells, a zone 21. -/
import Derived.Test.YtnnaidladcdbdaaRows
import Derived.Test.YtnnaidladcdbdaaZone
import Derived.StillTailTactics
import Derived.Deep.DeepCutAuto
import Derived.Deep.CutBlock
namespace Go.Proofs.Ytnnaidladcdbdaa
open Go.RowKit Go.ChangeMaps
open Go.Maps (Keyed)

namespace KZ
abbrev KK (k : PK) : Value := .agg #[.int .i64 k.1, .string k.2]
/-- A slice's descriptor: what is told of a zone's kinds. -/
abbrev SV := Option Addr × Nat × Nat
abbrev sv (v : SV) : Value := .slice v.1 v.2.1 v.2.2
abbrev ZA (v : SV) : Value := .agg (za (sv v))
def cs (k : PK) (v : SV) : List Value := [.int .i64 k.1, .string k.2] ++ zc (sv v)

theorem range_cs {w : World} {b : Nat} {k : PK} {v : SV} (h : ∀ i, i < 23 → w.cell? ⟨b, i, none⟩ = (cs k v)[i]?) : w.rangeAt b 2 (zc (sv v)) := fun j u hu => by
  have hj : j < 21 := (List.getElem?_eq_some_iff.1 hu).1
  rw [h (2 + j) (by omega), ← hu]
  show ([Value.int .i64 k.1, .string k.2] ++ zc (sv v))[2 + j]? = _
  rw [List.getElem?_append_right (by simp)]
  simp

theorem zeroP (w : World) : (zeroValue 150).run Try.prog w = .ok (.pointer none) w := by kernel_rfl

set_option maxHeartbeats 400000 in
theorem out_a (nb no ub uo vb vo : Nat) (x y : Value) (w : World)
  (c2 : w.cell? ⟨nb, no + 23, none⟩ = some (.pointer (some ⟨ub, uo, none⟩)))
  (c3 : w.cell? ⟨nb, no + 24, none⟩ = some (.pointer (some ⟨vb, vo, none⟩)))
  (u3 : w.cell? ⟨ub, uo + 24, none⟩ = some x) (v2 : w.cell? ⟨vb, vo + 23, none⟩ = some y)
  (fu : w.frozen? ⟨ub, uo + 24, none⟩ = false) (fv : w.frozen? ⟨vb, vo + 23, none⟩ = false)
  (hne : (⟨ub, uo + 24, none⟩ : Addr) ≠ ⟨vb, vo + 23, none⟩) :
    Calls Try.prog 75 #[.pointer (some ⟨nb, no, none⟩)] w fun e w' => e = .returned (.tuple #[]) ∧ w' = ((w.setCell ⟨ub, uo + 24, none⟩ (.pointer (some ⟨vb, vo, none⟩))).setCell ⟨vb, vo + 23, none⟩ (.pointer (some ⟨ub, uo, none⟩))).drew := by
  go_enter Try.func75, Try.ntmps75
  go_wp2
  go_region
  go_end0
  exact ⟨rfl, rfl⟩

variable {F : Nat → Prop} {p m : Nat} {room : Int}

theorem out_c {w : World} {a c : List (Nat × PK × SV)} {x : Nat × PK × SV} (h : RingAt cs 23 w F p m room (a ++ x :: c)) :
    Calls Try.prog 75 #[.pointer (some ⟨x.1, 0, none⟩)] w fun e w' => e = .returned (.tuple #[]) ∧
      RingAt cs 23 w' F p m room (a ++ c) ∧ NodeAt cs 23 w' F x ∧ x.1 ∉ p :: (a ++ c).map (·.1) ∧ KeepMaps w w' ∧ Ch F w w' := by
  obtain ⟨u, v, k1, k2, k3, k4, hne, fu, fv, hw⟩ := h.out
  exact (out_a x.1 0 u.1 u.2 v.1 v.2 _ _ w (by simpa using k1) (by simpa using k2) k3 k4 fu fv hne).mono fun e w' ⟨he, hw'⟩ => ⟨he, hw w' hw'⟩

set_option maxHeartbeats 400000 in
theorem last_a (p nb ub uo : Nat) (x y z s' : Value) (w : World)
  (r2 : w.cell? ⟨p, 25, none⟩ = some (.pointer (some ⟨ub, uo, none⟩)))
  (n2 : w.cell? ⟨nb, 23, none⟩ = some x) (n3 : w.cell? ⟨nb, 24, none⟩ = some y)
  (u3 : w.cell? ⟨ub, uo + 24, none⟩ = some z)
  (f1 : w.frozen? ⟨p, 25, none⟩ = false) (f2 : w.frozen? ⟨nb, 23, none⟩ = false) (f3 : w.frozen? ⟨nb, 24, none⟩ = false) (f4 : w.frozen? ⟨ub, uo+24, none⟩ = false)
  (_hn : p ≠ nb) (hu : ub ≠ nb)
  (hs : (((w.setCell ⟨nb, 23, none⟩ (.pointer (some ⟨ub, uo, none⟩))).setCell ⟨nb, 24, none⟩ (.pointer (some ⟨p, 2, none⟩))).setCell ⟨ub, uo + 24, none⟩ (.pointer (some ⟨nb, 0, none⟩))).cell? ⟨p, 25, none⟩ = some s') :
    Calls Try.prog 76 #[.pointer (some ⟨p, 0, none⟩), .pointer (some ⟨nb, 0, none⟩)] w fun e w' => e = .returned (.tuple #[]) ∧ w' = ((((w.setCell ⟨nb, 23, none⟩ (.pointer (some ⟨ub, uo, none⟩))).setCell ⟨nb, 24, none⟩ (.pointer (some ⟨p, 2, none⟩))).setCell ⟨ub, uo + 24, none⟩ (.pointer (some ⟨nb, 0, none⟩))).setCell ⟨p, 25, none⟩ (.pointer (some ⟨nb, 0, none⟩))).drew.drew := by
  go_enter Try.func76, Try.ntmps76
  go_wp2
  go_region
  go_wp2
  go_region
  go_end0
  exact ⟨rfl, rfl⟩

theorem last_c {w : World} {ns : List (Nat × PK × SV)} {x : Nat × PK × SV} (h : RingAt cs 23 w F p m room ns) (hx : NodeAt cs 23 w F x) (hb : x.1 ∉ p :: ns.map (·.1)) :
    Calls Try.prog 76 #[.pointer (some ⟨p, 0, none⟩), .pointer (some ⟨x.1, 0, none⟩)] w fun e w' => e = .returned (.tuple #[]) ∧
      RingAt cs 23 w' F p m room (ns ++ [x]) ∧ KeepMaps w w' ∧ Ch F w w' := by
  obtain ⟨u, k1, k2, hun, hpn, hne, fu, fp, hw⟩ := h.last hx hb
  obtain ⟨v2, n2⟩ := hx.prev
  obtain ⟨v3, n3⟩ := hx.next
  obtain ⟨s1, hs1⟩ := cell?_setCell_some (p := ⟨x.1, 23, none⟩) (x := pt u) k1
  obtain ⟨s2, hs2⟩ := cell?_setCell_some (p := ⟨x.1, 24, none⟩) (x := pt (p, 2)) hs1
  obtain ⟨s3, hs3⟩ := cell?_setCell_some (p := ⟨u.1, u.2 + 24, none⟩) (x := pt (x.1, 0)) hs2
  exact (last_a p x.1 u.1 u.2 _ _ _ _ w k1 n2 n3 k2 fp (hx.frz _) (hx.frz _) fu hpn hun hs3).mono fun e w' ⟨he, hw'⟩ => ⟨he, hw w' hw'⟩

abbrev Is (w : World) (F : Nat → Prop) (p : Nat) (room : Int) (l : List (PK × SV)) : Prop := LIs KP cs 23 w F p room l

set_option maxHeartbeats 400000 in
theorem new_ge (room : Int) (w : World) (h : 1 ≤ room) :
    Calls Try.prog 63 #[.int .i64 room] w fun e w' => e = .returned (.pointer (some ⟨w.heap.size + 1, 0, none⟩)) ∧
      Is w' (fun b => b = w.heap.size ∨ b = w.heap.size + 1) (w.heap.size + 1) room [] ∧ Below w.heap.size w w' := by
  have hmm := @run_makeMap Try.prog
  go_enter Try.func63, Try.ntmps63
  go_wp2
  go_region
  go_wp2
  go_ret
  exact ⟨rfl, LIs.made (zs := ([.int .i64 0, .string ⟨#[]⟩] ++ zc (.slice none 0 0))) h rfl rfl⟩

set_option maxHeartbeats 400000 in
theorem new_lt (room : Int) (w : World) (h : room < 1) :
    Calls Try.prog 63 #[.int .i64 room] w fun e w' => e = .returned (.pointer (some ⟨w.heap.size + 1, 0, none⟩)) ∧
      Is w' (fun b => b = w.heap.size ∨ b = w.heap.size + 1) (w.heap.size + 1) 1 [] ∧ Below w.heap.size w w' := by
  have hmm := @run_makeMap Try.prog
  go_enter Try.func63, Try.ntmps63
  go_wp2
  go_region
  go_wp2
  go_ret
  exact ⟨rfl, LIs.made (zs := ([.int .i64 0, .string ⟨#[]⟩] ++ zc (.slice none 0 0))) (by omega) rfl rfl⟩

theorem new_c (room : Int) (w : World) :
    Calls Try.prog 63 #[.int .i64 room] w fun e w' => e = .returned (.pointer (some ⟨w.heap.size + 1, 0, none⟩)) ∧
      Is w' (fun b => b = w.heap.size ∨ b = w.heap.size + 1) (w.heap.size + 1) (max 1 room) [] ∧ Below w.heap.size w w' := by
  by_cases h : 1 ≤ room
  · rw [Int.max_eq_right h]; exact new_ge room w h
  · rw [Int.max_eq_left (by omega)]; exact new_lt room w (by omega)

set_option maxHeartbeats 400000 in
theorem len_c {w : World} {l : List (PK × SV)} (h : Is w F p room l) :
    Calls Try.prog 66 #[.pointer (some ⟨p, 0, none⟩)] w fun e w' => e = .returned (.int .i64 l.length) ∧ w = w' := by
  obtain ⟨m, ns, rfl, hr, hm, hF, hroom⟩ := h
  have c1 := hr.c1
  have hlen := hm.len KP Try.underlying149 3
  simp only [List.length_map] at hlen ⊢
  clear hr hm hF
  go_enter Try.func66, Try.ntmps66
  go_wp2
  go_ret
  exact ⟨rfl, rfl⟩

/-- A key's cells, boxed, and a zone's cells behind it: what a call lays first. -/
def GW (w : World) (k : PK) : World := (w.alloc (.cells #[.int .i64 k.1, .string k.2] 58)).alloc (.cells (za (sv (none, 0, 0))) 69)
theorem GW.below (w : World) (k : PK) : Below w.heap.size w (GW w k) := ((Below.refl _ _).alloc (Nat.le_refl _) _).alloc (by simp) _
theorem GW.size (w : World) (k : PK) : (GW w k).heap.size = w.heap.size + 2 := by simp [GW]
theorem GW.key (w : World) (k : PK) : (GW w k).cell? ⟨w.heap.size, 0, none⟩ = some (.int .i64 k.1) ∧ (GW w k).cell? ⟨w.heap.size, 1, none⟩ = some (.string k.2) := by
  refine ⟨?_, ?_⟩ <;> (unfold GW; rw [World.cell?_alloc_lt _ _ _ (by simp), World.cell?_alloc_new]; rfl)
theorem GW.zone (w : World) (k : PK) : (GW w k).rangeAt (w.heap.size + 1) 0 (zc (sv (none, 0, 0))) := by
  have := range_alloc (w.alloc (.cells #[.int .i64 k.1, .string k.2] 58)) (za (sv (none, 0, 0))) 69
  simpa [GW, za_toList] using this
theorem GW.there (w : World) (k : PK) : (GW w k).there (w.heap.size + 1) 0 21 := by
  have := there_new (w.alloc (.cells #[.int .i64 k.1, .string k.2] 58)) (za (sv (none, 0, 0))) 69
  simpa [GW, za_size] using this
set_option maxRecDepth 100000 in
set_option maxHeartbeats 1000000 in
theorem get_miss {w : World} {l : List (PK × SV)} {k : PK} (h : Is w F p room l) (hk : k ∉ l.map Prod.fst) (hok : KP.ok k) :
    Calls Try.prog 64 #[.pointer (some ⟨p, 0, none⟩), KK k] w fun e w' => e = .returned (.tuple #[ZA (none, 0, 0), .bool false]) ∧ Below w.heap.size w w' := by
  obtain ⟨m, ns, hl, hr, hm, hF, hroom⟩ := h.below (GW.below w k)
  have c1 := hr.c1
  have hlook : ∀ n, _ := fun n => look_miss (w := (GW w k).drewN n) hl hk hok hm Try.underlying149 (zeroP _)
  have hb := GW.below w k
  obtain ⟨k0, k1⟩ := GW.key w k
  have hz := GW.zone w k
  have ht := GW.there w k
  clear hr hm hF hl h
  go_enter Try.func64, Try.ntmps64
  go_upto_region 1 with fail
  change Code.wp _ _ _ _ (GW w k)
  generalize GW w k = w1 at *
  go_upto_region 3 with (go_quiet (fail))
  have hz' : (w1.drewN nq).rangeAt (w.heap.size + 1) 0 (zc (sv (none, 0, 0))) := hz
  have ht' : (w1.drewN nq).there (w.heap.size + 1) 0 (za (sv (none, 0, 0))).size := ht
  have hb' := below_drewN hb nq
  clear hz ht hb c1 k0 k1 hlook
  revert hz' ht' hb'
  generalize w1.drewN nq = w2
  intro hz ht hb
  have hs := World.rangeAt_setCells_same w2 (w.heap.size + 1) 0 (zc (sv (none, 0, 0))) ht
  have hch : Below w.heap.size w (w2.setCells (w.heap.size + 1) 0 (zc (sv (none, 0, 0)))) := (Ch.setCells (F := fun b => w.heap.size ≤ b) (fun _ => by omega) (zc (sv (none, 0, 0))) 0 (Ch.of_below hb)).below (Nat.le_refl _) (fun b hb h => by omega)
  go_wp2_with (first | (refine wpList_load_mid (by rfl) 69 (.tmp 4) (by rfl) (w.heap.size + 1) 0 (by rfl) (zc (sv (none, 0, 0))) _ hz Try.underlying69 rfl (size69 _) ?_) | (refine wpList_store_mid (by rfl) 69 (.tmp 4) (.tmp 15) (by rfl) (w.heap.size + 1) 0 (za (sv (none, 0, 0))) (by rfl) (by rfl) ht (size69' _) (za_one rfl) ?_))
  exact ret_cell_tmp Try.results64 rfl rfl rfl hs Try.underlying69 rfl (size69 _) ⟨rfl, hch⟩

set_option maxRecDepth 100000 in
set_option maxHeartbeats 1000000 in
theorem get_hit {w : World} {l : List (PK × SV)} {k : PK} {v : SV} (h : Is w F p room l) (hk : (k, v) ∈ l) :
    Calls Try.prog 64 #[.pointer (some ⟨p, 0, none⟩), KK k] w fun e w' => e = .returned (.tuple #[ZA v, .bool true]) ∧ Is w' F p room (use l k v) ∧ Ch F w w' := by
  have hlt := h.lt
  obtain ⟨m, b, a, c, rfl, hn, hr, hm, hF, hroom⟩ := (h.below (GW.below w k)).split hk
  have c1 := hr.c1
  have hlook : ∀ n, _ := fun n => look_hit (w := (GW w k).drewN n) hm hn Try.underlying149 (zeroP _)
  have hb := GW.below w k
  obtain ⟨k0, k1⟩ := GW.key w k
  have ht := GW.there w k
  have hs := GW.size w k
  have HN := Lib.hid hn
  have HR := Lib.hid hr
  have HM := Lib.hid hm
  clear hn h hk hr hm
  go_enter Try.func64, Try.ntmps64
  go_upto_region 1 with fail
  change Code.wp _ _ _ _ (GW w k)
  revert c1 hlook hb k0 k1 ht HR hF HM hs
  generalize GW w k = w1
  intro hF c1 hlook hb k0 k1 ht hs HR HM
  go_wp2_with (go_quiet (fail))
  have hr := HR.out.drewN nq
  have hm : MapIs KP.val KP.ok (w1.drewN nq) m ((a ++ (b, k, v) :: c).map fun x => (x.2.1, pt (x.1, 0))) := HM.out
  have ht' : (w1.drewN nq).there (w.heap.size + 1) 0 21 := ht
  have hs' : (w1.drewN nq).heap.size = w.heap.size + 2 := hs
  have hF' : ∀ b, F b → b < (w1.drewN nq).heap.size := hF
  have hb' := below_drewN hb nq
  clear c1 hlook hb k0 k1 ht HR hF HM hs
  revert hr hm ht' hs' hF' hb'
  generalize w1.drewN nq = w2
  intro hr hm ht hs hF hb
  refine (out_c hr).mono ?_
  rintro e w3 ⟨rfl, hr1, hn1, hx1, hk1, hc1⟩
  go_wp2_with fail
  refine (last_c hr1 hn1 hx1).mono ?_
  rintro e w4 ⟨rfl, hr2, hk2, hc2⟩
  have hnF : ¬ F (w.heap.size + 1) := fun h => by have := hlt _ h; omega
  have hs3 := hc1.size
  have ht4 : w4.there (w.heap.size + 1) 0 (za (sv v)).size := hc2.there (by omega) hnF (hc1.there (by omega) hnF ht)
  have hz : w4.rangeAt b 2 (zc (sv v)) := range_cs (hr2.cells (b, k, v) (by simp))
  have hs5 := World.rangeAt_setCells_same w4 (w.heap.size + 1) 0 (zc (sv v)) ht4
  obtain ⟨hI, hch⟩ := LIs.used (K := KP) HN.out hm hF hroom hk1 hk2 hc1 hc2 hr2
  have hch5 : Ch (fun b => b = w.heap.size + 1) w4 (w4.setCells (w.heap.size + 1) 0 (zc (sv v))) := Ch.setCells (F := fun b => b = w.heap.size + 1) (fun _ => rfl) _ _ (Ch.refl _ _)
  have hI5 := hI.kept hch5 (fun b hb e => by rw [e] at hb; exact hnF hb)
  have hc5 : Ch F w (w4.setCells (w.heap.size + 1) 0 (zc (sv v))) := Ch.setCells (fun h => by omega) _ _ ((Ch.of_none hb F).trans hch (fun _ _ h => h))
  clear hch5 hI hch hr hm hr1 hn1 hx1 hk1 hc1 hr2 hk2 hc2
  go_wp2_with (first | (refine wpList_load_mid (by rfl) 69 (.tmp 23) (by rfl) b 2 (by rfl) (zc (sv v)) _ hz Try.underlying69 rfl (size69 _) ?_) | (refine wpList_store_mid (by rfl) 69 (.tmp 4) (.tmp 24) (by rfl) (w.heap.size + 1) 0 (za (sv v)) (by rfl) (by rfl) ht4 (size69' _) (za_one rfl) ?_))
  exact ret_cell_tmp Try.results64 rfl rfl rfl hs5 Try.underlying69 rfl (size69 _) ⟨rfl, hI5, hc5⟩


/-- A key's cells, boxed. -/
def DW (w : World) (k : PK) : World := w.alloc (.cells #[.int .i64 k.1, .string k.2] 58)
theorem DW.below (w : World) (k : PK) : Below w.heap.size w (DW w k) := (Below.refl _ _).alloc (Nat.le_refl _) _
theorem DW.size (w : World) (k : PK) : (DW w k).heap.size = w.heap.size + 1 := by simp [DW]
theorem DW.key (w : World) (k : PK) : (DW w k).cell? ⟨w.heap.size, 0, none⟩ = some (.int .i64 k.1) ∧ (DW w k).cell? ⟨w.heap.size, 1, none⟩ = some (.string k.2) := by
  refine ⟨?_, ?_⟩ <;> (unfold DW; rw [World.cell?_alloc_new]; rfl)

set_option maxRecDepth 100000 in
set_option maxHeartbeats 1000000 in
theorem drop_miss {w : World} {l : List (PK × SV)} {k : PK} (h : Is w F p room l) (hk : k ∉ l.map Prod.fst) (hok : KP.ok k) :
    Calls Try.prog 69 #[.pointer (some ⟨p, 0, none⟩), KK k] w fun e w' => e = .returned (.bool false) ∧ Below w.heap.size w w' := by
  obtain ⟨m, ns, hl, hr, hm, hF, hroom⟩ := h.below (DW.below w k)
  have c1 := hr.c1
  have hlook : ∀ n, _ := fun n => look_miss (w := (DW w k).drewN n) hl hk hok hm Try.underlying149 (zeroP _)
  have hb := DW.below w k
  obtain ⟨k0, k1⟩ := DW.key w k
  clear hr hm hF hl h
  go_enter Try.func69, Try.ntmps69
  go_upto_region 1 with fail
  change Code.wp _ _ _ _ (DW w k)
  generalize DW w k = w1 at *
  go_wp2_with (go_quiet (fail))
  go_ret
  exact ⟨rfl, below_drewN hb nq⟩

set_option maxRecDepth 100000 in
set_option maxHeartbeats 1000000 in
theorem drop_hit {w : World} {l : List (PK × SV)} {k : PK} {v : SV} (h : Is w F p room l) (hk : (k, v) ∈ l) :
    Calls Try.prog 69 #[.pointer (some ⟨p, 0, none⟩), KK k] w fun e w' => e = .returned (.bool true) ∧ Is w' F p room (del l k) ∧ Ch F w w' := by
  have hlt := h.lt
  obtain ⟨m, b, a, c, rfl, hn, hr, hm, hF, hroom⟩ := (h.below (DW.below w k)).split hk
  have c1 := hr.c1
  have hlook : ∀ n, _ := fun n => look_hit (w := (DW w k).drewN n) hm hn Try.underlying149 (zeroP _)
  have hb := DW.below w k
  obtain ⟨k0, k1⟩ := DW.key w k
  have hs := DW.size w k
  have HN := Lib.hid hn
  have HR := Lib.hid hr
  have HM := Lib.hid hm
  clear hn h hk hr hm
  go_enter Try.func69, Try.ntmps69
  go_upto_region 1 with fail
  change Code.wp _ _ _ _ (DW w k)
  revert c1 hlook hb k0 k1 HR hF HM hs
  generalize DW w k = w1
  intro hF c1 hlook hb k0 k1 hs HR HM
  go_wp2_with (go_quiet (fail))
  have hr := HR.out.drewN nq
  have hm : MapIs KP.val KP.ok (w1.drewN nq) m ((a ++ (b, k, v) :: c).map fun x => (x.2.1, pt (x.1, 0))) := HM.out
  have hs' : (w1.drewN nq).heap.size = w.heap.size + 1 := hs
  have hF' : ∀ b, F b → b < (w1.drewN nq).heap.size := hF
  have hb' := below_drewN hb nq
  have k0' : (w1.drewN nq).cell? ⟨w.heap.size, 0, none⟩ = some (.int .i64 k.1) := k0
  have k1' : (w1.drewN nq).cell? ⟨w.heap.size, 1, none⟩ = some (.string k.2) := k1
  clear c1 hlook hb k0 k1 HR hF HM hs
  revert hr hm hs' hF' hb' k0' k1'
  generalize w1.drewN nq = w2
  intro hr hm hs hF hb k0 k1
  refine (out_c hr).mono ?_
  rintro e w3 ⟨rfl, hr1, hn1, hx1, hk1, hc1⟩
  have hnF : ¬ F w.heap.size := fun h => by have := hlt _ h; omega
  have k0' : w3.cell? ⟨w.heap.size, 0, none⟩ = some (.int .i64 k.1) := by rw [hc1.cell (p := ⟨w.heap.size, 0, none⟩) (by simp only; omega) hnF]; exact k0
  have k1' : w3.cell? ⟨w.heap.size, 1, none⟩ = some (.string k.2) := by rw [hc1.cell (p := ⟨w.heap.size, 1, none⟩) (by simp only; omega) hnF]; exact k1
  have c1' := hr1.c1
  have hdr : MapIs KP.val KP.ok w2 m ((a ++ (b, k, v) :: c).map fun x => (x.2.1, pt (x.1, 0))) := hm
  obtain ⟨o, hdel, hI, hch⟩ := LIs.dropped (K := KP) HN.out hm hF hroom hk1.drew hc1.drew (hr1.drewN 1) Try.underlying149 0
  have hI' := Lib.hid hI
  have hch' := Lib.hid ((Ch.of_none hb F).trans hch (fun _ _ h => h))
  clear hr hm hF hb k0 k1 hr1 hn1 hx1 hk1 hc1 hI hch hdr HN
  go_wp2_with fail
  go_region
  go_wp2
  go_ret
  exact ⟨rfl, hI'.out, hch'.out⟩

end KZ
end Go.Proofs.Ytnnaidladcdbdaa
