/- The contracts of recent.List[shard.Key, api.Zone], the second part: Put; and Get, Drop, Put each in one form. -/
import Derived.Test.YtnnaidladcdbdaaKZ
namespace Go.Proofs.Ytnnaidladcdbdaa
open Go.RowKit Go.ChangeMaps
open Go.Maps (Keyed)
namespace KZ
variable {F : Nat → Prop} {p m : Nat} {room : Int}
/-- What Put lays first: the key's cells, the zone's, and the answer's. -/
def PW (w : World) (k : PK) (v : SV) : World := ((w.alloc (.cells #[.int .i64 k.1, .string k.2] 58)).alloc (.cells (za (sv v)) 69)).alloc (.cells #[.int .i64 0, .string ⟨#[]⟩] 58)
theorem PW.below (w : World) (k : PK) (v : SV) : Below w.heap.size w (PW w k v) := (((Below.refl _ _).alloc (Nat.le_refl _) _).alloc (by simp) _).alloc (by simp; omega) _
theorem PW.size (w : World) (k : PK) (v : SV) : (PW w k v).heap.size = w.heap.size + 3 := by simp [PW]
theorem PW.key (w : World) (k : PK) (v : SV) : (PW w k v).cell? ⟨w.heap.size, 0, none⟩ = some (.int .i64 k.1) ∧ (PW w k v).cell? ⟨w.heap.size, 1, none⟩ = some (.string k.2) := by
  refine ⟨?_, ?_⟩ <;> (unfold PW; rw [World.cell?_alloc_lt _ _ _ (by simp; omega), World.cell?_alloc_lt _ _ _ (by simp), World.cell?_alloc_new]; rfl)
theorem PW.zone (w : World) (k : PK) (v : SV) : (PW w k v).rangeAt (w.heap.size + 1) 0 (zc (sv v)) := by
  have := World.rangeAt_alloc (range_alloc (w.alloc (.cells #[.int .i64 k.1, .string k.2] 58)) (za (sv v)) 69) (.cells #[.int .i64 0, .string ⟨#[]⟩] 58)
  simpa [PW, za_toList] using this
theorem PW.res (w : World) (k : PK) (v : SV) : (PW w k v).rangeAt (w.heap.size + 2) 0 [.int .i64 0, .string ⟨#[]⟩] := by
  have := range_alloc ((w.alloc (.cells #[.int .i64 k.1, .string k.2] 58)).alloc (.cells (za (sv v)) 69)) #[.int .i64 0, .string ⟨#[]⟩] 58
  simpa [PW] using this
theorem PW.there (w : World) (k : PK) (v : SV) : (PW w k v).there (w.heap.size + 2) 0 2 := by
  have := there_new ((w.alloc (.cells #[.int .i64 k.1, .string k.2] 58)).alloc (.cells (za (sv v)) 69)) #[.int .i64 0, .string ⟨#[]⟩] 58
  simpa [PW] using this

set_option maxRecDepth 100000 in
theorem node_build (k : PK) (v : SV) : (List.foldl (fun (cs : Array Value) (x : Value × Nat) => cs.setIfInBounds (2 + x.2) x.1)
          #[Value.int IntKind.i64 k.fst, Value.string k.snd, Value.slice none 0 0, Value.slice none 0 0,
            Value.slice none 0 0, Value.int IntKind.i64 0, Value.bool false, Value.string { data := #[] },
            Value.int IntKind.i64 0, Value.bool false, Value.string { data := #[] }, Value.bool false,
            Value.int IntKind.i64 0, Value.int IntKind.i64 0, Value.int IntKind.i64 0, Value.int IntKind.i64 0,
            Value.int IntKind.i64 0, Value.int IntKind.i64 0, Value.int IntKind.i64 0, Value.int IntKind.i64 0,
            Value.int IntKind.i64 0, Value.int IntKind.i64 0, Value.bool false, Value.pointer none, Value.pointer none]
          (zc (sv v)).zipIdx).toList = cs k v ++ [.pointer none, .pointer none] := by
  simp [zc, cs, List.zipIdx_cons]
theorem size58 {x y : Value} : (Try.prog.info? 58).map (·.size) = some [x, y].length := by
  obtain ⟨i, h1, h2⟩ := Option.map_eq_some_iff.1 info58
  rw [h1]; simp at h2; simp [h2]
theorem cs_length (k : PK) (v : SV) : (cs k v).length = 23 := rfl
theorem fresh_z {w : World} {l : List (PK × SV)} {k : PK} {v : SV} (h : Is w F p room l) (hk : k ∉ l.map Prod.fst) (hok : KP.ok k) {ob : Array Value} (hob : ob.toList = cs k v ++ [.pointer none, .pointer none]) :
    ∃ m ns o, (w.alloc (.cells ob 152)).cell? ⟨p, 1, none⟩ = some (.map (some m)) ∧
      (Instr.mapUpdate 149 (.map (some m)) (KK k) (.pointer (some ⟨w.heap.size, 0, none⟩))).run Try.prog (w.alloc (.cells ob 152)) = .ok () (setBlock (w.alloc (.cells ob 152)) m o) ∧
      RingAt cs 23 (setBlock (w.alloc (.cells ob 152)) m o) (grow F w.heap.size) p m room ns ∧ NodeAt cs 23 (setBlock (w.alloc (.cells ob 152)) m o) (grow F w.heap.size) (w.heap.size, k, v) ∧ w.heap.size ∉ p :: ns.map (·.1) ∧
      ∀ w3, RingAt cs 23 w3 (grow F w.heap.size) p m room (ns ++ [(w.heap.size, k, v)]) → KeepMaps (setBlock (w.alloc (.cells ob 152)) m o) w3 → Ch (grow F w.heap.size) (setBlock (w.alloc (.cells ob 152)) m o) w3 →
        Is w3 (grow F w.heap.size) p room (l ++ [(k, v)]) ∧ Ch F w w3 :=
  LIs.fresh (K := KP) (cs := cs) (d := 23) (v := v) h hk hok Try.underlying149 hob (cs_length k v)

set_option maxRecDepth 100000 in
set_option maxHeartbeats 1000000 in
theorem put_old {w : World} {l : List (PK × SV)} {k : PK} {v v0 : SV} (h : Is w F p room l) (hk : (k, v0) ∈ l) :
    Calls Try.prog 67 #[.pointer (some ⟨p, 0, none⟩), KK k, ZA v] w fun e w' => e = .returned (.tuple #[KK (0, ⟨#[]⟩), .bool false]) ∧
      ∃ n, w.heap.size ≤ n ∧ Is w' (grow F n) p room (use l k v) ∧ Ch F w w' := by
  have hok := h.keys_ok _ hk
  have hb := PW.below w k v
  have h1 := h.below hb
  have D := Lib.hid (drop_hit h1.drew hk)
  have hs := PW.size w k v
  have hlt := h.lt
  obtain ⟨k0, k1⟩ := PW.key w k v
  have hz := Lib.hid (PW.zone w k v)
  have hr := Lib.hid (PW.res w k v)
  have ht := Lib.hid (PW.there w k v)
  clear h hk h1
  go_enter Try.func67, Try.ntmps67
  go_upto_region 1 with fail
  change Code.wp _ _ _ _ (PW w k v)
  revert hb D hs k0 k1 hz hr ht
  generalize PW w k v = w1
  intro hb D hs k0 k1 hz hr ht
  refine wp_region_any (by kernel_rfl) ?_
  change wpAny _ _ _ _ _ _ _ (World.drew _)
  refine wpAny_take (i := 0) (v := .pointer (some ⟨p, 0, none⟩)) rfl (by kernel_rfl) (by kernel_rfl) (by kernel_rfl) (fun _ _ _ h => h) (Or.inl ⟨by rfl, fun w => by go_simp⟩) ?_
  refine wpAny_ready (rs := [1]) (by kernel_rfl) (by simp) ?_
  refine AllReady.cons rfl (fun K hK => ?_) AllReady.nil
  go_simp
  refine hK _ _ ?_
  clear hK K
  refine wpAny_ready (rs := [2]) (by kernel_rfl) (by simp) ?_
  refine AllReady.cons rfl (fun K hK => ?_) AllReady.nil
  go_simp
  refine D.out.mono ?_
  rintro e w2 ⟨rfl, h2, hc2⟩
  simp only []
  refine hK _ _ ?_
  clear hK K
  refine wpAny_rest 3 (by kernel_rfl) (by rfl) (by kernel_rfl) ?_
  simp only [List.drop_succ_cons, List.drop_zero]
  repeat (go_big_quiet_step (fail))
  refine wpQuiet_nil ?_
  intro w3 hw'
  obtain ⟨nq, hw''⟩ := hw'
  have h3 : Is w3 F p room (del l k) := by rw [hw'']; exact h2.drewN nq
  have hc3 : Ch F w1 w3 := by rw [hw'']; exact hc2.of_drew.drewN nq
  clear hw'' h2 hc2 w2 D
  have hs1 := hs
  have hnF : ∀ i, ¬ F (w.heap.size + i) := fun i h => by have := hlt _ h; omega
  have k0' : w3.cell? ⟨w.heap.size, 0, none⟩ = some (.int .i64 k.1) := by rw [hc3.cell (p := ⟨w.heap.size, 0, none⟩) (by simp only; omega) (hnF 0)]; exact k0
  have k1' : w3.cell? ⟨w.heap.size, 1, none⟩ = some (.string k.2) := by rw [hc3.cell (p := ⟨w.heap.size, 1, none⟩) (by simp only; omega) (hnF 0)]; exact k1
  have hz' : w3.rangeAt (w.heap.size + 1) 0 (zc (sv v)) := hc3.range (by omega) (hnF 1) hz.out
  have hr' := hc3.range (by omega) (hnF 2) hr.out
  have ht' := hc3.there (by omega) (hnF 2) ht.out
  have hs3 : w1.heap.size ≤ w3.heap.size := hc3.size
  have hcw := (Ch.of_none hb F).trans hc3 (fun _ _ h => h)
  rw [hs] at hs3
  clear hb hs k0 k1 hz hr ht hc3 hs1 hlt
  have hL : (zc (sv v)).length = 21 := rfl
  go_upto_region 5 with (refine wpList_load_mid (by rfl) 69 (.tmp 5) (by rfl) (w.heap.size + 1) 0 (by rfl) (zc (sv v)) _ hz' Try.underlying69 rfl (size69 _) ?_)
  generalize hA : List.foldl _ _ (zc (sv v)).zipIdx = A
  have hA' : A.toList = cs k v ++ [.pointer none, .pointer none] := by rw [← hA]; exact node_build k v
  clear hA hL hz'
  have hnk := not_mem_del l k
  obtain ⟨m, ns, o, c1, hrun, hr3, hn3, hb3, hfin⟩ := fresh_z (v := v) h3.drew hnk hok hA'
  have c1a : (w3.alloc (.cells A 152)).cell? ⟨p, 1, none⟩ = some (.map (some m)) := c1
  have hruna : (Instr.mapUpdate 149 (.map (some m)) (KK k) (.pointer (some ⟨w3.heap.size, 0, none⟩))).run Try.prog (w3.alloc (.cells A 152)).drew = .ok () (setBlock (w3.alloc (.cells A 152)).drew m o) := hrun
  have k0a : (w3.alloc (.cells A 152)).cell? ⟨w.heap.size, 0, none⟩ = some (.int .i64 k.1) := by rw [World.cell?_alloc_lt _ _ _ (by simp only; omega)]; exact k0'
  have k1a : (w3.alloc (.cells A 152)).cell? ⟨w.heap.size, 1, none⟩ = some (.string k.2) := by rw [World.cell?_alloc_lt _ _ _ (by simp only; omega)]; exact k1'
  have hr3a : RingAt cs 23 (setBlock (w3.alloc (.cells A 152)).drew m o) (grow F w3.heap.size) p m room ns := hr3
  have hn3a : NodeAt cs 23 (setBlock (w3.alloc (.cells A 152)).drew m o) (grow F w3.heap.size) (w3.heap.size, k, v) := hn3
  have hfina : Hid (∀ w6, RingAt cs 23 w6 (grow F w3.heap.size) p m room (ns ++ [(w3.heap.size, k, v)]) → KeepMaps (setBlock (w3.alloc (.cells A 152)).drew m o) w6 → Ch (grow F w3.heap.size) (setBlock (w3.alloc (.cells A 152)).drew m o) w6 →
        Is w6 (grow F w3.heap.size) p room (del l k ++ [(k, v)]) ∧ Ch F w3 w6) := fun w6 h1 h2 h3 => ⟨(hfin w6 h1 h2 h3).1, (hfin w6 h1 h2 h3).2.of_drew⟩
  clear hfin hr3 hn3 hrun c1 k0' k1' h3 hA'
  revert c1a hruna k0a k1a hr3a hn3a hfina
  generalize w3.alloc (.cells A 152) = w4
  intro c1a hruna k0a k1a hr3a hn3a hfina
  go_region
  clear hruna k0a k1a c1a
  revert hr3a hn3a hfina
  generalize setBlock w4.drew m o = w5
  intro hr3a hn3a hfina
  go_wp2_with fail
  refine (last_c hr3a hn3a hb3).mono ?_
  rintro e w6 ⟨rfl, hr4, hk4, hc4⟩
  obtain ⟨f1, f2⟩ := hfina.out w6 hr4 hk4 hc4
  have hr6 := f2.range (by omega) (hnF 2) hr'
  have ht6 := f2.there (by omega) (hnF 2) ht'
  have hs7 := World.rangeAt_setCells_same w6 (w.heap.size + 2) 0 [.int .i64 0, .string ⟨#[]⟩] ht6
  have hI7 := f1.kept (Ch.setCells (F := fun b => b = w.heap.size + 2) (b := w.heap.size + 2) (fun _ => rfl) [.int .i64 0, .string ⟨#[]⟩] 0 (Ch.refl _ w6)) (fun b hb e => by
    subst e
    rcases hb with hb | hb
    · exact hnF 2 hb
    · omega)
  have hc7 : Ch F w (w6.setCells (w.heap.size + 2) 0 [.int .i64 0, .string ⟨#[]⟩]) := Ch.setCells (fun h => by omega) _ _ (hcw.trans f2 (fun _ _ h => h))
  clear f1 f2 hr4 hk4 hc4 hr3a hn3a hfina
  go_wp2_with (first | (refine wpList_load_mid (by rfl) 58 (.tmp 6) (by rfl) (w.heap.size + 2) 0 (by rfl) [.int .i64 0, .string ⟨#[]⟩] _ hr6 Try.underlying58 rfl size58 ?_) | (refine wpList_store_mid (by rfl) 58 (.tmp 6) (.tmp 49) (by rfl) (w.heap.size + 2) 0 #[.int .i64 0, .string ⟨#[]⟩] (by rfl) (by rfl) ht6 (size58 (x := .int .i64 0) (y := .string ⟨#[]⟩)) (by simp [Value.oneCell']) ?_))
  exact ret_cell_tmp Try.results67 rfl rfl rfl hs7 Try.underlying58 rfl size58 ⟨rfl, w3.heap.size, by omega, hI7, hc7⟩

set_option maxRecDepth 100000 in
set_option maxHeartbeats 1000000 in
theorem put_new {w : World} {l : List (PK × SV)} {k : PK} {v : SV} (h : Is w F p room l) (hk : k ∉ l.map Prod.fst) (hok : KP.ok k) (hl : (l.length : Int) < room) :
    Calls Try.prog 67 #[.pointer (some ⟨p, 0, none⟩), KK k, ZA v] w fun e w' => e = .returned (.tuple #[KK (0, ⟨#[]⟩), .bool false]) ∧
      ∃ n, w.heap.size ≤ n ∧ Is w' (grow F n) p room (l ++ [(k, v)]) ∧ Ch F w w' := by
  have hb := PW.below w k v
  have h1 := h.below hb
  have D := Lib.hid (drop_miss h1.drew hk hok)
  have hs := PW.size w k v
  have hlt := h.lt
  obtain ⟨k0, k1⟩ := PW.key w k v
  have hz := Lib.hid (PW.zone w k v)
  have hr := Lib.hid (PW.res w k v)
  have ht := Lib.hid (PW.there w k v)
  clear h
  go_enter Try.func67, Try.ntmps67
  go_upto_region 1 with fail
  change Code.wp _ _ _ _ (PW w k v)
  revert hb h1 D hs k0 k1 hz hr ht
  generalize PW w k v = w1
  intro hb h1 D hs k0 k1 hz hr ht
  refine wp_region_any (by kernel_rfl) ?_
  change wpAny _ _ _ _ _ _ _ (World.drew _)
  refine wpAny_take (i := 0) (v := .pointer (some ⟨p, 0, none⟩)) rfl (by kernel_rfl) (by kernel_rfl) (by kernel_rfl) (fun _ _ _ h => h) (Or.inl ⟨by rfl, fun w => by go_simp⟩) ?_
  refine wpAny_ready (rs := [1]) (by kernel_rfl) (by simp) ?_
  refine AllReady.cons rfl (fun K hK => ?_) AllReady.nil
  go_simp
  refine hK _ _ ?_
  clear hK K
  refine wpAny_ready (rs := [2]) (by kernel_rfl) (by simp) ?_
  refine AllReady.cons rfl (fun K hK => ?_) AllReady.nil
  go_simp
  refine D.out.mono ?_
  rintro e w2 ⟨rfl, hb2⟩
  have h2 := h1.drew.below hb2
  obtain ⟨m, ns, hl0, hr2, hm2, hF2, hroom⟩ := id h2
  have c0 := hr2.c0
  have c1 := hr2.c1
  have hlen : ∀ n, (Builtin.len_ #[149] 3 #[.map (some m)]).run Try.prog (w2.drewN n) = .ok (.int .i64 l.length) (w2.drewN n) := fun n => by
    have hm' : MapIs KP.val KP.ok (w2.drewN n) m (ns.map fun x => (x.2.1, pt (x.1, 0))) := hm2
    have := hm'.len KP Try.underlying149 3
    rw [← hl0]; simpa using this
  have hc2 : Ch F w1 w2 := (Ch.of_none hb2 F).of_drew
  clear hr2 hm2 hF2 hl0 hb2 h1 D
  simp only []
  refine hK _ _ ?_
  clear hK K
  refine wpAny_rest 3 (by kernel_rfl) (by rfl) (by kernel_rfl) ?_
  simp only [List.drop_succ_cons, List.drop_zero]
  repeat (go_big_quiet_step (fail))
  refine wpQuiet_nil ?_
  intro w3 hw'
  obtain ⟨nq, hw''⟩ := hw'
  have h3 : Is w3 F p room l := by rw [hw'']; exact h2.drewN nq
  have hc3 : Ch F w1 w3 := by rw [hw'']; exact hc2.drewN nq
  clear hw'' h2 hc2 c0 c1 hlen w2
  have hs1 := hs
  have hnF : ∀ i, ¬ F (w.heap.size + i) := fun i h => by have := hlt _ h; omega
  have k0' : w3.cell? ⟨w.heap.size, 0, none⟩ = some (.int .i64 k.1) := by rw [hc3.cell (p := ⟨w.heap.size, 0, none⟩) (by simp only; omega) (hnF 0)]; exact k0
  have k1' : w3.cell? ⟨w.heap.size, 1, none⟩ = some (.string k.2) := by rw [hc3.cell (p := ⟨w.heap.size, 1, none⟩) (by simp only; omega) (hnF 0)]; exact k1
  have hz' : w3.rangeAt (w.heap.size + 1) 0 (zc (sv v)) := hc3.range (by omega) (hnF 1) hz.out
  have hr' := hc3.range (by omega) (hnF 2) hr.out
  have ht' := hc3.there (by omega) (hnF 2) ht.out
  have hs3 : w.heap.size + 3 ≤ w3.heap.size := by have := hc3.size; omega
  have hcw := (Ch.of_none hb F).trans hc3 (fun _ _ h => h)
  clear hb hs k0 k1 hz hr ht hc3 hs1 hlt
  have hL : (zc (sv v)).length = 21 := rfl
  go_upto_region 5 with (refine wpList_load_mid (by rfl) 69 (.tmp 5) (by rfl) (w.heap.size + 1) 0 (by rfl) (zc (sv v)) _ hz' Try.underlying69 rfl (size69 _) ?_)
  generalize hA : List.foldl _ _ (zc (sv v)).zipIdx = A
  have hA' : A.toList = cs k v ++ [.pointer none, .pointer none] := by rw [← hA]; exact node_build k v
  clear hA hL hz'
  have hnk := hk
  obtain ⟨m, ns, o, c1, hrun, hr3, hn3, hb3, hfin⟩ := fresh_z (v := v) h3.drew hnk hok hA'
  have c1a : (w3.alloc (.cells A 152)).cell? ⟨p, 1, none⟩ = some (.map (some m)) := c1
  have hruna : (Instr.mapUpdate 149 (.map (some m)) (KK k) (.pointer (some ⟨w3.heap.size, 0, none⟩))).run Try.prog (w3.alloc (.cells A 152)).drew = .ok () (setBlock (w3.alloc (.cells A 152)).drew m o) := hrun
  have k0a : (w3.alloc (.cells A 152)).cell? ⟨w.heap.size, 0, none⟩ = some (.int .i64 k.1) := by rw [World.cell?_alloc_lt _ _ _ (by simp only; omega)]; exact k0'
  have k1a : (w3.alloc (.cells A 152)).cell? ⟨w.heap.size, 1, none⟩ = some (.string k.2) := by rw [World.cell?_alloc_lt _ _ _ (by simp only; omega)]; exact k1'
  have hr3a : RingAt cs 23 (setBlock (w3.alloc (.cells A 152)).drew m o) (grow F w3.heap.size) p m room ns := hr3
  have hn3a : NodeAt cs 23 (setBlock (w3.alloc (.cells A 152)).drew m o) (grow F w3.heap.size) (w3.heap.size, k, v) := hn3
  have hfina : Hid (∀ w6, RingAt cs 23 w6 (grow F w3.heap.size) p m room (ns ++ [(w3.heap.size, k, v)]) → KeepMaps (setBlock (w3.alloc (.cells A 152)).drew m o) w6 → Ch (grow F w3.heap.size) (setBlock (w3.alloc (.cells A 152)).drew m o) w6 →
        Is w6 (grow F w3.heap.size) p room (l ++ [(k, v)]) ∧ Ch F w3 w6) := fun w6 h1 h2 h3 => ⟨(hfin w6 h1 h2 h3).1, (hfin w6 h1 h2 h3).2.of_drew⟩
  clear hfin hr3 hn3 hrun c1 k0' k1' h3 hA'
  revert c1a hruna k0a k1a hr3a hn3a hfina
  generalize w3.alloc (.cells A 152) = w4
  intro c1a hruna k0a k1a hr3a hn3a hfina
  go_region
  clear hruna k0a k1a c1a
  revert hr3a hn3a hfina
  generalize setBlock w4.drew m o = w5
  intro hr3a hn3a hfina
  go_wp2_with fail
  refine (last_c hr3a hn3a hb3).mono ?_
  rintro e w6 ⟨rfl, hr4, hk4, hc4⟩
  obtain ⟨f1, f2⟩ := hfina.out w6 hr4 hk4 hc4
  have hr6 := f2.range (by omega) (hnF 2) hr'
  have ht6 := f2.there (by omega) (hnF 2) ht'
  have hs7 := World.rangeAt_setCells_same w6 (w.heap.size + 2) 0 [.int .i64 0, .string ⟨#[]⟩] ht6
  have hI7 := f1.kept (Ch.setCells (F := fun b => b = w.heap.size + 2) (b := w.heap.size + 2) (fun _ => rfl) [.int .i64 0, .string ⟨#[]⟩] 0 (Ch.refl _ w6)) (fun b hb e => by
    subst e
    rcases hb with hb | hb
    · exact hnF 2 hb
    · omega)
  have hc7 : Ch F w (w6.setCells (w.heap.size + 2) 0 [.int .i64 0, .string ⟨#[]⟩]) := Ch.setCells (fun h => by omega) _ _ (hcw.trans f2 (fun _ _ h => h))
  clear f1 f2 hr4 hk4 hc4 hr3a hn3a hfina
  go_wp2_with (first | (refine wpList_load_mid (by rfl) 58 (.tmp 6) (by rfl) (w.heap.size + 2) 0 (by rfl) [.int .i64 0, .string ⟨#[]⟩] _ hr6 Try.underlying58 rfl size58 ?_) | (refine wpList_store_mid (by rfl) 58 (.tmp 6) (.tmp 49) (by rfl) (w.heap.size + 2) 0 #[.int .i64 0, .string ⟨#[]⟩] (by rfl) (by rfl) ht6 (size58 (x := .int .i64 0) (y := .string ⟨#[]⟩)) (by simp [Value.oneCell']) ?_))
  exact ret_cell_tmp Try.results67 rfl rfl rfl hs7 Try.underlying58 rfl size58 ⟨rfl, w3.heap.size, by omega, hI7, hc7⟩

set_option maxRecDepth 100000 in
set_option maxHeartbeats 1000000 in
theorem put_full {w : World} {r : List (PK × SV)} {k q : PK} {v v0 : SV} (h : Is w F p room ((q, v0) :: r)) (hk : k ∉ ((q, v0) :: r).map Prod.fst) (hok : KP.ok k) (hl : room ≤ (((q, v0) :: r).length : Int)) :
    Calls Try.prog 67 #[.pointer (some ⟨p, 0, none⟩), KK k, ZA v] w fun e w' => e = .returned (.tuple #[KK q, .bool true]) ∧
      ∃ n, w.heap.size ≤ n ∧ Is w' (grow F n) p room (r ++ [(k, v)]) ∧ Ch F w w' := by
  have hb := PW.below w k v
  have h1 := h.below hb
  have D := Lib.hid (drop_miss h1.drew hk hok)
  have hs := PW.size w k v
  have hlt := h.lt
  have hnd := h.nodup
  have hdel : del ((q, v0) :: r) q = r := by
    simp only [List.map_cons, List.nodup_cons] at hnd
    unfold del
    rw [List.filter_cons_of_neg (by simp)]
    exact del_none hnd.1
  have hnk : k ∉ r.map Prod.fst := fun e => hk (by simp only [List.map_cons, List.mem_cons]; exact Or.inr e)
  obtain ⟨N, hN⟩ : ∃ N : Nat, N = ((q, v0) :: r).length := ⟨_, rfl⟩
  rw [← hN] at hl
  have HN := Lib.hid hN
  have HD := Lib.hid hdel
  clear hN hnd hdel
  obtain ⟨k0, k1⟩ := PW.key w k v
  have hz := Lib.hid (PW.zone w k v)
  have hr := Lib.hid (PW.res w k v)
  have ht := Lib.hid (PW.there w k v)
  clear h hk
  go_enter Try.func67, Try.ntmps67
  go_upto_region 1 with fail
  change Code.wp _ _ _ _ (PW w k v)
  revert hb h1 D hs k0 k1 hz hr ht
  generalize PW w k v = w1
  intro hb h1 D hs k0 k1 hz hr ht
  refine wp_region_any (by kernel_rfl) ?_
  change wpAny _ _ _ _ _ _ _ (World.drew _)
  refine wpAny_take (i := 0) (v := .pointer (some ⟨p, 0, none⟩)) rfl (by kernel_rfl) (by kernel_rfl) (by kernel_rfl) (fun _ _ _ h => h) (Or.inl ⟨by rfl, fun w => by go_simp⟩) ?_
  refine wpAny_ready (rs := [1]) (by kernel_rfl) (by simp) ?_
  refine AllReady.cons rfl (fun K hK => ?_) AllReady.nil
  go_simp
  refine hK _ _ ?_
  clear hK K
  refine wpAny_ready (rs := [2]) (by kernel_rfl) (by simp) ?_
  refine AllReady.cons rfl (fun K hK => ?_) AllReady.nil
  go_simp
  refine D.out.mono ?_
  rintro e w2 ⟨rfl, hb2⟩
  have h2 := h1.drew.below hb2
  obtain ⟨m, ns, hl0, hr2, hm2, hF2, hroom⟩ := id h2
  have c0 := hr2.c0
  have c1 := hr2.c1
  have hlen : ∀ n, (Builtin.len_ #[149] 3 #[.map (some m)]).run Try.prog (w2.drewN n) = .ok (.int .i64 N) (w2.drewN n) := fun n => by
    have hm' : MapIs KP.val KP.ok (w2.drewN n) m (ns.map fun x => (x.2.1, pt (x.1, 0))) := hm2
    have := hm'.len KP Try.underlying149 3
    rw [HN.out, ← hl0]; simpa using this
  have hc2 : Ch F w1 w2 := (Ch.of_none hb2 F).of_drew
  clear hr2 hm2 hF2 hl0 hb2 h1 D
  simp only []
  refine hK _ _ ?_
  clear hK K
  refine wpAny_rest 3 (by kernel_rfl) (by rfl) (by kernel_rfl) ?_
  simp only [List.drop_succ_cons, List.drop_zero]
  repeat (go_big_quiet_step (fail))
  refine wpQuiet_nil ?_
  intro w3 hw'
  obtain ⟨nq, hw''⟩ := hw'
  have h3 : Is w3 F p room ((q, v0) :: r) := by rw [hw'']; exact h2.drewN nq
  have hc3 : Ch F w1 w3 := by rw [hw'']; exact hc2.drewN nq
  clear hw'' h2 hc2 c0 c1 hlen w2
  obtain ⟨b0, c5, hb0⟩ := h3.head
  have hq0 : w3.rangeAt b0 0 [.int .i64 q.1, .string q.2] := fun j u hu => by
    have hj : j < 2 := (List.getElem?_eq_some_iff.1 hu).1
    rw [Nat.zero_add, hb0 j (by omega), ← hu]
    show ([Value.int .i64 q.1, .string q.2] ++ zc (sv v0))[j]? = _
    rw [List.getElem?_append_left (by simpa using hj)]
  have hnF' : ¬ F (w.heap.size + 2) := fun h => by have := hlt _ h; omega
  have ht3 := hc3.there (by omega) hnF' ht.out
  have hss := World.rangeAt_setCells_same w3 (w.heap.size + 2) 0 [.int .i64 q.1, .string q.2] ht3
  have hsc : Ch (fun b => b = w.heap.size + 2) w3 (w3.setCells (w.heap.size + 2) 0 [.int .i64 q.1, .string q.2]) := Ch.setCells (F := fun b => b = w.heap.size + 2) (fun _ => rfl) _ _ (Ch.refl _ _)
  have hs3' := hc3.size
  have D2 := Lib.hid (drop_hit (h3.kept hsc (fun b hb e => by subst e; exact hnF' hb)) (k := q) (v := v0) (by simp))
  go_upto_region 3 with (first | (refine wpList_load_mid (by rfl) 58 (.tmp 31) (by rfl) b0 0 (by rfl) [.int .i64 q.1, .string q.2] _ hq0 Try.underlying58 rfl size58 ?_) | (refine wpList_store_mid (by rfl) 58 (.tmp 6) (.tmp 32) (by rfl) (w.heap.size + 2) 0 #[.int .i64 q.1, .string q.2] (by rfl) (by rfl) ht3 (size58 (x := .int .i64 q.1) (y := .string q.2)) (by simp [Value.oneCell']) ?_))
  change Code.wp _ _ _ _ (w3.setCells (w.heap.size + 2) 0 [.int .i64 q.1, .string q.2])
  have hz4 := hsc.range (by omega) (by omega) (hc3.range (by omega) (fun h => by have := hlt _ h; omega) hz.out)
  have ht4 := World.there_setCells ht3 (w.heap.size + 2) 0 [.int .i64 q.1, .string q.2]
  have k04 : (w3.setCells (w.heap.size + 2) 0 [.int .i64 q.1, .string q.2]).cell? ⟨w.heap.size, 0, none⟩ = some (.int .i64 k.1) := by
    rw [hsc.cell (p := ⟨w.heap.size, 0, none⟩) (by simp only; omega) (by simp only; omega), hc3.cell (p := ⟨w.heap.size, 0, none⟩) (by simp only; omega) (fun h => by have := hlt _ h; simp only at this; omega)]; exact k0
  have k14 : (w3.setCells (w.heap.size + 2) 0 [.int .i64 q.1, .string q.2]).cell? ⟨w.heap.size, 1, none⟩ = some (.string k.2) := by
    rw [hsc.cell (p := ⟨w.heap.size, 1, none⟩) (by simp only; omega) (by simp only; omega), hc3.cell (p := ⟨w.heap.size, 1, none⟩) (by simp only; omega) (fun h => by have := hlt _ h; simp only at this; omega)]; exact k1
  have hb4 : Ch F w (w3.setCells (w.heap.size + 2) 0 [.int .i64 q.1, .string q.2]) := Ch.setCells (fun h => by omega) _ _ ((Ch.of_none hb F).trans hc3 (fun _ _ h => h))
  have hs4 : w.heap.size + 3 ≤ (w3.setCells (w.heap.size + 2) 0 [.int .i64 q.1, .string q.2]).heap.size := by have := hsc.size; omega
  have hz4' := Lib.hid hz4
  have hss' := Lib.hid hss
  have ht4' := Lib.hid ht4
  clear hb hs k0 k1 hz hr ht hc3 c5 hb0 hq0 hnF' ht3 hss hsc hs3' h3 hz4 ht4 hl
  revert D2 k04 k14 hb4 hs4 hz4' hss' ht4'
  generalize w3.setCells (w.heap.size + 2) 0 [.int .i64 q.1, .string q.2] = w1
  intro D2 k0 k1 hb hs hz hr ht
  clear w3
  go_wp2_with (refine wpList_load_mid (by rfl) 58 (.tmp 6) (by rfl) (w.heap.size + 2) 0 (by rfl) [.int .i64 q.1, .string q.2] _ hr.out Try.underlying58 rfl size58 ?_)
  refine D2.out.mono ?_
  clear D2
  rintro e w3 ⟨rfl, h3, hc3⟩
  rw [HD.out] at h3
  go_upto_region 4 with fail
  have hs1 := hs
  have hnF : ∀ i, ¬ F (w.heap.size + i) := fun i h => by have := hlt _ h; omega
  have k0' : w3.cell? ⟨w.heap.size, 0, none⟩ = some (.int .i64 k.1) := by rw [hc3.cell (p := ⟨w.heap.size, 0, none⟩) (by simp only; omega) (hnF 0)]; exact k0
  have k1' : w3.cell? ⟨w.heap.size, 1, none⟩ = some (.string k.2) := by rw [hc3.cell (p := ⟨w.heap.size, 1, none⟩) (by simp only; omega) (hnF 0)]; exact k1
  have hz' : w3.rangeAt (w.heap.size + 1) 0 (zc (sv v)) := hc3.range (by omega) (hnF 1) hz.out
  have hr' := hc3.range (by omega) (hnF 2) hr.out
  have ht' := hc3.there (by omega) (hnF 2) ht.out
  have hs3 : w.heap.size + 3 ≤ w3.heap.size := by have := hc3.size; omega
  have hcw := hb.trans hc3 (fun _ _ h => h)
  clear hb hs k0 k1 hz hr ht hc3 hs1 hlt
  have hL : (zc (sv v)).length = 21 := rfl
  go_upto_region 5 with (refine wpList_load_mid (by rfl) 69 (.tmp 5) (by rfl) (w.heap.size + 1) 0 (by rfl) (zc (sv v)) _ hz' Try.underlying69 rfl (size69 _) ?_)
  generalize hA : List.foldl _ _ (zc (sv v)).zipIdx = A
  have hA' : A.toList = cs k v ++ [.pointer none, .pointer none] := by rw [← hA]; exact node_build k v
  clear hA hL hz'
  obtain ⟨m, ns, o, c1, hrun, hr3, hn3, hb3, hfin⟩ := fresh_z (v := v) h3.drew hnk hok hA'
  have c1a : (w3.alloc (.cells A 152)).cell? ⟨p, 1, none⟩ = some (.map (some m)) := c1
  have hruna : (Instr.mapUpdate 149 (.map (some m)) (KK k) (.pointer (some ⟨w3.heap.size, 0, none⟩))).run Try.prog (w3.alloc (.cells A 152)).drew = .ok () (setBlock (w3.alloc (.cells A 152)).drew m o) := hrun
  have k0a : (w3.alloc (.cells A 152)).cell? ⟨w.heap.size, 0, none⟩ = some (.int .i64 k.1) := by rw [World.cell?_alloc_lt _ _ _ (by simp only; omega)]; exact k0'
  have k1a : (w3.alloc (.cells A 152)).cell? ⟨w.heap.size, 1, none⟩ = some (.string k.2) := by rw [World.cell?_alloc_lt _ _ _ (by simp only; omega)]; exact k1'
  have hr3a : RingAt cs 23 (setBlock (w3.alloc (.cells A 152)).drew m o) (grow F w3.heap.size) p m room ns := hr3
  have hn3a : NodeAt cs 23 (setBlock (w3.alloc (.cells A 152)).drew m o) (grow F w3.heap.size) (w3.heap.size, k, v) := hn3
  have hfina : Hid (∀ w6, RingAt cs 23 w6 (grow F w3.heap.size) p m room (ns ++ [(w3.heap.size, k, v)]) → KeepMaps (setBlock (w3.alloc (.cells A 152)).drew m o) w6 → Ch (grow F w3.heap.size) (setBlock (w3.alloc (.cells A 152)).drew m o) w6 →
        Is w6 (grow F w3.heap.size) p room (r ++ [(k, v)]) ∧ Ch F w3 w6) := fun w6 h1 h2 h3 => ⟨(hfin w6 h1 h2 h3).1, (hfin w6 h1 h2 h3).2.of_drew⟩
  clear hfin hr3 hn3 hrun c1 k0' k1' h3 hA'
  revert c1a hruna k0a k1a hr3a hn3a hfina
  generalize w3.alloc (.cells A 152) = w4
  intro c1a hruna k0a k1a hr3a hn3a hfina
  go_region
  clear hruna k0a k1a c1a
  revert hr3a hn3a hfina
  generalize setBlock w4.drew m o = w5
  intro hr3a hn3a hfina
  go_wp2_with fail
  refine (last_c hr3a hn3a hb3).mono ?_
  rintro e w6 ⟨rfl, hr4, hk4, hc4⟩
  obtain ⟨f1, f2⟩ := hfina.out w6 hr4 hk4 hc4
  have hr6 := f2.range (by omega) (hnF 2) hr'
  have ht6 := f2.there (by omega) (hnF 2) ht'
  have hs7 := World.rangeAt_setCells_same w6 (w.heap.size + 2) 0 [.int .i64 q.1, .string q.2] ht6
  have hI7 := f1.kept (Ch.setCells (F := fun b => b = w.heap.size + 2) (b := w.heap.size + 2) (fun _ => rfl) [.int .i64 q.1, .string q.2] 0 (Ch.refl _ w6)) (fun b hb e => by
    subst e
    rcases hb with hb | hb
    · exact hnF 2 hb
    · omega)
  have hc7 : Ch F w (w6.setCells (w.heap.size + 2) 0 [.int .i64 q.1, .string q.2]) := Ch.setCells (fun h => by omega) _ _ (hcw.trans f2 (fun _ _ h => h))
  clear f1 f2 hr4 hk4 hc4 hr3a hn3a hfina
  go_wp2_with (first | (refine wpList_load_mid (by rfl) 58 (.tmp 6) (by rfl) (w.heap.size + 2) 0 (by rfl) [.int .i64 q.1, .string q.2] _ hr6 Try.underlying58 rfl size58 ?_) | (refine wpList_store_mid (by rfl) 58 (.tmp 6) (.tmp 49) (by rfl) (w.heap.size + 2) 0 #[.int .i64 q.1, .string q.2] (by rfl) (by rfl) ht6 (size58 (x := .int .i64 q.1) (y := .string q.2)) (by simp [Value.oneCell']) ?_))
  exact ret_cell_tmp Try.results67 rfl rfl rfl hs7 Try.underlying58 rfl size58 ⟨rfl, w3.heap.size, by omega, hI7, hc7⟩


theorem get_c {w : World} {l : List (PK × SV)} {k : PK} (h : Is w F p room l) (hok : KP.ok k) :
    Calls Try.prog 64 #[.pointer (some ⟨p, 0, none⟩), KK k] w fun e w' => e = .returned (.tuple #[ZA (if has l k then valOf l k (none, 0, 0) else (none, 0, 0)), .bool (has l k)]) ∧ Is w' F p room (getS l k (none, 0, 0)) ∧ Ch F w w' := by
  cases hh : has l k with
  | true =>
    have hm := has_iff.1 hh
    refine (get_hit h (valOf_mem hm (none, 0, 0))).mono fun e w' ⟨h1, h2, h3⟩ => ⟨by simpa using h1, ?_, h3⟩
    unfold getS; rw [hh]; exact h2
  | false =>
    refine (get_miss h (has_false.1 hh) hok).mono fun e w' ⟨h1, h2⟩ => ?_
    refine ⟨by simpa using h1, ?_, Ch.of_none h2 F⟩
    unfold getS; rw [hh]; exact h.below h2

theorem drop_c {w : World} {l : List (PK × SV)} {k : PK} (h : Is w F p room l) (hok : KP.ok k) :
    Calls Try.prog 69 #[.pointer (some ⟨p, 0, none⟩), KK k] w fun e w' => e = .returned (.bool (has l k)) ∧ Is w' F p room (del l k) ∧ Ch F w w' := by
  cases hh : has l k with
  | true => exact drop_hit h (valOf_mem (has_iff.1 hh) (none, 0, 0))
  | false =>
    refine (drop_miss h (has_false.1 hh) hok).mono fun e w' ⟨h1, h2⟩ => ?_
    exact ⟨h1, by rw [del_none (has_false.1 hh)]; exact h.below h2, Ch.of_none h2 F⟩

theorem put_c {w : World} {l : List (PK × SV)} {k : PK} {v : SV} (h : Is w F p room l) (hok : KP.ok k) :
    Calls Try.prog 67 #[.pointer (some ⟨p, 0, none⟩), KK k, ZA v] w fun e w' => e = .returned (.tuple #[KK (goneK room l k (0, ⟨#[]⟩)), .bool (goes room l k)]) ∧
      ∃ n, w.heap.size ≤ n ∧ Is w' (grow F n) p room (putS room l k v) ∧ Ch F w w' := by
  cases hh : has l k with
  | true =>
    have hg : goes room l k = false := by simp [goes, hh]
    have := put_old (v := v) h (valOf_mem (has_iff.1 hh) (none, 0, 0))
    simp only [goneK, putS, hg, hh, if_true, Bool.false_eq_true, if_false]
    exact this
  | false =>
    by_cases hl : room ≤ (l.length : Int)
    · have hg : goes room l k = true := by simp [goes, hh, hl]
      cases l with
      | nil =>
        obtain ⟨_, _, _, _, _, _, hr⟩ := h
        simp only [List.length_nil] at hl; omega
      | cons x r =>
        have := put_full (v := v) h (has_false.1 hh) hok hl
        simp only [goneK, putS, hg, hh, if_true, Bool.false_eq_true, if_false, List.head?_cons, Option.map_some, Option.getD_some, List.tail_cons]
        exact this
    · have hg : goes room l k = false := by simp [goes, hl]
      have := put_new (v := v) h (has_false.1 hh) hok (by omega)
      simp only [goneK, putS, hg, hh, Bool.false_eq_true, if_false]
      exact this

end KZ
end Go.Proofs.Ytnnaidladcdbdaa
