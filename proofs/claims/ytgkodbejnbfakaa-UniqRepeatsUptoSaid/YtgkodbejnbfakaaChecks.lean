/-
  What uniq's checks return, walked once.
-/
import Derived.Test.YtgkodbejnbfakaaNew
namespace Go.Proofs.Ytgkodbejnbfakaa
open Go.RowKit
theorem firstFrom_nonneg {α : Type} [DecidableEq α] : ∀ (l : List α) (es : List (α × Int)) (i : Nat) (f : Int), 0 ≤ f → firstFrom es i f l = f
  | [], _, _, _, _ => rfl
  | x :: r, es, i, f, h => by
    unfold firstFrom
    split
    · exact firstFrom_nonneg r _ _ _ h
    · rw [if_neg (by omega)]; exact firstFrom_nonneg r _ _ _ h
theorem firstFrom_rep {α : Type} [DecidableEq α] : ∀ (l seen : List α) (es : List (α × Int)) (i : Nat), (∀ x, getv es x = none ↔ x ∉ seen) → firstFrom es i (-1) l = repFrom seen i l
  | [], _, _, _, _ => rfl
  | x :: r, seen, es, i, h => by
    unfold firstFrom repFrom
    by_cases hm : x ∈ seen
    · have hg : ¬ getv es x = none := fun e => (h x).1 e hm
      rw [if_neg (by simpa using hg), if_pos hm, if_pos (by decide)]
      exact firstFrom_nonneg r _ _ _ (by omega)
    · have hg := (h x).2 hm
      rw [if_pos (by simp [hg]), if_neg hm]
      refine firstFrom_rep r _ _ _ fun y => ?_
      rw [getv_append]
      by_cases hxy : x = y
      · subst hxy; simp
      · have := h y
        simp only [hxy, if_false, Option.or_none, List.mem_append, List.mem_singleton, not_or]
        rw [this]
        constructor
        · intro h1; exact ⟨h1, fun e => hxy e.symm⟩
        · exact fun h1 => h1.1
theorem first_rep {α : Type} [DecidableEq α] (l : List α) : firstFrom ([] : List (α × Int)) 0 (-1) l = rep l := firstFrom_rep l [] [] 0 (fun x => by simp [getv])
set_option maxRecDepth 100000 in
set_option maxHeartbeats 1000000 in
theorem repeated_ok (l : List Int) (A : Option Addr) (cp : Nat) (hl : l.length ≤ 1048576) (hu : ∀ x ∈ l, wU16 x) (w : World) (hP : Rd w w.heap.size 1 A l.length (l.map (Value.int .u16))) :
    Calls Try.prog 32 #[.slice A l.length cp] w fun e w' => e = .returned (.int .i64 (rep l)) ∧ Below w.heap.size w w' := by
  have hmm := @run_makeMap Try.prog
  rw [← first_rep]
  go_enter Try.func32, Try.ntmps32
  go_wp2_with (go_at_call 53; refine (collectU16_ok l A cp hl hu _ _ ((hP.alloc (Nat.le_refl _) _).more (by simp)) (MapIs.made _ _ _ _ _)).mono ?_; rintro e w1 ⟨rfl, hm1, hg1⟩)
  go_ret
  exact ⟨rfl, below_grown ((Below.refl _ _).alloc (Nat.le_refl _) _) hg1 (by simp) (Nat.le_refl _)⟩
/-- a list of two numbers, just laid -/
theorem two_new (w : World) (a b : Int) (t : TypeId) : Rd (w.alloc (.cells #[.int .i64 a, .int .i64 b] t)) (w.alloc (.cells #[.int .i64 a, .int .i64 b] t)).heap.size 1 (some ⟨w.heap.size, 0, none⟩) 2 ([a, b].map (Value.int .i64)) := by
  refine ⟨rfl, fun _ => ⟨_, _, rfl, by simp, fun j u hu => ?_⟩⟩
  have := World.news_of_block (heap_alloc_new w (.cells #[.int .i64 a, .int .i64 b] t)) j u (by simpa using hu)
  rwa [addr_add] at this
theorem one_new (w : World) (a : Int) (t : TypeId) : Rd (w.alloc (.cells #[.int .i64 a] t)) (w.alloc (.cells #[.int .i64 a] t)).heap.size 1 (some ⟨w.heap.size, 0, none⟩) 1 ([a].map (Value.int .i64)) := by
  refine ⟨rfl, fun _ => ⟨_, _, rfl, by simp, fun j u hu => ?_⟩⟩
  have := World.news_of_block (heap_alloc_new w (.cells #[.int .i64 a] t)) j u (by simpa using hu)
  rwa [addr_add] at this
theorem MapIs.drew {α β : Type} {w : World} {P : Program} {K : TypeId} {key : α → Value} {val : β → Value} {b : Nat} {es : List (α × β)} (h : MapIs w P K key val b es) : MapIs w.drew P K key val b es := h
/-- where a check of a configuration stands when its argument is boxed and its result is laid -/
structure FltSt (w W : World) (c : Cfg) (A1 A2 A3 A4 A5 : Option Addr) (c1 c2 c3 c4 c5 : Nat) : Prop where
  hz : w.heap.size + 1 < W.heap.size
  bel : Below w.heap.size w W
  x0 : W.cell? ⟨w.heap.size, 0, none⟩ = some (.int .u64 c.frame)
  x1 : W.cell? ⟨w.heap.size, 1, none⟩ = some (.slice A1 c.parts.length c1)
  x2 : W.cell? ⟨w.heap.size, 2, none⟩ = some (.slice A2 c.wins.length c2)
  x3 : W.cell? ⟨w.heap.size, 3, none⟩ = some (.slice A3 c.regs.length c3)
  x4 : W.cell? ⟨w.heap.size, 4, none⟩ = some (.slice A4 c.ports.length c4)
  x5 : W.cell? ⟨w.heap.size, 5, none⟩ = some (.slice A5 c.chans.length c5)
  r0 : W.cell? ⟨w.heap.size + 1, 0, none⟩ = some (.int .i64 0)
  r1 : W.cell? ⟨w.heap.size + 1, 1, none⟩ = some (.int .i64 0)
  r2 : W.cell? ⟨w.heap.size + 1, 2, none⟩ = some (.int .i64 0)
  f0 : W.frozen? ⟨w.heap.size + 1, 0, none⟩ = false
  f1 : W.frozen? ⟨w.heap.size + 1, 1, none⟩ = false
  f2 : W.frozen? ⟨w.heap.size + 1, 2, none⟩ = false
section
variable {w W V : World} {c : Cfg} {A1 A2 A3 A4 A5 : Option Addr} {c1 c2 c3 c4 c5 : Nat}
theorem FltSt.later (h : FltSt w W c A1 A2 A3 A4 A5 c1 c2 c3 c4 c5) (hb : Below W.heap.size W V) : FltSt w V c A1 A2 A3 A4 A5 c1 c2 c3 c4 c5 := by
  have hz := h.hz
  have hs := hb.size
  have hc : ∀ b o, b < W.heap.size → V.cell? ⟨b, o, none⟩ = W.cell? ⟨b, o, none⟩ := fun b o hlt => hb.cell (p := ⟨b, o, none⟩) hlt
  have hf : ∀ b o, b < W.heap.size → V.frozen? ⟨b, o, none⟩ = W.frozen? ⟨b, o, none⟩ := fun b o hlt => hb.frozen (p := ⟨b, o, none⟩) hlt
  exact ⟨by omega, h.bel.trans (hb.mono h.bel.size), (hc _ _ (by omega)).trans h.x0, (hc _ _ (by omega)).trans h.x1, (hc _ _ (by omega)).trans h.x2, (hc _ _ (by omega)).trans h.x3, (hc _ _ (by omega)).trans h.x4, (hc _ _ (by omega)).trans h.x5,
    (hc _ _ (by omega)).trans h.r0, (hc _ _ (by omega)).trans h.r1, (hc _ _ (by omega)).trans h.r2, (hf _ _ (by omega)).trans h.f0, (hf _ _ (by omega)).trans h.f1, (hf _ _ (by omega)).trans h.f2⟩
end
theorem flt_start (w : World) (c : Cfg) (A1 A2 A3 A4 A5 : Option Addr) (c1 c2 c3 c4 c5 : Nat) (t1 t2 : TypeId) :
    FltSt w ((w.alloc (.cells #[.int .u64 c.frame, .slice A1 c.parts.length c1, .slice A2 c.wins.length c2, .slice A3 c.regs.length c3, .slice A4 c.ports.length c4, .slice A5 c.chans.length c5] t1)).alloc (.cells #[.int .i64 0, .int .i64 0, .int .i64 0] t2)) c A1 A2 A3 A4 A5 c1 c2 c3 c4 c5 := by
  refine ⟨by simp, ((Below.refl _ _).alloc (Nat.le_refl _) _).alloc (by simp) _, ?_, ?_, ?_, ?_, ?_, ?_, ?_, ?_, ?_, ?_, ?_, ?_⟩
  all_goals simp [go_sem]
set_option maxRecDepth 100000 in
set_option maxHeartbeats 1000000 in
theorem uChannels_ok (c : Cfg) (A1 A2 A3 A4 A5 : Option Addr) (c1 c2 c3 c4 c5 : Nat) (w : World) (hR : CfgR w w.heap.size c A1 A2 A3 A4 A5 c1 c2 c3 c4 c5) (hs : c.small) (hok : c.ok) :
    Calls Try.prog 24 #[cfgV c.frame A1 A2 A3 A4 A5 c.parts.length c.wins.length c.regs.length c.ports.length c.chans.length c1 c2 c3 c4 c5] w fun e w' =>
      e = .returned (fltV (firstOf 5 [rep (c.chans.map (·.id))])) ∧ Below w.heap.size w w' := by
  have ht : c.total ≤ 1048576 := hs.total
  have b5 : c.chans.length ≤ 1048576 := by unfold Cfg.total at ht; omega
  obtain ⟨cs, hC, hr⟩ := hR.chans
  have HOK := Lib.hid hok.chans
  rw [← first_rep]
  clear hR hs hok ht
  go_enter Try.func24, Try.ntmps24
  go_wp2
  have HST := Lib.hid (flt_start w c A1 A2 A3 A4 A5 c1 c2 c3 c4 c5 29 45)
  generalize hW : World.alloc (World.alloc _ _) (Obj.cells #[Value.int _ _, Value.int _ _, Value.int _ _] _) = W
  have st := HST.out
  rw [hW] at st
  clear hW HST
  have hmm := @run_makeMap Try.prog
  have x5 := st.x5
  have ST := Lib.hid st
  clear st
  go_simp
  go_wp2_with (go_at_call 41; refine (collectChnU_ok c.chans A5 c5 b5 HOK.out _ _ cs ((hC.keep fun _ _ hp => (ST.out.bel.alloc ST.out.bel.size _).cell hp).more (ST.out.bel.alloc ST.out.bel.size _).size) (hr.up (ST.out.bel.alloc ST.out.bel.size _)) (MapIs.made _ _ _ _ _)).mono ?_; rintro e w1 ⟨rfl, hm1, hg1⟩)
  have hbw := below_grown ((Below.refl W.heap.size W).alloc (Nat.le_refl _) _) hg1 (by simp) (Nat.le_refl _)
  refine (first_ok 5 [firstFrom ([] : List (Int × Int)) 0 (-1) (c.chans.map (·.id))] _ _ _ (by simp) (one_new _ _ _)).mono ?_
  rintro e w2 ⟨rfl, hb2⟩
  have st2 := ST.out.later ((hbw.alloc hbw.size _).trans (hb2.mono (Nat.le_trans hbw.size (by simp))))
  have r0 := st2.r0
  have r1 := st2.r1
  have r2 := st2.r2
  have f0 := st2.f0
  have f1 := st2.f1
  have f2 := st2.f2
  have hz2 := st2.hz
  have HBEL := Lib.hid st2.bel
  clear st2 hbw hb2 hm1 hg1
  go_wp2
  refine bodyPost_ret (v := fltV (firstOf 5 [firstFrom ([] : List (Int × Int)) 0 (-1) (c.chans.map (·.id))])) (by simp [results, Try.results24, go_sem, r0, r1, r2]) rfl ⟨rfl, ?_⟩
  exact ((HBEL.out.setCell (by simp) _).setCell (by simp) _).setCell (by simp) _
set_option maxRecDepth 100000 in
set_option maxHeartbeats 2000000 in
theorem uPartitions_ok (c : Cfg) (A1 A2 A3 A4 A5 : Option Addr) (c1 c2 c3 c4 c5 : Nat) (w : World) (hR : CfgR w w.heap.size c A1 A2 A3 A4 A5 c1 c2 c3 c4 c5) (hs : c.small) (hok : c.ok) :
    Calls Try.prog 19 #[cfgV c.frame A1 A2 A3 A4 A5 c.parts.length c.wins.length c.regs.length c.ports.length c.chans.length c1 c2 c3 c4 c5] w fun e w' =>
      e = .returned (fltV (firstOf 1 [rep (c.parts.map (·.id)), rep (c.parts.map (·.name))])) ∧ Below w.heap.size w w' := by
  have ht : c.total ≤ 1048576 := hs.total
  have bb : c.parts.length ≤ 1048576 := by unfold Cfg.total at ht; omega
  have HP := Lib.hid hR.parts
  have HOK := Lib.hid hok.parts
  rw [← first_rep, ← first_rep]
  clear hR hs hok ht
  go_enter Try.func19, Try.ntmps19
  go_wp2
  have HST := Lib.hid (flt_start w c A1 A2 A3 A4 A5 c1 c2 c3 c4 c5 29 45)
  generalize hW : World.alloc (World.alloc _ _) (Obj.cells #[Value.int _ _, Value.int _ _, Value.int _ _] _) = W
  have st := HST.out
  rw [hW] at st
  clear hW HST
  have hmm := @run_makeMap Try.prog
  have x := st.x1
  have hz := st.hz
  have ST := Lib.hid st
  have HB := Lib.hid st.bel
  clear st
  go_region_held3 (fun w' => w'.cell? ⟨w.heap.size, 1, none⟩ = some (.slice A1 c.parts.length c1)) (first | go_keep | exact x3 | exact x2 | exact x1) (first | (go_at_call 36; refine (collectParU_ok c.parts A1 c1 bb HOK.out _ _ (HP.out.up (by first | exact (HB.out.drew.alloc HB.out.size _) | exact ((HB.out.drew.alloc HB.out.size _).alloc (Nat.le_trans HB.out.size (by simp)) _))) (by first | exact MapIs.made _ _ _ _ _ | exact (MapIs.made _ _ _ _ _).alloc _ | simpa using MapIs.drew (MapIs.made (World.alloc W (Obj.map #[] 0)) Try.prog 30 kU vI))).mono ?_; rintro e V1 ⟨rfl, hm1, hg1⟩; have hb1 : Below W.heap.size W V1 := (by first | exact below_grown ((Below.refl W.heap.size W).drew.alloc (Nat.le_refl _) _) hg1 (by simp) (by simp) | exact below_grown (((Below.refl W.heap.size W).drew.alloc (Nat.le_refl _) _).alloc (by simp) _) hg1 (by simp; omega) (by simp)); have x1 := (ST.out.later hb1).x1) | (go_at_call 49; refine (collectParS_ok c.parts A1 c1 bb HOK.out _ _ (HP.out.up (by first | exact (HB.out.trans (hb1.mono HB.out.size)) | exact ((HB.out.trans (hb1.mono HB.out.size)).alloc (Nat.le_trans HB.out.size hb1.size) _))) (by first | exact MapIs.made _ _ _ _ _ | exact MapIs.grown (MapIs.drew (MapIs.alloc (MapIs.made _ _ _ _ _) _)) hg1 (by simp) | exact MapIs.grown (MapIs.made _ _ _ _ _) hg1 (by simp) | exact MapIs.grown (by simpa using MapIs.drew (MapIs.made (World.alloc W (Obj.map #[] 0)) Try.prog 9 kS vI)) hg1 (by simp))).mono ?_; rintro e V2 ⟨rfl, hm2, hg2⟩; have hb2 : Below W.heap.size W V2 := (by first | exact below_grown hb1 hg2 hb1.size (by first | exact hb1.size | simp) | exact below_grown (hb1.alloc hb1.size _) hg2 (Nat.le_trans hb1.size (by simp)) (by first | exact hb1.size | simp)); have x2 := (ST.out.later hb2).x1) | (go_at_call 48; refine (first_ok 1 [firstFrom ([] : List (Int × Int)) 0 (-1) (c.parts.map (·.id)), firstFrom ([] : List (ByteArray × Int)) 0 (-1) (c.parts.map (·.name))] _ _ _ (by simp) (two_new _ _ _ _)).mono ?_; rintro e V3 ⟨rfl, hb3⟩; have st3 := ST.out.later ((hb2.alloc hb2.size _).trans (hb3.mono (Nat.le_trans hb2.size (by simp)))); have x3 := st3.x1; have r0 := st3.r0; have r1 := st3.r1; have r2 := st3.r2; have f0 := st3.f0; have f1 := st3.f1; have f2 := st3.f2; have hz3 := st3.hz; have HB3 := Lib.hid st3.bel; clear st3))
  all_goals go_wp2
  all_goals
    refine bodyPost_ret (v := fltV (firstOf 1 [firstFrom ([] : List (Int × Int)) 0 (-1) (c.parts.map (·.id)), firstFrom ([] : List (ByteArray × Int)) 0 (-1) (c.parts.map (·.name))])) (by simp [results, Try.results19, go_sem, r0, r1, r2]) rfl ⟨rfl, ?_⟩
    exact ((HB3.out.setCell (by simp) _).setCell (by simp) _).setCell (by simp) _
set_option maxRecDepth 100000 in
set_option maxHeartbeats 2000000 in
theorem uPorts_ok (c : Cfg) (A1 A2 A3 A4 A5 : Option Addr) (c1 c2 c3 c4 c5 : Nat) (w : World) (hR : CfgR w w.heap.size c A1 A2 A3 A4 A5 c1 c2 c3 c4 c5) (hs : c.small) (hok : c.ok) :
    Calls Try.prog 22 #[cfgV c.frame A1 A2 A3 A4 A5 c.parts.length c.wins.length c.regs.length c.ports.length c.chans.length c1 c2 c3 c4 c5] w fun e w' =>
      e = .returned (fltV (firstOf 4 [rep (c.ports.map (·.id)), rep (c.ports.map Prt.key)])) ∧ Below w.heap.size w w' := by
  have ht : c.total ≤ 1048576 := hs.total
  have bb : c.ports.length ≤ 1048576 := by unfold Cfg.total at ht; omega
  have HP := Lib.hid hR.ports
  have HOK := Lib.hid hok.ports
  rw [← first_rep, ← first_rep]
  clear hR hs hok ht
  go_enter Try.func22, Try.ntmps22
  go_wp2
  have HST := Lib.hid (flt_start w c A1 A2 A3 A4 A5 c1 c2 c3 c4 c5 29 45)
  generalize hW : World.alloc (World.alloc _ _) (Obj.cells #[Value.int _ _, Value.int _ _, Value.int _ _] _) = W
  have st := HST.out
  rw [hW] at st
  clear hW HST
  have hmm := @run_makeMap Try.prog
  have x := st.x4
  have hz := st.hz
  have ST := Lib.hid st
  have HB := Lib.hid st.bel
  clear st
  go_region_held3 (fun w' => w'.cell? ⟨w.heap.size, 4, none⟩ = some (.slice A4 c.ports.length c4)) (first | go_keep | exact x3 | exact x2 | exact x1) (first | (go_at_call 39; refine (collectPrtU_ok c.ports A4 c4 bb HOK.out _ _ (HP.out.up (by first | exact (HB.out.drew.alloc HB.out.size _) | exact ((HB.out.drew.alloc HB.out.size _).alloc (Nat.le_trans HB.out.size (by simp)) _))) (by first | exact MapIs.made _ _ _ _ _ | exact (MapIs.made _ _ _ _ _).alloc _ | simpa using MapIs.drew (MapIs.made (World.alloc W (Obj.map #[] 0)) Try.prog 30 kU vI))).mono ?_; rintro e V1 ⟨rfl, hm1, hg1⟩; have hb1 : Below W.heap.size W V1 := (by first | exact below_grown ((Below.refl W.heap.size W).drew.alloc (Nat.le_refl _) _) hg1 (by simp) (by simp) | exact below_grown (((Below.refl W.heap.size W).drew.alloc (Nat.le_refl _) _).alloc (by simp) _) hg1 (by simp; omega) (by simp)); have x1 := (ST.out.later hb1).x4) | (go_at_call 43; refine (collectPrtN_ok c.ports A4 c4 bb HOK.out _ _ (HP.out.up (by first | exact (HB.out.trans (hb1.mono HB.out.size)) | exact ((HB.out.trans (hb1.mono HB.out.size)).alloc (Nat.le_trans HB.out.size hb1.size) _))) (by first | exact MapIs.made _ _ _ _ _ | exact MapIs.grown (MapIs.drew (MapIs.alloc (MapIs.made _ _ _ _ _) _)) hg1 (by simp) | exact MapIs.grown (MapIs.made _ _ _ _ _) hg1 (by simp) | exact MapIs.grown (by simpa using MapIs.drew (MapIs.made (World.alloc W (Obj.map #[] 0)) Try.prog 83 kN vI)) hg1 (by simp))).mono ?_; rintro e V2 ⟨rfl, hm2, hg2⟩; have hb2 : Below W.heap.size W V2 := (by first | exact below_grown hb1 hg2 hb1.size (by first | exact hb1.size | simp) | exact below_grown (hb1.alloc hb1.size _) hg2 (Nat.le_trans hb1.size (by simp)) (by first | exact hb1.size | simp)); have x2 := (ST.out.later hb2).x4) | (go_at_call 48; refine (first_ok 4 [firstFrom ([] : List (Int × Int)) 0 (-1) (c.ports.map (·.id)), firstFrom ([] : List ((Int × ByteArray) × Int)) 0 (-1) (c.ports.map Prt.key)] _ _ _ (by simp) (two_new _ _ _ _)).mono ?_; rintro e V3 ⟨rfl, hb3⟩; have st3 := ST.out.later ((hb2.alloc hb2.size _).trans (hb3.mono (Nat.le_trans hb2.size (by simp)))); have x3 := st3.x4; have r0 := st3.r0; have r1 := st3.r1; have r2 := st3.r2; have f0 := st3.f0; have f1 := st3.f1; have f2 := st3.f2; have hz3 := st3.hz; have HB3 := Lib.hid st3.bel; clear st3))
  all_goals go_wp2
  all_goals
    refine bodyPost_ret (v := fltV (firstOf 4 [firstFrom ([] : List (Int × Int)) 0 (-1) (c.ports.map (·.id)), firstFrom ([] : List ((Int × ByteArray) × Int)) 0 (-1) (c.ports.map Prt.key)])) (by simp [results, Try.results22, go_sem, r0, r1, r2]) rfl ⟨rfl, ?_⟩
    exact ((HB3.out.setCell (by simp) _).setCell (by simp) _).setCell (by simp) _
end Go.Proofs.Ytgkodbejnbfakaa
