/-
  Package demand: short, wrongPeriod, wrongTime, Check, walked.
-/
import Derived.BigQuiet
import Derived.Test.YtpedlbjbbcbbkaaGreatPerW
import Derived.Test.YtpedlbjbbcbbkaaGreatWnO
import Derived.Test.YtpedlbjbbcbbkaaGreatFrmZ
namespace Go.Proofs.YtpedlbjbbcbbkaaGreat
open Go.RowKit Go.Maps Go.Shelf
attribute [local go_sem] ext_cell
theorem natW_perm {L M : List Win} (h : L.Perm M) : (L.map natW).Perm (M.map natW) := h.map natW
/-- what the visit of a partition's windows wants -/
structure ShOk (c : Cfg) (p : Par) (L : List Win) (per D count F : Nat) : Prop where
  eper : p.period = per
  eD : p.duration = D
  eF : c.frame = F
  h0 : 0 < per
  cF : count * per = F
  Dp : D ≤ per
  F64 : F ≤ 18446744073709551615
  af : After F 0 (L.map natW)
  pos : ∀ x ∈ L, 0 ≤ x.start ∧ 0 ≤ x.len
  vis : visits per D count (L.map natW) 0 0 = shortB c p
theorem shOk_of {c : Cfg} {p : Par} {L : List Win} (hok : ∀ x ∈ c.wins, x.ok) (hp : p.ok) (hc : wU64 c.frame) (hw : winBad c = (0, 0, 0)) (h0 : p.period ≠ 0) (h1 : c.frame % p.period = 0) (h2 : ¬ p.period < p.duration)
    (hperm : L.Perm (c.wins.filter (keepW p.id))) (hs : L.Pairwise fun a b => a.start ≤ b.start) : ∃ per D count F, ShOk c p L per D count F := by
  obtain ⟨g1, g2⟩ := win_right hok hw
  have b1 := Go.bounds_u64 hp.period
  have b2 := Go.bounds_u64 hp.duration
  have b3 := Go.bounds_u64 hc
  have hpos : ∀ x ∈ L, x ∈ c.wins ∧ 0 ≤ x.start ∧ 0 ≤ x.len := fun x hx => by
    have hm := (List.mem_filter.1 (hperm.mem_iff.1 hx)).1
    exact ⟨hm, (Go.bounds_u64 (hok x hm).start).1, (Go.bounds_u64 (hok x hm).len).1⟩
  have hpm : (L.map natW).Perm (winsOf c p.id) := natW_perm hperm
  have hsn : (L.map natW).Pairwise fun a b => a.1 ≤ b.1 := by
    rw [List.pairwise_map]
    refine hs.imp_of_mem fun {a b} ha hb hab => ?_
    have := (hpos a ha).2
    have := (hpos b hb).2
    simp only [natW]
    omega
  have hsub : (winsOf c p.id).Sublist (c.wins.map natW) := List.filter_sublist.map natW
  have hd : p.period.toNat ∣ c.frame.toNat := by
    have e1 : ((p.period.toNat : Nat) : Int) = p.period := Int.toNat_of_nonneg b1.1
    have e2 : ((c.frame.toNat : Nat) : Int) = c.frame := Int.toNat_of_nonneg b3.1
    have : (p.period.toNat : Int) ∣ (c.frame.toNat : Int) := by rw [e1, e2]; exact Int.dvd_of_emod_eq_zero h1
    exact Int.natCast_dvd_natCast.1 this
  refine ⟨p.period.toNat, p.duration.toNat, c.frame.toNat / p.period.toNat, c.frame.toNat, (Int.toNat_of_nonneg b1.1).symm, (Int.toNat_of_nonneg b2.1).symm, (Int.toNat_of_nonneg b3.1).symm, by omega, Nat.div_mul_cancel hd, by omega, by omega, ?_, fun x hx => (hpos x hx).2, ?_⟩
  · exact after_of hsn (apart_perm (g2.sublist hsub) hpm) (fun w hx => g1 w (hsub.subset (hpm.mem_iff.1 hx))) 0 (Nat.zero_le _) (fun _ _ => Nat.zero_le _)
  · exact short_visits hok hp hc hw h0 h1 h2 hpm hsn
set_option maxRecDepth 100000 in
set_option maxHeartbeats 4000000 in
theorem short_ok (c : Cfg) (p : Par) (A : Option Addr) (L : List Win) (cp : Nat) (w : World) (hLl : L.length ≤ 1048576) (hRD : Rd w w.heap.size 3 A L.length (L.flatMap Win.cells)) {per D count F : Nat} (H : ShOk c p L per D count F) (v : Bool) (hv : Hid (shortB c p = v)) :
    Calls Tryz.prog 236 #[.agg #[.int .u16 p.id, .string p.name, .int .u64 p.period, .int .u64 p.duration, .int .u64 c.frame, .slice A L.length cp]] w fun e w' => (∃ k : Int, e = .returned (.tuple #[.int .u64 k, .bool v])) ∧ Below w.heap.size w w' := by
  have hp0 : Fence.wide.fn 296 := trivial
  have HH := Lib.hid H
  have HRD := Lib.hid hRD
  clear H hRD
  refine (callsIn_wide (n := 5)).1 ?_
  refine callsIn_of_wp_marks Tryz.func236 rfl trivial ?_ rfl
  simp only [Tryz.ntmps236, List.size_toArray, List.length_cons, List.length_nil, Nat.reduceAdd, Nat.reduceSub, Array.replicate_succ, Array.replicate_zero, List.push_toArray, List.append_toArray, List.nil_append, List.cons_append]
  gi_wp2_with (gi_at_call 296; refine (callsIn_wide.2 (periods_ok p c.frame A L.length cp _)).mono ?_; rintro e w' ⟨rfl, rfl⟩)
  refine wpIn_rangeFunc ?_
  intro fn hfn
  obtain ⟨W0, hW0⟩ : ∃ W0, ((((w.alloc (.cells (ptCells p c.frame A L.length cp) 258)).alloc (.cells #[.int .u64 0] 22)).alloc (.cells #[.bool false] 4)).alloc (.cells (ptCells p c.frame A L.length cp) 258)) = W0 := ⟨_, rfl⟩
  have hs0 : W0.heap.size = w.heap.size + 1 + 1 + 1 + 1 := by rw [← hW0]; simp
  obtain ⟨f, hf⟩ : ∃ f : ShFr, f = ⟨fn, p, c.frame, A, L.length, cp, w.heap.size, w.heap.size + 1, w.heap.size + 1 + 1, w.heap.size + 1 + 1 + 1, W0.heap.size, W0.heap.size + 1⟩ := ⟨_, rfl⟩
  obtain ⟨W1, hW1⟩ : ∃ W1, (W0.alloc (.deferred (some []))).alloc (.loop (f.lp .ready none)) = W1 := ⟨_, rfl⟩
  have hold : ∀ k, k < W0.heap.size → W1.heap[k]? = W0.heap[k]? := fun k hk => by
    rw [← hW1]; exact (Below.heap_alloc _ _ k (by simp; omega)).trans (Below.heap_alloc _ _ k hk)
  have hb0 : Below w.heap.size w W0 := by
    rw [← hW0]
    exact ((((Below.refl _ _).alloc (Nat.le_refl _) _).alloc (by simp) _).alloc (by simp; omega) _).alloc (by simp; omega) _
  have hb1 : Below w.heap.size w W1 := by rw [← hW1]; exact (hb0.alloc hb0.size _).alloc (by have := hb0.size; simp; omega) _
  have hs1 : W1.heap.size = W0.heap.size + 2 := by rw [← hW1]; simp
  have k0 : W0.heap[w.heap.size]? = some (.cells (ptCells p c.frame A L.length cp) 258 (0, 0)) := by
    rw [← hW0]; exact (((Blk.new w 258 (ptCells p c.frame A L.length cp)).alloc _).alloc _).alloc _
  have k1 : W0.heap[w.heap.size + 1]? = some (.cells #[.int .u64 0] 22 (0, 0)) := by
    rw [← hW0]
    have := ((Blk.new (w.alloc (.cells (ptCells p c.frame A L.length cp) 258)) 22 #[.int .u64 0]).alloc (.cells #[.bool false] 4)).alloc (.cells (ptCells p c.frame A L.length cp) 258)
    rw [World.size_alloc] at this
    exact this
  have k2 : W0.heap[w.heap.size + 1 + 1]? = some (.cells #[.bool false] 4 (0, 0)) := by
    rw [← hW0]
    have := (Blk.new ((w.alloc (.cells (ptCells p c.frame A L.length cp) 258)).alloc (.cells #[.int .u64 0] 22)) 4 #[.bool false]).alloc (.cells (ptCells p c.frame A L.length cp) 258)
    rw [World.size_alloc, World.size_alloc] at this
    exact this
  have k3 : W0.heap[w.heap.size + 1 + 1 + 1]? = some (.cells (ptCells p c.frame A L.length cp) 258 (0, 0)) := by
    rw [← hW0]
    have := Blk.new (((w.alloc (.cells (ptCells p c.frame A L.length cp) 258)).alloc (.cells #[.int .u64 0] 22)).alloc (.cells #[.bool false] 4)) 258 (ptCells p c.frame A L.length cp)
    rw [World.size_alloc, World.size_alloc, World.size_alloc] at this
    exact this
  have hD : W1.heap[W0.heap.size]? = some (.deferred (some [])) := by rw [← hW1]; exact (Below.heap_alloc _ _ _ (by simp)).trans (World.alloc_heap_new W0 _)
  have hL : W1.heap[W0.heap.size + 1]? = some (.loop (f.lp .ready none)) := by rw [← hW1]; have := World.alloc_heap_new (W0.alloc (.deferred (some []))) (.loop (f.lp .ready none)); rwa [World.size_alloc] at this
  have hA : f.apart := by rw [hf]; exact ⟨by simp, by simp, by simp; omega, by simp⟩
  have hsh : ShSt f W1 := by
    rw [hf] at hL ⊢
    exact ⟨hL, hD, (hold w.heap.size (by omega)).trans k0, (hold (w.heap.size + 1) (by omega)).trans k1, (hold (w.heap.size + 1 + 1) (by omega)).trans k2⟩
  have hPQ : Blk W1 f.pq 258 (ptCells f.p f.frame f.A f.n f.cp) := by rw [hf]; exact (hold (w.heap.size + 1 + 1 + 1) (by omega)).trans k3
  have hcall := periods1_ok f L w W1 hA (by rw [hf]; simp) (by rw [hf]; simp; omega) hsh hPQ (by rw [hf]; exact hb1) (by rw [hf]) hLl (by rw [hf]; exact HRD.out) per D count F (by rw [hf]; exact HH.out.eper) (by rw [hf]; exact HH.out.eD) (by rw [hf]; exact HH.out.eF) HH.out.h0 HH.out.cF HH.out.Dp HH.out.F64 HH.out.af HH.out.pos v (Lib.hid (HH.out.vis.trans hv.out))
  have hargs : (#[.func (.yield f.l) #[] #[], .pointer (some ⟨f.pq, 0, none⟩)] : Array Value) = #[.func (.yield (W0.heap.size + 1)) #[] #[], .pointer (some ⟨w.heap.size + 1 + 1 + 1, 0, none⟩)] := by rw [hf]
  rw [hargs] at hcall
  have hrec : f.lp .ready none = { state := .ready, pending := none, fn := fn, tmps := #[.agg (ptCells p c.frame A L.length cp), .pointer (some ⟨w.heap.size, 0, none⟩), .pointer (some ⟨w.heap.size + 1, 0, none⟩), .pointer (some ⟨w.heap.size + 1 + 1, 0, none⟩), undef, undef, .agg (ptCells p c.frame A L.length cp), .func (.func 325) #[] #[.pointer (some ⟨w.heap.size + 1 + 1 + 1, 0, none⟩)], undef, undef, undef, undef, undef, undef, undef, undef], params := #[8, 9], assign := shAssign, body := shBody, defers := W0.heap.size } := by rw [hf]; rfl
  have hent : ∀ args w, (callFunc 325 args).run Tryz.prog w = .ok (.enter 325 args) w := enters_of Tryz.func325 (by kernel_rfl) rfl
  rw [hW0]
  refine ⟨W0.heap.size + 1, [{ target := .collected W0.heap.size, args := #[] }], W1, { target := .fn (.func 325) #[.pointer (some ⟨w.heap.size + 1 + 1 + 1, 0, none⟩)], args := #[.func (.yield (W0.heap.size + 1)) #[] #[]] }, W1, 325,
    #[.func (.yield (W0.heap.size + 1)) #[] #[], .pointer (some ⟨w.heap.size + 1 + 1 + 1, 0, none⟩)], W1, ?_, ?_, ?_, ?_, fun _ => by omega, ?_⟩
  · rw [← hW1, hrec]; exact run_enterLoop_outer _ _ _ _ _
  · simp [resolve, go_sem]
  · intro f' hf'; exact trivial
  · simp [invoke, go_sem, hent]
  · refine (callsIn_wide.2 hcall).mono ?_
    rintro e W2 ⟨⟨x, rfl⟩, hb2, hend⟩
    have hfl : f.l = W0.heap.size + 1 := by rw [hf]
    have hfD : f.D = W0.heap.size := by rw [hf]
    have hfp : f.ps = w.heap.size := by rw [hf]
    have hfr2 : f.r2 = w.heap.size + 1 := by rw [hf]
    have hfr3 : f.r3 = w.heap.size + 1 + 1 := by rw [hf]
    rw [hfp] at hb2
    rcases hend with ⟨rfl, k, hdn⟩ | ⟨rfl, hst⟩
    · have hend := run_endLoop (P := Tryz.prog) hdn.L (by simp [ShFr.lp])
      rw [hfl] at hend
      obtain ⟨W3, hW3⟩ : ∃ W3, W2.putObj (W0.heap.size + 1) (.loop { f.lp .done (some .ret) with state := .exhausted }) = W3 := ⟨_, rfl⟩
      rw [hW3] at hend
      have old : ∀ b, b ≠ W0.heap.size + 1 → W3.heap[b]? = W2.heap[b]? := fun b hb => by rw [← hW3]; exact World.putObj_heap_other hb
      have hR2 := hdn.R2
      have hR3 := hdn.R3
      have hK := hdn.K
      rw [hfr2] at hR2
      rw [hfr3] at hR3
      rw [hfD] at hK
      have hR2' : Blk W3 (w.heap.size + 1) 22 #[.int .u64 k] := (old _ (by omega)).trans hR2
      have hR3' : Blk W3 (w.heap.size + 1 + 1) 4 #[.bool true] := (old _ (by omega)).trans hR3
      have hK' : W3.heap[W0.heap.size]? = some (.deferred (some [])) := (old _ (by omega)).trans hK
      have hb3 : Below w.heap.size w W3 := by rw [← hW3]; exact hb2.grown (gB_putObj _ _ _) hb2.size (fun k e => by cases e; omega)
      have c2 := hR2'.cell 0
      have c3 := hR3'.cell 0
      simp at c2 c3
      refine ⟨some .ret, W3, hend, ?_⟩
      gi_wp2
      rw [← hs0]
      obtain ⟨W4, hW4⟩ : ∃ W4, W3.putObj W0.heap.size (.deferred none) = W4 := ⟨_, rfl⟩
      have htd := run_takeDeferred (P := Tryz.prog) hK'
      rw [hW4] at htd
      have old4 : ∀ b, b ≠ W0.heap.size → W4.heap[b]? = W3.heap[b]? := fun b hb => by rw [← hW4]; exact World.putObj_heap_other hb
      have d2 : W4.cell? ⟨w.heap.size + 1, 0, none⟩ = some (.int .u64 k) := (World.cell?_of_block (a := ⟨w.heap.size + 1, 0, none⟩) (old4 _ (by show w.heap.size + 1 ≠ _; omega))).trans c2
      have d3 : W4.cell? ⟨w.heap.size + 1 + 1, 0, none⟩ = some (.bool true) := (World.cell?_of_block (a := ⟨w.heap.size + 1 + 1, 0, none⟩) (old4 _ (by show w.heap.size + 1 + 1 ≠ _; omega))).trans c3
      have hb4 : Below w.heap.size w W4 := by rw [← hW4]; exact hb3.grown (gB_putObj _ _ _) hb3.size (fun k e => by cases e; omega)
      refine ⟨by simp, .inl ⟨_, _, rfl, htd, ?_⟩⟩
      exact ⟨.tuple #[.int .u64 k, .bool true], by simp [results, Tryz.results236, go_sem, d2, d3], ⟨k, rfl⟩, hb4⟩
    · have hend := run_endLoop (P := Tryz.prog) hst.L (by simp [ShFr.lp])
      rw [hfl] at hend
      obtain ⟨W3, hW3⟩ : ∃ W3, W2.putObj (W0.heap.size + 1) (.loop { f.lp .ready none with state := .exhausted }) = W3 := ⟨_, rfl⟩
      rw [hW3] at hend
      have old : ∀ b, b ≠ W0.heap.size + 1 → W3.heap[b]? = W2.heap[b]? := fun b hb => by rw [← hW3]; exact World.putObj_heap_other hb
      have hR2 := hst.R2
      have hR3 := hst.R3
      have hK := hst.K
      rw [hfr2] at hR2
      rw [hfr3] at hR3
      rw [hfD] at hK
      have hR2' : Blk W3 (w.heap.size + 1) 22 #[.int .u64 0] := (old _ (by omega)).trans hR2
      have hR3' : Blk W3 (w.heap.size + 1 + 1) 4 #[.bool false] := (old _ (by omega)).trans hR3
      have hK' : W3.heap[W0.heap.size]? = some (.deferred (some [])) := (old _ (by omega)).trans hK
      have hb3 : Below w.heap.size w W3 := by rw [← hW3]; exact hb2.grown (gB_putObj _ _ _) hb2.size (fun k e => by cases e; omega)
      have c2 := hR2'.cell 0
      have c3 := hR3'.cell 0
      have f2 := hR2'.frozen 0
      have f3 := hR3'.frozen 0
      simp at c2 c3
      have HK := Lib.hid hK'
      have HB3 := Lib.hid hb3
      have HR2 := Lib.hid hR2'
      have HR3 := Lib.hid hR3'
      refine ⟨none, W3, hend, ?_⟩
      clear hend hW3 old hR2 hR3 hK hR2' hR3' hK' hb3 hb2 hst hfl hfD hfp hfr2 hfr3 hcall hargs hrec hsh hPQ hA hL hD k0 k1 k2 k3 hold hW1 hW0 hb0 hb1 hf
      gi_wp2
      rw [← hs0]
      obtain ⟨W5, hW5⟩ : ∃ W5, (W3.setCell ⟨w.heap.size + 1, 0, none⟩ (.int .u64 0)).setCell ⟨w.heap.size + 1 + 1, 0, none⟩ (.bool false) = W5 := ⟨_, rfl⟩
      have hK5 : W5.heap[W0.heap.size]? = some (.deferred (some [])) := by
        rw [← hW5]
        exact (Below.heap_setCell _ _ _ _ (by show W0.heap.size ≠ w.heap.size + 1 + 1; omega)).trans ((Below.heap_setCell _ _ _ _ (by show W0.heap.size ≠ w.heap.size + 1; omega)).trans HK.out)
      have hr2 : Blk W5 (w.heap.size + 1) 22 #[.int .u64 0] := by rw [← hW5]; exact (HR2.out.set_ 0 (.int .u64 0)).far (by show w.heap.size + 1 ≠ w.heap.size + 1 + 1; omega) _
      have hr3 : Blk W5 (w.heap.size + 1 + 1) 4 #[.bool false] := by rw [← hW5]; exact (HR3.out.far (by show w.heap.size + 1 + 1 ≠ w.heap.size + 1; omega) _).set_ 0 (.bool false)
      have hb5 : Below w.heap.size w W5 := by rw [← hW5]; exact (HB3.out.setCell (p := ⟨w.heap.size + 1, 0, none⟩) (by show w.heap.size ≤ w.heap.size + 1; omega) _).setCell (p := ⟨w.heap.size + 1 + 1, 0, none⟩) (by show w.heap.size ≤ w.heap.size + 1 + 1; omega) _
      rw [hW5]
      obtain ⟨W4, hW4⟩ : ∃ W4, W5.putObj W0.heap.size (.deferred none) = W4 := ⟨_, rfl⟩
      have htd := run_takeDeferred (P := Tryz.prog) hK5
      rw [hW4] at htd
      have old4 : ∀ b, b ≠ W0.heap.size → W4.heap[b]? = W5.heap[b]? := fun b hb => by rw [← hW4]; exact World.putObj_heap_other hb
      have e2 := hr2.cell 0
      have e3 := hr3.cell 0
      simp at e2 e3
      have d2 : W4.cell? ⟨w.heap.size + 1, 0, none⟩ = some (.int .u64 0) := (World.cell?_of_block (a := ⟨w.heap.size + 1, 0, none⟩) (old4 _ (by show w.heap.size + 1 ≠ _; omega))).trans e2
      have d3 : W4.cell? ⟨w.heap.size + 1 + 1, 0, none⟩ = some (.bool false) := (World.cell?_of_block (a := ⟨w.heap.size + 1 + 1, 0, none⟩) (old4 _ (by show w.heap.size + 1 + 1 ≠ _; omega))).trans e3
      have hb4 : Below w.heap.size w W4 := by rw [← hW4]; exact hb5.grown (gB_putObj _ _ _) hb5.size (fun k e => by cases e; omega)
      refine ⟨by simp, .inl ⟨_, _, rfl, htd, ?_⟩⟩
      exact ⟨.tuple #[.int .u64 0, .bool false], by simp [results, Tryz.results236, go_sem, d2, d3], ⟨0, rfl⟩, hb4⟩
/-- a period that divides -/
def fitB (a b : Int) : Bool := decide (a ≠ 0 ∧ b % a = 0)
theorem numDivides_ok (a b : Int) (w : World) (ha : wU64 a) (hb : wU64 b) (v : Bool) (hv : Hid (fitB a b = v)) : Calls Tryz.prog 295 #[.int .u64 a, .int .u64 b] w fun e w' => e = .returned (.bool v) ∧ w' = w := by
  have b1 := Go.bounds_u64 ha
  have b2 := Go.bounds_u64 hb
  by_cases h0 : a = 0
  · have HV := Lib.hid (show v = false by rw [← hv.out]; unfold fitB; simp [h0])
    subst h0
    clear b1 b2 ha hb
    go_enter Tryz.func295, Tryz.ntmps295
    go_wp2
    go_ret
    exact ⟨ret_bool HV.out.symm, rfl⟩
  · have h1 : (a == 0) = false := beq_eq_false_iff_ne.2 h0
    have h2 : (a != 0) = true := by simp [h0]
    have hm : b.tmod a = b % a := Int.tmod_eq_emod_of_nonneg b2.1
    have hp : (0 : Int) < a := by omega
    have hm1 := Int.emod_nonneg b (show a ≠ 0 by omega)
    have hm2 := Int.emod_lt_of_pos b hp
    have hw : IntKind.u64.wrap (b % a) = b % a := by rw [IntKind.wrap_u64]; omega
    by_cases h3 : b % a = 0
    · have HV := Lib.hid (show v = true by rw [← hv.out]; unfold fitB; simp [h0, h3])
      have h4 : (b % a == 0) = true := by rw [h3]; rfl
      clear b1 b2 ha hb h0 hm1 hm2 h3
      go_enter Tryz.func295, Tryz.ntmps295
      go_wp2
      go_ret
      exact ⟨ret_bool HV.out.symm, rfl⟩
    · have HV := Lib.hid (show v = false by rw [← hv.out]; unfold fitB; simp [h3])
      have h4 : (b % a == 0) = false := beq_eq_false_iff_ne.2 h3
      clear b1 b2 ha hb h0 hm1 hm2 h3
      go_enter Tryz.func295, Tryz.ntmps295
      go_wp2
      go_ret
      exact ⟨ret_bool HV.out.symm, rfl⟩
theorem divides_ok (p : Par) (frame : Int) (A : Option Addr) (n cp : Nat) (w : World) (hp : p.ok) (hf : wU64 frame) (v : Bool) (hv : Hid (fitB p.period frame = v)) :
    Calls Tryz.prog 235 #[.agg #[.int .u16 p.id, .string p.name, .int .u64 p.period, .int .u64 p.duration, .int .u64 frame, .slice A n cp]] w fun e w' => e = .returned (.bool v) ∧ Below w.heap.size w w' := by
  have hb := below_one w (.cells (ptCells p frame A n cp) 258)
  go_enter Tryz.func235, Tryz.ntmps235
  go_wp2_with (go_at_call 295; refine (numDivides_ok _ _ _ hp.period hf v hv).mono ?_; rintro e w' ⟨rfl, rfl⟩)
  go_ret
  exact ⟨rfl, hb⟩
/-- the first mistake of a demand -/
def wpB (c : Cfg) (p : Par) : Bool := !fitB p.period c.frame || decide (p.period < p.duration)
theorem wpB_iff (c : Cfg) (p : Par) : wpB c p = true ↔ (p.period = 0 ∨ c.frame % p.period ≠ 0 ∨ p.period < p.duration) := by
  unfold wpB fitB
  simp only [Bool.or_eq_true, Bool.not_eq_true', decide_eq_false_iff_not, decide_eq_true_eq]
  constructor
  · rintro (h | h)
    · by_cases h0 : p.period = 0
      · exact .inl h0
      · exact .inr (.inl fun e => h ⟨h0, e⟩)
    · exact .inr (.inr h)
  · rintro (h | h | h)
    · exact .inl fun e => e.1 h
    · exact .inl fun e => h e.2
    · exact .inr h
theorem wrongPeriod_ok (c : Cfg) (p : Par) (A : Option Addr) (n cp : Nat) (w : World) (hp : p.ok) (hf : wU64 c.frame) (v : Bool) (hv : Hid (wpB c p = v)) :
    Calls Tryz.prog 193 #[.agg #[.int .u16 p.id, .string p.name, .int .u64 p.period, .int .u64 p.duration, .int .u64 c.frame, .slice A n cp]] w fun e w' => e = .returned (.bool v) ∧ Below w.heap.size w w' := by
  have hb := below_one w (.cells (ptCells p c.frame A n cp) 258)
  obtain ⟨u, hu⟩ : ∃ u, fitB p.period c.frame = u := ⟨_, rfl⟩
  have HU := Lib.hid hu
  have hbk := Blk.new w 258 (ptCells p c.frame A n cp)
  cases u
  · have HV := Lib.hid (show v = true by rw [← hv.out]; unfold wpB; rw [hu]; rfl)
    clear hu hbk
    go_enter Tryz.func193, Tryz.ntmps193
    go_wp2_with fail
    refine (divides_ok p c.frame A n cp _ hp hf false HU).mono ?_
    rintro e w2 ⟨rfl, hb2⟩
    have HB := Lib.hid (Below.then_ hb hb2)
    clear hb2 hb
    go_wp2
    go_ret
    exact ⟨ret_bool HV.out.symm, HB.out⟩
  · have HV := Lib.hid (show v = decide (p.period < p.duration) by rw [← hv.out]; unfold wpB; rw [hu]; rfl)
    have HBK := Lib.hid hbk
    clear hu hbk
    go_enter Tryz.func193, Tryz.ntmps193
    go_wp2_with fail
    refine (divides_ok p c.frame A n cp _ hp hf true HU).mono ?_
    rintro e w2 ⟨rfl, hb2⟩
    have HB := Lib.hid (Below.then_ hb hb2)
    have hbk2 := HBK.out.below hb2 HBK.out.lt
    have q2 := hbk2.cell 2
    have q3 := hbk2.cell 3
    have hl := hbk2.lt
    simp at q2 q3
    clear hb2 hb hbk2
    go_wp2
    go_ret
    exact ⟨ret_bool HV.out.symm, HB.out⟩
theorem wrongTime_ok (c : Cfg) (p : Par) (A : Option Addr) (L : List Win) (cp : Nat) (w : World) (hLl : L.length ≤ 1048576) (hRD : Rd w w.heap.size 3 A L.length (L.flatMap Win.cells)) {per D count F : Nat} (H : ShOk c p L per D count F) (v : Bool) (hv : Hid (shortB c p = v)) :
    Calls Tryz.prog 194 #[.agg #[.int .u16 p.id, .string p.name, .int .u64 p.period, .int .u64 p.duration, .int .u64 c.frame, .slice A L.length cp]] w fun e w' => e = .returned (.bool v) ∧ Below w.heap.size w w' := by
  have hb := below_one w (.cells (ptCells p c.frame A L.length cp) 258)
  have HH := Lib.hid H
  have HRD := Lib.hid (hRD.up hb)
  clear H hRD
  go_enter Tryz.func194, Tryz.ntmps194
  go_wp2_with fail
  refine (short_ok c p A L cp _ hLl HRD.out HH.out v hv).mono ?_
  rintro e w2 ⟨⟨k, rfl⟩, hb2⟩
  have HB := Lib.hid (Below.then_ hb hb2)
  clear hb2 hb
  go_wp2
  go_ret
  exact ⟨rfl, HB.out⟩
end Go.Proofs.YtpedlbjbbcbbkaaGreat
namespace Go.Proofs.YtpedlbjbbcbbkaaGreat
open Go.RowKit Go.Shelf
def demFlt (c : Cfg) : Flt := ⟨(demBad c).1, (demBad c).2.1, (demBad c).2.2⟩
theorem demBad_e {c : Cfg} {e i : Int} (h : bad 0 (c.parts.map (demE c)) = (e, i)) (he : e ≠ 0) : demBad c = (e, 1, i) := by
  unfold demBad
  rw [h, if_neg he]
theorem demBad_n {c : Cfg} (h : bad 0 (c.parts.map (demE c)) = (0, 0)) : demBad c = (0, 0, 0) := by
  unfold demBad
  rw [h]
  rfl
theorem demE_w {c : Cfg} {p : Par} (h : wpB c p = true) : demE c p = 22 := by
  unfold demE
  rw [if_pos ((wpB_iff c p).1 h)]
theorem demE_s {c : Cfg} {p : Par} (h : wpB c p = false) : demE c p = if shortB c p then 23 else 0 := by
  unfold demE
  rw [if_neg (fun q => by rw [(wpB_iff c p).2 q] at h; cases h)]
/-- how far the two functions have been called -/
def ICond (c : Cfg) (p : Par) (q : Nat) (cd : Int) : Prop := (q = 0 ∧ cd = 22) ∨ (q = 1 ∧ cd = 23 ∧ wpB c p = false) ∨ (q = 2 ∧ cd = 23 ∧ wpB c p = false ∧ shortB c p = false)
@[reducible] def fnsCells (p : Par) (frame : Int) (A : Option Addr) (n cp : Nat) : Array Value := #[.func (.func 193) #[.agg (ptCells p frame A n cp)] #[], .func (.func 194) #[.agg (ptCells p frame A n cp)] #[]]
set_option maxRecDepth 100000 in
set_option maxHeartbeats 8000000 in
theorem demCheck_ok (c : Cfg) (A1 A2 A3 A4 A5 : Option Addr) (c1 c2 c3 c4 c5 : Nat) (w : World) (hR : CfgR w w.heap.size c A1 A2 A3 A4 A5 c1 c2 c3 c4 c5) (hs : c.small) (hok : c.ok) (hwb : winBad c = (0, 0, 0)) : Calls Tryz.prog 116 #[cfgV c.frame A1 A2 A3 A4 A5 c.parts.length c.wins.length c.regs.length c.ports.length c.chans.length c1 c2 c3 c4 c5] w fun e w' => e = .returned (fltV (demFlt c)) ∧ Below w.heap.size w w' := by
  obtain ⟨W0, hW, st⟩ := St.start_any hR 29
  have HW := Lib.hid hW
  obtain ⟨W1, hW1, hk1, hb1⟩ := FltBkM W0 37
  have HW1 := Lib.hid hW1
  have e0 : W0.heap.size = w.heap.size + 1 := by rw [← hW]; simp
  rw [e0] at hk1
  have HK1 := Lib.hid hk1
  have hst1 := st.up hb1
  obtain ⟨x0, x1, x2, x3, x4, x5, hz⟩ := hst1.cells
  have ST1 := Lib.hid hst1
  have hbd := hs.bd
  have bp := hbd.p
  have bw := hbd.w
  have HOK := Lib.hid hok
  have HWB := Lib.hid hwb
  have hent1 : ∀ a w, (callFunc 193 a).run Tryz.prog w = .ok (.enter 193 a) w := enters_of Tryz.func193 (by kernel_rfl) rfl
  have hent2 : ∀ a w, (callFunc 194 a).run Tryz.prog w = .ok (.enter 194 a) w := enters_of Tryz.func194 (by kernel_rfl) rfl
  clear hR hW st hW1 hst1 hbd hok hb1 hk1 hwb
  go_enter Tryz.func116, Tryz.ntmps116
  go_upto_region 1 with (fail)
  rw [HW.out, HW1.out]
  clear e0
  go_wp2
  clear x0 x1 x2 x3 x4 x5 hz
  go_loopw [12] (fun i wr => ∃ k : Nat, k ≤ c.parts.length ∧ i = .int .i64 k ∧ Hid (bad 0 (c.parts.map (demE c)) = bad k ((c.parts.map (demE c)).drop k)) ∧ Hid (St w (wr) c A1 A2 A3 A4 A5 c1 c2 c3 c4 c5) ∧ Hid (Blk wr (w.heap.size + 1) 37 #[.int .i64 0, .int .i64 0, .int .i64 0])) (fun i _ => c.parts.length - (intOf i).toNat)
  case atStart => exact ⟨0, Nat.zero_le _, rfl, Lib.hid rfl, ST1, HK1⟩
  case round =>
    obtain ⟨k, hk, rfl, hrest, ST, HK⟩ := hrel
    by_cases hlt : k < c.parts.length
    · obtain ⟨x, hx⟩ := get_lt hlt
      have HRO := Lib.hid (HOK.out.parts x (List.mem_of_getElem? hx))
      obtain ⟨bb, o, rfl, hbb, g0, g1, g2, g3⟩ := par_at ST.out.R.parts hx
      have HX := Lib.hid (show (c.parts.map (demE c))[k]? = some (demE c x) by simp [hx])
      clear hx
      have n0 : (0 : Int) ≤ (k : Int) := by omega
      have n1 : (k : Int) < (c.parts.length : Int) := by omega
      go_upto_region 4 with (fail)
      obtain ⟨W4, hW4, rb, hb4⟩ := PqBox.new wr x 55
      rw [hW4]
      have ST4 := Lib.hid (ST.out.up hb4)
      have HK4 := Lib.hid (HK.out.below hb4 HK.out.lt)
      obtain ⟨p0, p1, p2, p3, hg⟩ := rb
      clear hW4 hb4 g0 g1 g2 g3 hbb
      obtain ⟨x0, x1, x2, x3, x4, x5, hz⟩ := ST4.out.cells
      go_wp2_with fail
      refine (demOf_ok c _ _ _ _ _ _ _ _ _ _ _ ST4.out.R hs x).mono ?_
      rintro e w5 ⟨A, cp, L, rfl, hwn, hb5⟩
      have ST5 := Lib.hid (ST4.out.up hb5)
      have HK5 := Lib.hid (HK4.out.below hb5 HK4.out.lt)
      have HWN := Lib.hid hwn
      have hLl : L.length ≤ 1048576 := by
        have h1 := hwn.perm.length_eq
        have h2 := List.length_filter_le (keepW x.id) c.wins
        omega
      clear hb5 hwn x0 x1 x2 x3 x4 x5 hz p0 p1 p2 p3 hg
      go_upto_region 6 with (fail)
      have hb6 := below_one w5 (.cells (ptCells x c.frame A L.length cp) 258)
      obtain ⟨W6, hW6⟩ : ∃ W6, w5.alloc (.cells (ptCells x c.frame A L.length cp) 258) = W6 := ⟨_, rfl⟩
      have hbk6 : Blk W6 w5.heap.size 258 (ptCells x c.frame A L.length cp) := by rw [← hW6]; exact Blk.new _ _ _
      rw [hW6] at hb6
      rw [hW6]
      have ST6 := Lib.hid (ST5.out.up hb6)
      have HK6 := Lib.hid (HK5.out.below hb6 HK5.out.lt)
      have HRD := Lib.hid (HWN.out.rd.up hb6)
      have q0 := hbk6.cell 0
      have q1 := hbk6.cell 1
      have q2 := hbk6.cell 2
      have q3 := hbk6.cell 3
      have q4 := hbk6.cell 4
      have q5 := hbk6.cell 5
      have ql := hbk6.lt
      simp at q0 q1 q2 q3 q4 q5
      clear hW6 hb6 hbk6
      generalize w5.heap.size = b6 at q0 q1 q2 q3 q4 q5 ql ⊢
      go_upto_region 7 with (fail)
      have hb7 := below_one W6 (.cells (fnsCells x c.frame A L.length cp) 31)
      obtain ⟨W7, hW7⟩ : ∃ W7, W6.alloc (.cells (fnsCells x c.frame A L.length cp) 31) = W7 := ⟨_, rfl⟩
      have hbk7 : Blk W7 W6.heap.size 31 (fnsCells x c.frame A L.length cp) := by rw [← hW7]; exact Blk.new _ _ _
      rw [hW7] at hb7
      rw [hW7]
      have ST7 := Lib.hid (ST6.out.up hb7)
      have HK7 := Lib.hid (HK6.out.below hb7 HK6.out.lt)
      have HRD7 := Lib.hid (HRD.out.up hb7)
      have HFN := Lib.hid hbk7
      clear q0 q1 q2 q3 q4 q5 ql hW7 hb7 hbk7
      generalize W6.heap.size = b7 at HFN ⊢
      generalize hwo : wr.heap.size = bo
      clear hwo
      go_loopw [26, 6] (fun i cd wq => ∃ (q : Nat) (d : Int), i = .int .i64 q ∧ cd = .int .i64 d ∧ q ≤ 2 ∧ Hid (ICond c x q d) ∧ Hid (St w (wq) c (some ⟨bb, o, none⟩) A2 A3 A4 A5 c1 c2 c3 c4 c5) ∧ Hid (Blk wq (w.heap.size + 1) 37 #[.int .i64 0, .int .i64 0, .int .i64 0]) ∧ Hid (Below W7.heap.size W7 wq)) (fun i _ _ => 2 - (intOf i).toNat)
      case atStart => exact ⟨0, 22, rfl, rfl, by omega, Lib.hid (.inl ⟨rfl, rfl⟩), ST7, HK7, Lib.hid (Below.refl _ _)⟩
      case round =>
        obtain ⟨q, d, rfl, rfl, hq2, HIC, ST8, HK8, HB8⟩ := hrel
        have hfn := HFN.out.below HB8.out HFN.out.lt
        have r0 := hfn.cell 0
        have r1 := hfn.cell 1
        have rl := hfn.lt
        simp at r0 r1
        clear hfn
        have hic := HIC.out
        rcases hic with ⟨rfl, rfl⟩ | ⟨rfl, rfl, hwp⟩ | ⟨rfl, rfl, hwp, hsh⟩
        · obtain ⟨v, hv⟩ : ∃ v, wpB c x = v := ⟨_, rfl⟩
          have HV := Lib.hid hv
          clear hv
          go_wp2_with fail
          refine (wrongPeriod_ok c x A L.length cp _ HRO.out HOK.out.frame v HV).mono ?_
          rintro e w9 ⟨rfl, hb9⟩
          have ST9 := Lib.hid (ST8.out.up hb9)
          have HK9 := Lib.hid (HK8.out.below hb9 HK8.out.lt)
          have HB9 := Lib.hid (Below.then_ HB8.out hb9)
          clear hb9 r0 r1 rl
          cases v
          · go_wp2
            go_roundw
            case rel => exact ⟨1, 23, by go_num, rfl, by omega, Lib.hid (.inr (.inl ⟨rfl, rfl, HV.out⟩)), ST9, HK9, HB9⟩
            case measure => simp [intOf]
          · have HDE := Lib.hid (demE_w HV.out)
            have hk5 := HK9.out
            have q0 := hk5.cell 0
            have q1 := hk5.cell 1
            have q2 := hk5.cell 2
            have qf := hk5.frozen
            simp at q0 q1 q2
            have hkl := hk5.lt
            clear hk5
            have hb := bad_hit hrest.out HX.out (by rw [HDE.out]; decide)
            rw [HDE.out] at hb
            have HMF := Lib.hid (show demFlt c = ⟨22, 1, (k : Int)⟩ by unfold demFlt; rw [demBad_e hb (by decide)])
            clear hb
            go_wp2
            have hmf := HMF.out
            refine bodyPost_ret (v := fltV (demFlt c)) (by rw [hmf]; simp [results, Tryz.results116, go_sem, q0, q1, q2]) rfl ⟨rfl, ?_⟩
            exact Below.setCell (Below.setCell (Below.setCell ST9.out.bel (by simp) _) (by simp) _) (by simp) _
        · obtain ⟨v, hv⟩ : ∃ v, shortB c x = v := ⟨_, rfl⟩
          have HV := Lib.hid hv
          have HWP := Lib.hid hwp
          have hnw : ¬ (x.period = 0 ∨ c.frame % x.period ≠ 0 ∨ x.period < x.duration) := fun z => by rw [(wpB_iff c x).2 z] at hwp; cases hwp
          obtain ⟨per, D, count, F, hso⟩ := shOk_of (L := L) HOK.out.wins HRO.out HOK.out.frame HWB.out (fun z => hnw (.inl z)) (Decidable.not_not.1 fun z => hnw (.inr (.inl z))) (fun z => hnw (.inr (.inr z))) HWN.out.perm HWN.out.sorted
          have HSO := Lib.hid hso
          clear hv hwp hnw hso
          go_wp2_with fail
          refine (wrongTime_ok c x A L cp _ hLl (HRD7.out.up HB8.out) HSO.out v HV).mono ?_
          rintro e w9 ⟨rfl, hb9⟩
          have ST9 := Lib.hid (ST8.out.up hb9)
          have HK9 := Lib.hid (HK8.out.below hb9 HK8.out.lt)
          have HB9 := Lib.hid (Below.then_ HB8.out hb9)
          clear hb9 r0 r1 rl
          cases v
          · go_wp2
            go_roundw
            case rel => exact ⟨2, 23, by go_num, rfl, by omega, Lib.hid (.inr (.inr ⟨rfl, rfl, HWP.out, HV.out⟩)), ST9, HK9, HB9⟩
            case measure => simp [intOf]
          · have HDE := Lib.hid (show demE c x = 23 by rw [demE_s HWP.out, HV.out]; rfl)
            have hk5 := HK9.out
            have q0 := hk5.cell 0
            have q1 := hk5.cell 1
            have q2 := hk5.cell 2
            have qf := hk5.frozen
            simp at q0 q1 q2
            have hkl := hk5.lt
            clear hk5
            have hb := bad_hit hrest.out HX.out (by rw [HDE.out]; decide)
            rw [HDE.out] at hb
            have HMF := Lib.hid (show demFlt c = ⟨23, 1, (k : Int)⟩ by unfold demFlt; rw [demBad_e hb (by decide)])
            clear hb
            go_wp2
            have hmf := HMF.out
            refine bodyPost_ret (v := fltV (demFlt c)) (by rw [hmf]; simp [results, Tryz.results116, go_sem, q0, q1, q2]) rfl ⟨rfl, ?_⟩
            exact Below.setCell (Below.setCell (Below.setCell ST9.out.bel (by simp) _) (by simp) _) (by simp) _
        · have HDE := Lib.hid (show demE c x = 0 by rw [demE_s hwp, hsh]; rfl)
          clear hwp hsh
          go_wp2
          go_roundw
          case rel => exact ⟨k + 1, by omega, by go_num, Lib.hid (bad_miss hrest.out (by rw [HX.out, HDE.out])), ST8, HK8⟩
          case measure => simp [intOf]; omega
    · obtain rfl : k = c.parts.length := by omega
      have hrb : bad 0 (c.parts.map (demE c)) = (0, 0) := bad_end (l := c.parts.map (demE c)) (by simpa using hrest.out)
      have HMF := Lib.hid (show demFlt c = noFlt by unfold demFlt; rw [demBad_n hrb]; rfl)
      have hk6 := HK.out
      have q0 := hk6.cell 0
      have q1 := hk6.cell 1
      have q2 := hk6.cell 2
      have qf := hk6.frozen
      simp at q0 q1 q2
      have hkl := hk6.lt
      clear hk6 hrb hrest
      go_wp2
      have hmf := HMF.out
      refine bodyPost_ret (v := fltV (demFlt c)) (by rw [hmf]; simp [results, Tryz.results116, go_sem, q0, q1, q2, noFlt]) rfl ⟨rfl, ?_⟩
      exact Below.setCell (Below.setCell (Below.setCell ST.out.bel (by simp) _) (by simp) _) (by simp) _
end Go.Proofs.YtpedlbjbbcbbkaaGreat
namespace Go.Proofs.YtpedlbjbbcbbkaaGreat
open Go.RowKit
attribute [local go_sem] ext_cell
theorem after_sum {F : Nat} : ∀ {l : List (Nat × Nat)} {b : Nat}, After F b l → b + (l.map (·.2)).sum ≤ F
  | [], b, h => by
    have hb : b ≤ F := h
    simpa using hb
  | x :: r, b, h => by
    obtain ⟨a1, a2, a3, a4⟩ := h
    have := after_sum a4
    rw [List.map_cons, List.sum_cons]
    omega
theorem lens_le {F : Nat} {l : List (Nat × Nat)} (h1 : l.Pairwise fun a b => a.1 + a.2 ≤ b.1 ∨ b.1 + b.2 ≤ a.1) (h2 : ∀ w ∈ l, 0 < w.2 ∧ w.1 + w.2 ≤ F) : (l.map (·.2)).sum ≤ F := by
  have hp := List.mergeSort_perm l (fun a b => decide (a.1 ≤ b.1))
  have hs := List.pairwise_mergeSort (le := fun (a b : Nat × Nat) => decide (a.1 ≤ b.1)) (fun a b c h k => by simp at *; omega) (fun a b => by simp; omega) l
  have ha := after_of (F := F) (hs.imp (fun {a b} h => by simpa using h)) (apart_perm h1 hp) (fun w hw => h2 w (hp.mem_iff.1 hw)) 0 (Nat.zero_le _) (fun _ _ => Nat.zero_le _)
  have := after_sum ha
  rw [(hp.map (·.2)).sum_nat] at this
  omega
theorem usedW_nn (id lo hi : Int) (x : Win) : 0 ≤ usedW id lo hi x := by
  unfold usedW
  split <;> omega
theorem used_len : ∀ (l : List Win) (id lo hi : Int), (∀ x ∈ l, 0 ≤ x.start ∧ 0 ≤ x.len) → 0 ≤ (l.map (usedW id lo hi)).sum ∧ (l.map (usedW id lo hi)).sum ≤ (((l.map natW).map (·.2)).sum : Nat)
  | [], _, _, _, _ => by simp
  | x :: r, id, lo, hi, h => by
    have ih := used_len r id lo hi fun y hy => h y (by simp [hy])
    have hx := h x (by simp)
    have hn := usedW_nn id lo hi x
    have hl : usedW id lo hi x ≤ x.len := by
      unfold usedW
      split <;> omega
    simp only [List.map_cons, List.sum_cons, natW] at ih ⊢
    omega
/-- what right windows give to the sums of the reference -/
theorem used_bound {c : Cfg} (hok : ∀ x ∈ c.wins, x.ok) (hf : wU64 c.frame) (h : winBad c = (0, 0, 0)) (id lo hi : Int) (k : Nat) : 0 ≤ ((c.wins.take k).map (usedW id lo hi)).sum ∧ ((c.wins.take k).map (usedW id lo hi)).sum ≤ 18446744073709551615 := by
  obtain ⟨g1, g2⟩ := win_right hok h
  have b3 := Go.bounds_u64 hf
  have hs : ((c.wins.take k).map natW).Sublist (c.wins.map natW) := (List.take_sublist k c.wins).map natW
  have h1 := used_len (c.wins.take k) id lo hi fun x hx => ⟨(Go.bounds_u64 (hok x (List.mem_of_mem_take hx)).start).1, (Go.bounds_u64 (hok x (List.mem_of_mem_take hx)).len).1⟩
  have h2 := lens_le (F := c.frame.toNat) (g2.sublist hs) (fun w hw => g1 w (hs.subset hw))
  omega
theorem win_fits {c : Cfg} (hok : ∀ x ∈ c.wins, x.ok) (hf : wU64 c.frame) (h : winBad c = (0, 0, 0)) : ∀ x ∈ c.wins, x.start + x.len ≤ 18446744073709551615 := fun x hx => by
  obtain ⟨g1, _⟩ := win_right hok h
  have b1 := Go.bounds_u64 (hok x hx).start
  have b2 := Go.bounds_u64 (hok x hx).len
  have b3 := Go.bounds_u64 hf
  have := (g1 (natW x) (List.mem_map.2 ⟨x, hx, rfl⟩)).2
  simp only [natW] at this
  omega
theorem sum_next {f : Win → Int} {l : List Win} {k : Nat} {x : Win} (h : l[k]? = some x) : ((l.take (k + 1)).map f).sum = ((l.take k).map f).sum + f x := by
  rw [take_next h]; simp
set_option maxRecDepth 100000 in
set_option maxHeartbeats 4000000 in
theorem rUsed_ok (c : Cfg) (A1 A2 A3 A4 A5 : Option Addr) (c1 c2 c3 c4 c5 : Nat) (w : World) (hR : CfgR w w.heap.size c A1 A2 A3 A4 A5 c1 c2 c3 c4 c5) (hs : c.small) (hok : c.ok) (hwb : winBad c = (0, 0, 0)) (id lo hi : Int) (v : Int) (hv : Hid ((c.wins.map (usedW id lo hi)).sum = v)) : Calls Tryz.prog 242 #[cfgV c.frame A1 A2 A3 A4 A5 c.parts.length c.wins.length c.regs.length c.ports.length c.chans.length c1 c2 c3 c4 c5, .int .u16 id, .int .u64 lo, .int .u64 hi] w fun e w' => e = .returned (.int .u64 v) ∧ Below w.heap.size w w' := by
  have hbd := hs.bd
  have ST0 := Lib.hid (St.start hR 29)
  have bw := hbd.w
  have HOK := Lib.hid hok
  have HBD := Lib.hid (used_bound hok.wins hok.frame hwb id lo hi)
  have HFT := Lib.hid (win_fits hok.wins hok.frame hwb)
  obtain ⟨x0, x1, x2, x3, x4, x5, hz⟩ := ST0.out.cells
  clear hR hbd hok hwb
  go_enter Tryz.func242, Tryz.ntmps242
  go_wp2
  clear x0 x1 x2 x3 x4 x5 hz
  go_loopw [9, 10] (fun n i wr => ∃ (k : Nat) (S : Int), k ≤ c.wins.length ∧ i = .int .i64 k ∧ n = .int .u64 S ∧ Hid (S = ((c.wins.take k).map (usedW id lo hi)).sum) ∧ Hid (St w (wr) c A1 A2 A3 A4 A5 c1 c2 c3 c4 c5)) (fun _ i _ => c.wins.length - (intOf i).toNat)
  case atStart => exact ⟨0, 0, Nat.zero_le _, rfl, rfl, Lib.hid rfl, ST0⟩
  case round =>
    obtain ⟨k, S, hk, rfl, rfl, HS, ST⟩ := hrel
    obtain ⟨x0, x1, x2, x3, x4, x5, hz⟩ := ST.out.cells
    by_cases hlt : k < c.wins.length
    · obtain ⟨x, hx⟩ := get_lt hlt
      have hxo := HOK.out.wins x (List.mem_of_getElem? hx)
      have c1 := Go.bounds_u64 hxo.start
      have c2 := Go.bounds_u64 hxo.len
      have hxf := HFT.out x (List.mem_of_getElem? hx)
      obtain ⟨bb, o, rfl, hbb, g0, g1, g2⟩ := win_at ST.out.R.wins hx
      have HN := Lib.hid (sum_next (f := usedW id lo hi) hx)
      have hb1 := (HBD.out k)
      have hb2 := (HBD.out (k + 1))
      rw [← HS.out] at hb1
      rw [HN.out, ← HS.out] at hb2
      have n0 : (0 : Int) ≤ (k : Int) := by omega
      have n1 : (k : Int) < (c.wins.length : Int) := by omega
      have w1 : IntKind.u64.wrap (x.start + x.len) = x.start + x.len := by rw [IntKind.wrap_u64]; omega
      obtain ⟨a, ha⟩ : ∃ a, max x.start lo = a := ⟨_, rfl⟩
      obtain ⟨b, hb⟩ : ∃ b, min (x.start + x.len) hi = b := ⟨_, rfl⟩
      have HU := Lib.hid (show usedW id lo hi x = if x.part = id ∧ a < b then b - a else 0 by unfold usedW; rw [ha, hb])
      rw [HU.out] at hb2
      have B2 := Lib.hid hb2
      have B1 := Lib.hid hb1
      have HXF := Lib.hid (And.intro c1 (And.intro c2 hxf))
      clear hx hxo c1 c2 hxf hb1 hb2
      go_upto_region 6 with (fail)
      obtain ⟨W4, hW4, rb, hb4⟩ := WnBox.new wr x 52
      rw [hW4]
      have ST4 := Lib.hid (ST.out.up hb4)
      clear hW4 hb4 g0 g1 g2 hbb x0 x1 x2 x3 x4 x5 hz
      obtain ⟨p0, p1, p2, hg⟩ := rb
      by_cases hp : x.part = id
      · have hpb : (x.part == id) = true := by rw [hp]; exact beq_self_eq_true _
        by_cases hab : a < b
        · have hS := B2.out
          rw [if_pos ⟨hp, hab⟩] at hS
          have w2 : IntKind.u64.wrap (b - a) = b - a := by have := B1.out; rw [IntKind.wrap_u64]; omega
          have w3 : IntKind.u64.wrap (S + (b - a)) = S + (b - a) := by rw [IntKind.wrap_u64]; omega
          have HSN := Lib.hid (show S + (b - a) = ((c.wins.take (k + 1)).map (usedW id lo hi)).sum by rw [HN.out, HU.out, if_pos ⟨hp, hab⟩, HS.out])
          clear hS hp
          go_wp2
          go_roundw
          case rel => exact ⟨k + 1, _, by omega, by go_num, rfl, HSN, ST4⟩
          case measure => simp [intOf]; omega
        · have hab2 : decide (a < b) = false := decide_eq_false hab
          have HSN := Lib.hid (show S = ((c.wins.take (k + 1)).map (usedW id lo hi)).sum by rw [HN.out, HU.out, if_neg (fun q => hab q.2), HS.out, Int.add_zero])
          clear hab hp
          go_wp2
          go_roundw
          case rel => exact ⟨k + 1, _, by omega, by go_num, rfl, HSN, ST4⟩
          case measure => simp [intOf]; omega
      · have hpb : (x.part == id) = false := beq_eq_false_iff_ne.2 hp
        have HSN := Lib.hid (show S = ((c.wins.take (k + 1)).map (usedW id lo hi)).sum by rw [HN.out, HU.out, if_neg (fun q => hp q.1), HS.out, Int.add_zero])
        clear hp
        go_wp2
        go_roundw
        case rel => exact ⟨k + 1, _, by omega, by go_num, rfl, HSN, ST4⟩
        case measure => simp [intOf]; omega
    · obtain rfl : k = c.wins.length := by omega
      have HE := Lib.hid (show S = v by rw [HS.out, List.take_length]; exact hv.out)
      go_wp2
      go_ret
      exact ⟨ret_int HE.out, ST.out.bel⟩
/-- the numbers of a demand -/
structure NmOk (c : Cfg) (p : Par) (per D count F : Nat) : Prop where
  eper : p.period = per
  eD : p.duration = D
  eF : c.frame = F
  h0 : 0 < per
  cF : count * per = F
  F64 : F ≤ 18446744073709551615
  sh : shortB c p = (List.range count).any fun k => decide (tk per k (winsOf c p.id) < D)
theorem nmOk_of {c : Cfg} {p : Par} (hp : p.ok) (hc : wU64 c.frame) (h0 : p.period ≠ 0) (h1 : c.frame % p.period = 0) : ∃ per D count F, NmOk c p per D count F := by
  have b1 := Go.bounds_u64 hp.period
  have b2 := Go.bounds_u64 hp.duration
  have b3 := Go.bounds_u64 hc
  have hd : p.period.toNat ∣ c.frame.toNat := by
    have e1 : ((p.period.toNat : Nat) : Int) = p.period := Int.toNat_of_nonneg b1.1
    have e2 : ((c.frame.toNat : Nat) : Int) = c.frame := Int.toNat_of_nonneg b3.1
    have : (p.period.toNat : Int) ∣ (c.frame.toNat : Int) := by rw [e1, e2]; exact Int.dvd_of_emod_eq_zero h1
    exact Int.natCast_dvd_natCast.1 this
  exact ⟨p.period.toNat, p.duration.toNat, c.frame.toNat / p.period.toNat, c.frame.toNat, (Int.toNat_of_nonneg b1.1).symm, (Int.toNat_of_nonneg b2.1).symm, (Int.toNat_of_nonneg b3.1).symm, by omega, Nat.div_mul_cancel hd, by omega, rfl⟩
theorem tk_used {c : Cfg} (hok : ∀ x ∈ c.wins, x.ok) (id : Int) (k per : Nat) : (c.wins.map (usedW id ((k * per : Nat) : Int) (((k + 1) * per : Nat) : Int))).sum = ((tk per k (winsOf c id) : Nat) : Int) :=
  used_tk id k per c.wins fun x hx => ⟨(Go.bounds_u64 (hok x hx).start).1, (Go.bounds_u64 (hok x hx).len).1⟩
set_option maxRecDepth 100000 in
set_option maxHeartbeats 4000000 in
theorem rIn_ok (c : Cfg) (A1 A2 A3 A4 A5 : Option Addr) (c1 c2 c3 c4 c5 : Nat) (w : World) (hR : CfgR w w.heap.size c A1 A2 A3 A4 A5 c1 c2 c3 c4 c5) (hs : c.small) (hok : c.ok) (hwb : winBad c = (0, 0, 0)) (p : Par) {per D count F : Nat} (H : NmOk c p per D count F) (k : Nat) (hk : k < count) (n : Nat) (hn : Hid (tk per k (winsOf c p.id) = n)) :
    Calls Tryz.prog 205 #[cfgV c.frame A1 A2 A3 A4 A5 c.parts.length c.wins.length c.regs.length c.ports.length c.chans.length c1 c2 c3 c4 c5, .agg #[.int .u16 p.id, .string p.name, .int .u64 p.period, .int .u64 p.duration], .int .u64 k] w fun e w' => e = .returned (.int .u64 n) ∧ Below w.heap.size w w' := by
  obtain ⟨W0, hW, st⟩ := St.start_any hR 29
  have e0 : W0.heap.size = w.heap.size + 1 := by rw [← hW]; simp
  obtain ⟨W1, hW1, pb1, hb1⟩ := PqBox.new W0 p 55
  rw [e0] at pb1
  have HW := Lib.hid hW
  have HW1 := Lib.hid hW1
  have ST1 := Lib.hid (st.up hb1)
  have hle : (k + 1) * per ≤ F := by rw [← H.cF]; exact Nat.mul_le_mul_right per hk
  have h64 := H.F64
  have hmul : (k + 1) * per = k * per + per := Nat.succ_mul k per
  have hkc : k + 1 ≤ F := by
    have := Nat.mul_le_mul_left (k + 1) H.h0
    omega
  have m1 : (k : Int) * (per : Int) = ((k * per : Nat) : Int) := by rw [Int.natCast_mul]
  have m2 : ((k : Int) + 1) * (per : Int) = (((k + 1) * per : Nat) : Int) := by rw [Int.natCast_mul]; simp
  have w1 : IntKind.u64.wrap ((k * per : Nat) : Int) = ((k * per : Nat) : Int) := by rw [IntKind.wrap_u64]; omega
  have w2 : IntKind.u64.wrap (((k + 1) * per : Nat) : Int) = (((k + 1) * per : Nat) : Int) := by rw [IntKind.wrap_u64]; omega
  have w3 : IntKind.u64.wrap ((k : Int) + 1) = (k : Int) + 1 := by rw [IntKind.wrap_u64]; omega
  have HU := Lib.hid ((tk_used hok.wins p.id k per).trans (congrArg (fun z : Nat => (z : Int)) hn.out))
  obtain ⟨x0, x1, x2, x3, x4, x5, hz⟩ := ST1.out.cells
  obtain ⟨a0, a1, a2, a3, az⟩ := pb1
  rw [H.eper] at a2
  have HOK := Lib.hid hok
  have HWB := Lib.hid hwb
  clear hR hW hW1 st hb1 hle h64 hmul hkc hok hwb H e0
  generalize hq1 : ((k * per : Nat) : Int) = z1 at m1 w1 HU
  generalize hq2 : (((k + 1) * per : Nat) : Int) = z2 at m2 w2 HU
  clear hq1 hq2
  go_enter Tryz.func205, Tryz.ntmps205
  go_upto_region 1 with (fail)
  rw [HW.out, HW1.out]
  go_wp2_with fail
  refine (rUsed_ok c _ _ _ _ _ _ _ _ _ _ _ ST1.out.R hs HOK.out HWB.out p.id z1 z2 _ HU).mono ?_
  rintro e w2 ⟨rfl, hb2⟩
  have HZ := Lib.hid (ST1.out.up hb2).bel
  clear hb2 x0 x1 x2 x3 x4 x5 hz a0 a1 a2 a3 az
  go_wp2
  go_ret
  exact ⟨rfl, HZ.out⟩
set_option maxRecDepth 100000 in
set_option maxHeartbeats 4000000 in
theorem rShort_ok (c : Cfg) (A1 A2 A3 A4 A5 : Option Addr) (c1 c2 c3 c4 c5 : Nat) (w : World) (hR : CfgR w w.heap.size c A1 A2 A3 A4 A5 c1 c2 c3 c4 c5) (hs : c.small) (hok : c.ok) (hwb : winBad c = (0, 0, 0)) (i : Nat) (x : Par) (hx : c.parts[i]? = some x) {per D count F : Nat} (H : NmOk c x per D count F) (v : Bool) (hv : Hid (shortB c x = v)) :
    Calls Tryz.prog 128 #[cfgV c.frame A1 A2 A3 A4 A5 c.parts.length c.wins.length c.regs.length c.ports.length c.chans.length c1 c2 c3 c4 c5, .int .i64 i] w fun e w' => (∃ k : Int, e = .returned (.tuple #[.int .u64 k, .bool v])) ∧ Below w.heap.size w w' := by
  have hbd := hs.bd
  have bp := hbd.p
  obtain ⟨W0, hW, st0⟩ := St.start_any hR 29
  have hil := (List.getElem?_eq_some_iff.1 hx).1
  obtain ⟨bb, o, rfl, hbb, g0, g1, g2, g3⟩ := par_at st0.R.parts hx
  obtain ⟨W1, hW1, pb1, hb1⟩ := PqBox.new W0 x 55
  have HW := Lib.hid hW
  have HW1 := Lib.hid hW1
  have ST1 := Lib.hid (st0.up hb1)
  have HPB1 := Lib.hid pb1
  have HOK := Lib.hid hok
  have HWB := Lib.hid hwb
  have HN := Lib.hid H
  have n0 : (0 : Int) ≤ (i : Int) := by omega
  have n1 : (i : Int) < (c.parts.length : Int) := by omega
  obtain ⟨x0, x1, x2, x3, x4, x5, hz⟩ := st0.cells
  have hcF : count ≤ F := by rw [← H.cF]; exact Nat.le_mul_of_pos_right _ H.h0
  have hquo : c.frame / x.period = (count : Int) := by rw [H.eF, H.eper, ← H.cF, Int.natCast_mul]; exact Int.mul_ediv_cancel _ (by have := H.h0; omega)
  have hcw : IntKind.u64.wrap (count : Int) = (count : Int) := by have := H.F64; rw [IntKind.wrap_u64]; omega
  have hp0 : (x.period == 0) = false := by have := H.h0; rw [beq_eq_false_iff_ne, H.eper]; omega
  have hp1 : (0 : Int) < x.period := by have := H.h0; rw [H.eper]; omega
  have hf0 : (0 : Int) ≤ c.frame := by rw [H.eF]; omega
  have hqt : c.frame.tdiv x.period = (count : Int) := by rw [Int.tdiv_eq_ediv_of_nonneg hf0, hquo]
  have hcb : (count : Int) ≤ 18446744073709551615 := by have := H.F64; omega
  have HCB := Lib.hid hcb
  clear hR hbd st0 hx hil hok hwb hbb H hcF hcb hW hW1 pb1 hb1
  go_enter Tryz.func128, Tryz.ntmps128
  go_upto_region 1 with (fail)
  rw [HW.out]
  go_upto_region 2 with (fail)
  rw [HW1.out]
  clear x0 x1 x2 x3 x4 x5 hz g0 g1 g2 g3
  generalize W0.heap.size = pb at HPB1 ⊢
  go_wp2
  go_loopw [7] (fun i wr => ∃ k : Nat, k ≤ count ∧ i = .int .u64 k ∧ Hid (∀ j, j < k → ¬ tk per j (winsOf c x.id) < D) ∧ Hid (St w (wr) c (some ⟨bb, o, none⟩) A2 A3 A4 A5 c1 c2 c3 c4 c5) ∧ Hid (PqBox wr pb x)) (fun i _ => count - (intOf i).toNat)
  case atStart => exact ⟨0, Nat.zero_le _, rfl, Lib.hid (fun j hj => absurd hj (by omega)), ST1, HPB1⟩
  case round =>
    obtain ⟨k, hk, rfl, HK, ST, HPB⟩ := hrel
    obtain ⟨x0, x1, x2, x3, x4, x5, hz⟩ := ST.out.cells
    obtain ⟨a0, a1, a2, a3, az⟩ := HPB.out
    by_cases hlt : k < count
    · obtain ⟨n, hn⟩ : ∃ n, tk per k (winsOf c x.id) = n := ⟨_, rfl⟩
      have HNN := Lib.hid hn
      have hk1 : IntKind.u64.wrap ((k : Int) + 1) = (k : Int) + 1 := by have := HCB.out; rw [IntKind.wrap_u64]; omega
      clear hn
      by_cases hnD : n < D
      · have hd : decide ((n : Int) < x.duration) = true := by rw [HN.out.eD]; exact decide_eq_true (by omega)
        have HV := Lib.hid (show true = v by rw [← hv.out, HN.out.sh]; exact (List.any_eq_true.2 ⟨k, List.mem_range.2 hlt, by rw [HNN.out]; exact decide_eq_true hnD⟩).symm)
        clear hnD
        go_wp2_with fail
        refine wp_region_ext (by kernel_rfl) (by kernel_rfl) ?_
        repeat (go_big_quiet_step (fail))
        go_big_quiet_step ((go_at_call 205; exact Calls.quiet_ext (rIn_ok c _ _ _ _ _ _ _ _ _ _ _ (ST.out.ext _).R hs HOK.out HWB.out x HN.out k hlt n HNN)))
        repeat (go_big_quiet_step (fail))
        refine wpQuiet_nil ?_
        intro xq
        have HZ := Lib.hid (ST.out.ext xq).bel
        clear x0 x1 x2 x3 x4 x5 hz a0 a1 a2 a3 az
        go_wp2
        go_ret2
        exact ⟨⟨(k : Int), by rw [← HV.out]; rfl⟩, HZ.out⟩
      · have hd : decide ((n : Int) < x.duration) = false := by rw [HN.out.eD]; exact decide_eq_false (by omega)
        have HK2 := Lib.hid (show ∀ j, j < k + 1 → ¬ tk per j (winsOf c x.id) < D from fun j hj => by
          rcases Nat.eq_or_lt_of_le (Nat.lt_succ_iff.1 hj) with q | q
          · rw [q, HNN.out]; exact hnD
          · exact HK.out j q)
        clear hnD
        go_wp2_with fail
        refine wp_region_ext (by kernel_rfl) (by kernel_rfl) ?_
        repeat (go_big_quiet_step (fail))
        go_big_quiet_step ((go_at_call 205; exact Calls.quiet_ext (rIn_ok c _ _ _ _ _ _ _ _ _ _ _ (ST.out.ext _).R hs HOK.out HWB.out x HN.out k hlt n HNN)))
        repeat (go_big_quiet_step (fail))
        refine wpQuiet_nil ?_
        intro xq
        have STx := Lib.hid (ST.out.ext xq)
        have HPx := Lib.hid (HPB.out.up (ext_below wr xq))
        clear x0 x1 x2 x3 x4 x5 hz a0 a1 a2 a3 az
        go_wp2
        go_roundw
        case rel => exact ⟨k + 1, by omega, by go_num, HK2, STx, HPx⟩
        case measure => simp [intOf]; omega
    · obtain rfl : k = count := by omega
      have HV := Lib.hid (show false = v by
        rw [← hv.out, HN.out.sh]
        refine (List.any_eq_false.2 fun j hj => ?_).symm
        have := HK.out j (List.mem_range.1 hj)
        simpa using this)
      go_wp2
      go_ret2
      exact ⟨⟨0, by rw [← HV.out]; rfl⟩, ST.out.bel⟩
theorem rDivides_ok (a b : Int) (w : World) (ha : wU64 a) (hb : wU64 b) (v : Bool) (hv : Hid (fitB a b = v)) : Calls Tryz.prog 204 #[.int .u64 a, .int .u64 b] w fun e w' => e = .returned (.bool v) ∧ w' = w := by
  have b1 := Go.bounds_u64 ha
  have b2 := Go.bounds_u64 hb
  by_cases h0 : a = 0
  · have HV := Lib.hid (show v = false by rw [← hv.out]; unfold fitB; simp [h0])
    subst h0
    clear b1 b2 ha hb
    go_enter Tryz.func204, Tryz.ntmps204
    go_wp2
    go_ret
    exact ⟨ret_bool HV.out.symm, rfl⟩
  · have h1 : (a == 0) = false := beq_eq_false_iff_ne.2 h0
    have hm : b.tmod a = b % a := Int.tmod_eq_emod_of_nonneg b2.1
    have hp : (0 : Int) < a := by omega
    have hm1 := Int.emod_nonneg b (show a ≠ 0 by omega)
    have hm2 := Int.emod_lt_of_pos b hp
    have hw : IntKind.u64.wrap (b % a) = b % a := by rw [IntKind.wrap_u64]; omega
    by_cases h3 : b % a = 0
    · have HV := Lib.hid (show v = true by rw [← hv.out]; unfold fitB; simp [h0, h3])
      have h4 : (b % a == 0) = true := by rw [h3]; rfl
      clear b1 b2 ha hb h0 hm1 hm2 h3
      go_enter Tryz.func204, Tryz.ntmps204
      go_wp2
      go_ret
      exact ⟨ret_bool HV.out.symm, rfl⟩
    · have HV := Lib.hid (show v = false by rw [← hv.out]; unfold fitB; simp [h3])
      have h4 : (b % a == 0) = false := beq_eq_false_iff_ne.2 h3
      clear b1 b2 ha hb h0 hm1 hm2 h3
      go_enter Tryz.func204, Tryz.ntmps204
      go_wp2
      go_ret
      exact ⟨ret_bool HV.out.symm, rfl⟩
theorem rFits_ok (c : Cfg) (A1 A2 A3 A4 A5 : Option Addr) (c1 c2 c3 c4 c5 : Nat) (w : World) (hR : CfgR w w.heap.size c A1 A2 A3 A4 A5 c1 c2 c3 c4 c5) (hs : c.small) (hf : wU64 c.frame) (p : Par) (hp : p.ok) (v : Bool) (hv : Hid (fitB p.period c.frame = v)) :
    Calls Tryz.prog 127 #[cfgV c.frame A1 A2 A3 A4 A5 c.parts.length c.wins.length c.regs.length c.ports.length c.chans.length c1 c2 c3 c4 c5, .agg #[.int .u16 p.id, .string p.name, .int .u64 p.period, .int .u64 p.duration]] w fun e w' => e = .returned (.bool v) ∧ Below w.heap.size w w' := by
  have _hs := hs
  obtain ⟨W0, hW, st⟩ := St.start_any hR 29
  have e0 : W0.heap.size = w.heap.size + 1 := by rw [← hW]; simp
  obtain ⟨W1, hW1, pb1, hb1⟩ := PqBox.new W0 p 55
  rw [e0] at pb1
  have HW := Lib.hid hW
  have HW1 := Lib.hid hW1
  have ST1 := Lib.hid (st.up hb1)
  obtain ⟨x0, x1, x2, x3, x4, x5, hz⟩ := ST1.out.cells
  obtain ⟨a0, a1, a2, a3, az⟩ := pb1
  clear hR hW hW1 st hb1 e0
  go_enter Tryz.func127, Tryz.ntmps127
  go_upto_region 1 with (fail)
  rw [HW.out, HW1.out]
  go_wp2_with (go_at_call 204; refine (rDivides_ok _ _ _ hp.period hf v hv).mono ?_; rintro e w' ⟨rfl, rfl⟩)
  go_ret
  exact ⟨rfl, ST1.out.bel⟩
theorem fit_iff (c : Cfg) (p : Par) : fitB p.period c.frame = true ↔ (p.period ≠ 0 ∧ c.frame % p.period = 0) := by unfold fitB; simp
set_option maxRecDepth 100000 in
set_option maxHeartbeats 8000000 in
theorem rDemCheck_ok (c : Cfg) (A1 A2 A3 A4 A5 : Option Addr) (c1 c2 c3 c4 c5 : Nat) (w : World) (hR : CfgR w w.heap.size c A1 A2 A3 A4 A5 c1 c2 c3 c4 c5) (hs : c.small) (hok : c.ok) (hwb : winBad c = (0, 0, 0)) (ec sc ic : Int) (hv : Hid (demBad c = (ec, sc, ic))) : Calls Tryz.prog 75 #[cfgV c.frame A1 A2 A3 A4 A5 c.parts.length c.wins.length c.regs.length c.ports.length c.chans.length c1 c2 c3 c4 c5] w fun e w' => e = .returned (.tuple #[.int .i64 ec, .int .i64 sc, .int .i64 ic]) ∧ Below w.heap.size w w' := by
  have hbd := hs.bd
  have ST0 := Lib.hid (St.start hR 29)
  have bp := hbd.p
  have HOK := Lib.hid hok
  have HWB := Lib.hid hwb
  clear hR hbd hok hwb
  go_enter Tryz.func75, Tryz.ntmps75
  go_wp2
  go_loopw [5] (fun i wr => ∃ k : Nat, k ≤ c.parts.length ∧ i = .int .i64 k ∧ Hid (bad 0 (c.parts.map (demE c)) = bad k ((c.parts.map (demE c)).drop k)) ∧ Hid (St w (wr) c A1 A2 A3 A4 A5 c1 c2 c3 c4 c5)) (fun i _ => c.parts.length - (intOf i).toNat)
  case atStart => exact ⟨0, Nat.zero_le _, rfl, Lib.hid rfl, ST0⟩
  case round =>
    obtain ⟨k, hk, rfl, hrest, ST⟩ := hrel
    obtain ⟨x0, x1, x2, x3, x4, x5, hz⟩ := ST.out.cells
    by_cases hlt : k < c.parts.length
    · obtain ⟨x, hx⟩ := get_lt hlt
      have HRO := Lib.hid (HOK.out.parts x (List.mem_of_getElem? hx))
      have HXX := Lib.hid hx
      obtain ⟨bb, o, rfl, hbb, g0, g1, g2, g3⟩ := par_at ST.out.R.parts hx
      have HX := Lib.hid (show (c.parts.map (demE c))[k]? = some (demE c x) by simp [hx])
      clear hx
      have n0 : (0 : Int) ≤ (k : Int) := by omega
      have n1 : (k : Int) < (c.parts.length : Int) := by omega
      go_upto_region 5 with (fail)
      obtain ⟨W4, hW4, rb, hb4⟩ := PqBox.new wr x 55
      rw [hW4]
      have ST4 := Lib.hid (ST.out.up hb4)
      have HPB := Lib.hid rb
      clear hW4 hb4 g0 g1 g2 g3 hbb x0 x1 x2 x3 x4 x5 hz rb
      obtain ⟨x0, x1, x2, x3, x4, x5, hz⟩ := ST4.out.cells
      obtain ⟨p0, p1, p2, p3, hg⟩ := HPB.out
      obtain ⟨v, hv2⟩ : ∃ v, fitB x.period c.frame = v := ⟨_, rfl⟩
      have HV := Lib.hid hv2
      cases v
      · have HDE := Lib.hid (demE_w (c := c) (p := x) (by unfold wpB; rw [hv2]; rfl))
        have HE := Lib.hid ((demBad_e (bad_hit hrest.out HX.out (by rw [HDE.out]; decide)) (by rw [HDE.out]; decide)).symm.trans hv.out)
        clear hv2
        go_wp2_with fail
        refine (rFits_ok c _ _ _ _ _ _ _ _ _ _ _ ST4.out.R hs HOK.out.frame x HRO.out false HV).mono ?_
        rintro e w5 ⟨rfl, hb5⟩
        have HZ := Lib.hid (ST4.out.up hb5).bel
        clear hb5 x0 x1 x2 x3 x4 x5 hz p0 p1 p2 p3 hg
        go_wp2
        go_ret3
        refine ⟨ret_tri (p := (22, 1, (k : Int))) (q := (ec, sc, ic)) ?_, HZ.out⟩
        rw [← HE.out, HDE.out]
      · have hft := (fit_iff c x).1 hv2
        have HFT := Lib.hid hft
        clear hft
        go_wp2_with fail
        refine (rFits_ok c _ _ _ _ _ _ _ _ _ _ _ ST4.out.R hs HOK.out.frame x HRO.out true HV).mono ?_
        rintro e w5 ⟨rfl, hb5⟩
        have ST5 := Lib.hid (ST4.out.up hb5)
        have HPB5 := Lib.hid (HPB.out.up hb5)
        clear hb5 x0 x1 x2 x3 x4 x5 hz p0 p1 p2 p3 hg
        obtain ⟨x0, x1, x2, x3, x4, x5, hz⟩ := ST5.out.cells
        obtain ⟨p0, p1, p2, p3, hg⟩ := HPB5.out
        by_cases hd : x.period < x.duration
        · have HDE := Lib.hid (demE_w (c := c) (p := x) (by unfold wpB; rw [decide_eq_true hd]; simp))
          have HE := Lib.hid ((demBad_e (bad_hit hrest.out HX.out (by rw [HDE.out]; decide)) (by rw [HDE.out]; decide)).symm.trans hv.out)
          clear hv2
          go_wp2
          go_ret3
          refine ⟨ret_tri (p := (22, 1, (k : Int))) (q := (ec, sc, ic)) ?_, ST5.out.bel⟩
          rw [← HE.out, HDE.out]
        · have hd2 : decide (x.period < x.duration) = false := decide_eq_false hd
          have HWP := Lib.hid (show wpB c x = false by unfold wpB; rw [hv2, hd2]; rfl)
          obtain ⟨per, D, count, F, hnm⟩ := nmOk_of HRO.out HOK.out.frame HFT.out.1 HFT.out.2
          have HNM := Lib.hid hnm
          obtain ⟨u, hu⟩ : ∃ u, shortB c x = u := ⟨_, rfl⟩
          have HU := Lib.hid hu
          clear hv2 hd hnm hu
          go_wp2_with fail
          refine (rShort_ok c _ _ _ _ _ _ _ _ _ _ _ ST5.out.R hs HOK.out HWB.out k x HXX.out HNM.out u HU).mono ?_
          rintro e w6 ⟨⟨kk, rfl⟩, hb6⟩
          have ST6 := Lib.hid (ST5.out.up hb6)
          clear hb6 x0 x1 x2 x3 x4 x5 hz p0 p1 p2 p3 hg
          cases u
          · have HDE := Lib.hid (show demE c x = 0 by rw [demE_s HWP.out, HU.out]; rfl)
            go_wp2
            go_roundw
            case rel => exact ⟨k + 1, by omega, by go_num, Lib.hid (bad_miss hrest.out (by rw [HX.out, HDE.out])), ST6⟩
            case measure => simp [intOf]; omega
          · have HDE := Lib.hid (show demE c x = 23 by rw [demE_s HWP.out, HU.out]; rfl)
            have HE := Lib.hid ((demBad_e (bad_hit hrest.out HX.out (by rw [HDE.out]; decide)) (by rw [HDE.out]; decide)).symm.trans hv.out)
            go_wp2
            go_ret3
            refine ⟨ret_tri (p := (23, 1, (k : Int))) (q := (ec, sc, ic)) ?_, ST6.out.bel⟩
            rw [← HE.out, HDE.out]
    · obtain rfl : k = c.parts.length := by omega
      have hrb : bad 0 (c.parts.map (demE c)) = (0, 0) := bad_end (l := c.parts.map (demE c)) (by simpa using hrest.out)
      have HE := Lib.hid ((demBad_n hrb).symm.trans hv.out)
      clear hrb
      go_wp2
      go_ret3
      exact ⟨ret_tri (p := (0, 0, 0)) (q := (ec, sc, ic)) HE.out, ST.out.bel⟩
end Go.Proofs.YtpedlbjbbcbbkaaGreat
