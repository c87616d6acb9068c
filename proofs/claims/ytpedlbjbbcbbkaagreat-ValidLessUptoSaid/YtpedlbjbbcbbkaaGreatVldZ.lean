/-
  Validity as a plain function: the faults of the nine checks, and those that are performed. It speaks of no program.
-/
import Derived.Test.YtpedlbjbbcbbkaaGreatDemZ
import Derived.Test.YtpedlbjbbcbbkaaGreatValA
import Derived.Test.YtpedlbjbbcbbkaaGreatWirB
import Derived.Test.YtpedlbjbbcbbkaaGreatConA
import Derived.Test.YtpedlbjbbcbbkaaGreatWirA
import Derived.BigQuiet
import Derived.Test.YtpedlbjbbcbbkaaGreatInvZ
import Derived.BigRegion
namespace Go.Proofs.YtpedlbjbbcbbkaaGreat
open Go.RowKit
def conFlt (c : Cfg) : Flt := ⟨(chkBad c).1, (chkBad c).2.1, (chkBad c).2.2⟩
def upFlt (c : Cfg) : Flt := firstOf 1 [refParts c]
def utFlt (c : Cfg) : Flt := firstOf 4 [refPorts c]
def ucFlt (c : Cfg) : Flt := firstOf 5 [rep (c.chans.map (·.id))]
/-- the fault of each check -/
def valF (c : Cfg) : Nat → Flt
  | 0 => conFlt c
  | 1 => upFlt c
  | 2 => utFlt c
  | 3 => ucFlt c
  | 4 => winFlt c
  | 5 => demFlt c
  | 6 => memFlt c
  | 7 => pFlt c
  | _ => xFlt c
theorem chkBad_zero {c : Cfg} (h : (chkBad c).1 = 0) : chkBad c = (0, 0, 0) := by
  unfold chkBad nameBads at *
  split at h
  · simp at h
  · repeat' split at h
    all_goals first | rfl | (simp at h; done) | (rw [if_neg (by omega), if_neg (by omega), if_neg (by omega)])
theorem winBad_zero {c : Cfg} (h : (winBad c).1 = 0) : winBad c = (0, 0, 0) := by
  unfold winBad at *
  split at h
  · simp at h
  · split at h
    · rename_i hn; exact absurd h hn
    · split at h
      · simp at h
      · rename_i h1 h2 h3
        rw [if_neg h1, if_neg h2, if_neg h3]
theorem demBad_zero {c : Cfg} (h : (demBad c).1 = 0) : demBad c = (0, 0, 0) := by
  unfold demBad at *
  split at h
  · rename_i h1; rw [if_pos h1]
  · rename_i h1; exact absurd h h1
theorem firstOf_zero (s : Int) (l : List Int) (h : (firstOf s l).code = 0) : firstOf s l = noFlt := by
  induction l with
  | nil => rfl
  | cons i r ih =>
    have e : firstOf s (i :: r) = if 0 ≤ i then ⟨18, s, i⟩ else firstOf s r := by rw [firstOf]
    rw [e] at h ⊢
    split at h
    · simp at h
    · rename_i hi; rw [if_neg hi]; exact ih h
theorem badFlt_zero {s : Int} {v : Int × Int} (h : (badFlt s v).code = 0) : badFlt s v = noFlt := by
  unfold badFlt at *
  split at h
  · rename_i h1; rw [if_pos h1]
  · rename_i h1; exact absurd h h1
theorem valF_zero {c : Cfg} {i : Nat} (h : (valF c i).code = 0) : valF c i = noFlt := by
  match i with
  | 0 => show conFlt c = noFlt; unfold conFlt; rw [chkBad_zero h]; rfl
  | 1 => exact firstOf_zero _ _ h
  | 2 => exact firstOf_zero _ _ h
  | 3 => exact firstOf_zero _ _ h
  | 4 => show winFlt c = noFlt; unfold winFlt; rw [winBad_zero h]; rfl
  | 5 => show demFlt c = noFlt; unfold demFlt; rw [demBad_zero h]; rfl
  | 6 =>
    show memFlt c = noFlt
    have h : (memFlt c).code = 0 := h
    unfold memFlt at *
    split at h
    · rename_i h1; rw [if_pos h1]
    · rename_i h1; exact absurd h h1
  | 7 => exact badFlt_zero h
  | _ + 8 => exact badFlt_zero h
def zB (c : Cfg) (i : Nat) : Bool := decide ((valF c i).code = 0)
def zL (c : Cfg) : List Bool := [zB c 0, zB c 1, zB c 2, zB c 3, zB c 4, zB c 5, zB c 6, zB c 7, zB c 8]
/-- whether a check is performed -/
def perfC (c : Cfg) (i : Nat) : Bool := perf19 (zL c) i
theorem perf_step_all : ∀ z0 z1 z2 z3 z4 z5 z6 z7 z8 : Bool, ((List.range 9).all fun i => perf19 [z0, z1, z2, z3, z4, z5, z6, z7, z8] i == (nds i).all fun n => perf19 [z0, z1, z2, z3, z4, z5, z6, z7, z8] n && [z0, z1, z2, z3, z4, z5, z6, z7, z8].getD n true) = true := by
  decide +kernel
theorem zL_get (c : Cfg) {i : Nat} (h : i < 9) : (zL c).getD i true = zB c i := by
  have : i = 0 ∨ i = 1 ∨ i = 2 ∨ i = 3 ∨ i = 4 ∨ i = 5 ∨ i = 6 ∨ i = 7 ∨ i = 8 := by omega
  rcases this with rfl | rfl | rfl | rfl | rfl | rfl | rfl | rfl | rfl <;> rfl
theorem nds_lt {i n : Nat} (h : i < 9) (hn : n ∈ nds i) : n < i := by
  have : i = 0 ∨ i = 1 ∨ i = 2 ∨ i = 3 ∨ i = 4 ∨ i = 5 ∨ i = 6 ∨ i = 7 ∨ i = 8 := by omega
  rcases this with rfl | rfl | rfl | rfl | rfl | rfl | rfl | rfl | rfl <;> simp [nds] at hn <;> omega
/-- a check is performed if those that it waits for are performed and find no fault -/
def okN (c : Cfg) (n : Nat) : Bool := perfC c n && zB c n
theorem perf_step (c : Cfg) {i : Nat} (h : i < 9) : perfC c i = (nds i).all (okN c) := by
  have h1 := perf_step_all (zB c 0) (zB c 1) (zB c 2) (zB c 3) (zB c 4) (zB c 5) (zB c 6) (zB c 7) (zB c 8)
  rw [List.all_eq_true] at h1
  have h2 := eq_of_beq (h1 i (List.mem_range.2 h))
  have h3 : perfC c i = (nds i).all fun n => perf19 (zL c) n && (zL c).getD n true := h2
  rw [h3, Bool.eq_iff_iff, List.all_eq_true, List.all_eq_true]
  constructor
  · intro q n hn
    have := q n hn
    rw [zL_get c (Nat.lt_trans (nds_lt h hn) h)] at this
    exact this
  · intro q n hn
    have := q n hn
    rw [zL_get c (Nat.lt_trans (nds_lt h hn) h)]
    exact this
/-- demands are checked for right windows alone -/
theorem perf_win {c : Cfg} (h : perfC c 5 = true) : winBad c = (0, 0, 0) := by
  rw [perf_step c (by omega)] at h
  have h4 : okN c 4 = true := (List.all_eq_true.1 h) 4 (by simp [nds])
  unfold okN at h4
  simp only [Bool.and_eq_true] at h4
  have : (valF c 4).code = 0 := of_decide_eq_true h4.2
  exact winBad_zero this
/-- the fault of a check that is performed -/
def resF (c : Cfg) (i : Nat) : Flt := if perfC c i then valF c i else noFlt
def fltsOf (c : Cfg) : List Flt := ((List.range 9).map (resF c)).filter fun f => !decide (f.code = 0)
theorem resF_zero {c : Cfg} {i : Nat} (h : (resF c i).code = 0) : resF c i = noFlt := by
  unfold resF at *
  split at h
  · rename_i h1; rw [if_pos h1]; exact valF_zero h
  · rename_i h1; rw [if_neg h1]
/-- the names -/
def nmS : Nat → ByteArray
  | 0 => ⟨#[108, 105, 109, 105, 116, 115]⟩
  | 1 => ⟨#[112, 97, 114, 116, 105, 116, 105, 111, 110, 115]⟩
  | 2 => ⟨#[112, 111, 114, 116, 115]⟩
  | 3 => ⟨#[99, 104, 97, 110, 110, 101, 108, 115]⟩
  | 4 => ⟨#[119, 105, 110, 100, 111, 119, 115]⟩
  | 5 => ⟨#[100, 101, 109, 97, 110, 100, 115]⟩
  | 6 => ⟨#[114, 101, 103, 105, 111, 110, 115]⟩
  | 7 => ⟨#[101, 110, 100, 115]⟩
  | _ => ⟨#[119, 105, 114, 101, 115]⟩
def nms : List ByteArray := (List.range 9).map nmS
theorem nms_nodup : nms.Nodup := by decide
theorem nmS_inj {i j : Nat} (hi : i < 9) (hj : j < 9) (h : nmS i = nmS j) : i = j := by
  have h1 : nms[i]? = some (nmS i) := by unfold nms; simp [hi]
  have h2 : nms[j]? = some (nmS j) := by unfold nms; simp [hj]
  rw [← h] at h2
  have hl : i < nms.length := by unfold nms; simpa using hi
  exact (List.getElem?_inj hl nms_nodup).1 (h1.trans h2.symm)
end Go.Proofs.YtpedlbjbbcbbkaaGreat
namespace Go.Proofs.YtpedlbjbbcbbkaaGreat
open Go.RowKit
open Go.Maps (Keyed)
/-- a row of names -/
def NmR (w : World) (A : Option Addr) (ns : List ByteArray) : Prop := Rd w w.heap.size 1 A ns.length (ns.map Value.string)
theorem nm_at {w : World} {A : Option Addr} {ns : List ByteArray} (h : NmR w A ns) {k : Nat} {s : ByteArray} (hk : ns[k]? = some s) : ∃ b o, A = some ⟨b, o, none⟩ ∧ b < w.heap.size ∧ w.cell? ⟨b, o + k, none⟩ = some (.string s) := by
  have hl : k < ns.length := (List.getElem?_eq_some_iff.1 hk).1
  obtain ⟨b, o, e, hb, hc⟩ := h.2 (by omega)
  exact ⟨b, o, e, hb, hc k _ (by rw [List.getElem?_map, hk]; rfl)⟩
theorem NmR.up {w w' : World} {A : Option Addr} {ns : List ByteArray} (h : NmR w A ns) (hb : Below w.heap.size w w') : NmR w' A ns := Rd.up h hb
theorem NmR.new (w : World) (ns : List ByteArray) (t : TypeId) : NmR (w.alloc (.cells (ns.map Value.string).toArray t)) (some ⟨w.heap.size, 0, none⟩) ns := by
  refine ⟨by simp, fun _ => ⟨_, _, rfl, by simp, fun j u hu => ?_⟩⟩
  have := World.news_of_block (heap_alloc_new w (.cells (ns.map Value.string).toArray t)) j u (by simpa using hu)
  rwa [addr_add] at this
theorem order_ok (w : World) : Calls Tryz.prog 35 #[] w fun e w' => (∃ A, e = .returned (.slice A 9 9) ∧ NmR w' A nms) ∧ Below w.heap.size w w' := by
  have h := NmR.new w nms 9
  have hb := below_one w (.cells (nms.map Value.string).toArray 9)
  go_enter Tryz.func35, Tryz.ntmps35
  go_wp2
  go_ret
  exact ⟨⟨_, rfl, h⟩, hb⟩
theorem vNames_ok (w : World) : Calls Tryz.prog 21 #[] w fun e w' => (∃ A, e = .returned (.slice A 9 9) ∧ NmR w' A nms) ∧ Below w.heap.size w w' := by
  go_enter Tryz.func21, Tryz.ntmps21
  go_wp2_with fail
  refine (order_ok w).mono ?_
  rintro e w' ⟨⟨A, rfl, h⟩, hb⟩
  go_wp2
  go_ret
  exact ⟨⟨_, rfl, h⟩, hb⟩
theorem rNames_ok (w : World) : Calls Tryz.prog 22 #[] w fun e w' => (∃ A, e = .returned (.slice A 9 9) ∧ NmR w' A nms) ∧ Below w.heap.size w w' := by
  have h := NmR.new w nms 9
  have hb := below_one w (.cells (nms.map Value.string).toArray 9)
  go_enter Tryz.func22, Tryz.ntmps22
  go_wp2
  go_ret
  exact ⟨⟨_, rfl, h⟩, hb⟩
/-- the function of each check -/
def doF : Nat → Nat
  | 0 => 111
  | 1 => 112
  | 2 => 113
  | 3 => 114
  | 4 => 115
  | 5 => 116
  | 6 => 117
  | 7 => 118
  | _ => 119
theorem firstOf_twoV (s a b : Int) : firstOf s [a, b] = firstOf s [if 0 ≤ a then a else b] := by
  unfold firstOf
  by_cases h : 0 ≤ a
  · simp [h]
  · simp [h, firstOf]
theorem doF_ok (c : Cfg) (A1 A2 A3 A4 A5 : Option Addr) (c1 c2 c3 c4 c5 : Nat) (w : World) (hR : CfgR w w.heap.size c A1 A2 A3 A4 A5 c1 c2 c3 c4 c5) (hs : c.small) (hok : c.ok) (i : Nat) (hi : i < 9) (h5 : i = 5 → winBad c = (0, 0, 0)) : Calls Tryz.prog (doF i) #[cfgV c.frame A1 A2 A3 A4 A5 c.parts.length c.wins.length c.regs.length c.ports.length c.chans.length c1 c2 c3 c4 c5] w fun e w' => e = .returned (fltV (valF c i)) ∧ Below w.heap.size w w' := by
  have ht : c.total ≤ 4194304 := by have h : c.total ≤ 1048576 := hs.total; omega
  have : i = 0 ∨ i = 1 ∨ i = 2 ∨ i = 3 ∨ i = 4 ∨ i = 5 ∨ i = 6 ∨ i = 7 ∨ i = 8 := by omega
  rcases this with rfl | rfl | rfl | rfl | rfl | rfl | rfl | rfl | rfl
  · exact confCheck_ok c A1 A2 A3 A4 A5 c1 c2 c3 c4 c5 w hR ht _ _ _ (Lib.hid rfl)
  · have h := uPartitions_ok c A1 A2 A3 A4 A5 c1 c2 c3 c4 c5 w hR hs hok
    rwa [firstOf_twoV] at h
  · have h := uPorts_ok c A1 A2 A3 A4 A5 c1 c2 c3 c4 c5 w hR hs hok
    rwa [firstOf_twoV] at h
  · exact uChannels_ok c A1 A2 A3 A4 A5 c1 c2 c3 c4 c5 w hR hs hok
  · exact frCheck_ok c A1 A2 A3 A4 A5 c1 c2 c3 c4 c5 w hR hs hok
  · exact demCheck_ok c A1 A2 A3 A4 A5 c1 c2 c3 c4 c5 w hR hs hok (h5 rfl)
  · exact memCheck_ok c A1 A2 A3 A4 A5 c1 c2 c3 c4 c5 w hR hs hok
  · exact wPorts_ok c A1 A2 A3 A4 A5 c1 c2 c3 c4 c5 w hR hs hok
  · exact wChannels_ok c A1 A2 A3 A4 A5 c1 c2 c3 c4 c5 w hR hs hok
theorem doF_ent (i : Nat) (hi : i < 9) : ∀ a w, (callFunc (doF i) a).run Tryz.prog w = .ok (.enter (doF i) a) w := by
  have : i = 0 ∨ i = 1 ∨ i = 2 ∨ i = 3 ∨ i = 4 ∨ i = 5 ∨ i = 6 ∨ i = 7 ∨ i = 8 := by omega
  rcases this with rfl | rfl | rfl | rfl | rfl | rfl | rfl | rfl | rfl
  · exact enters_of Tryz.func111 (by kernel_rfl) rfl
  · exact enters_of Tryz.func112 (by kernel_rfl) rfl
  · exact enters_of Tryz.func113 (by kernel_rfl) rfl
  · exact enters_of Tryz.func114 (by kernel_rfl) rfl
  · exact enters_of Tryz.func115 (by kernel_rfl) rfl
  · exact enters_of Tryz.func116 (by kernel_rfl) rfl
  · exact enters_of Tryz.func117 (by kernel_rfl) rfl
  · exact enters_of Tryz.func118 (by kernel_rfl) rfl
  · exact enters_of Tryz.func119 (by kernel_rfl) rfl
/-- the map of the checks, read -/
def ChkM (w : World) (m : Nat) (es : List (ByteArray × Value)) : Prop :=
  MapIs w Tryz.prog 9 kS id m es ∧ (es.map (·.1)).Nodup ∧ ∀ i, i < 9 → ∃ A n cp, getv es (nmS i) = some (.agg #[.func (.func (doF i)) #[] #[], .slice A n cp]) ∧ n = (nds i).length ∧ NmR w A ((nds i).map nmS)
end Go.Proofs.YtpedlbjbbcbbkaaGreat
namespace Go.Proofs.YtpedlbjbbcbbkaaGreat
open Go.RowKit
open Go.Maps (Keyed)
theorem NmR.of_blk {w : World} {b : Nat} {t : TypeId} (ns : List ByteArray) (h : Blk w b t (ns.map Value.string).toArray) : NmR w (some ⟨b, 0, none⟩) ns :=
  ⟨by simp, fun _ => ⟨_, _, rfl, h.lt, fun j u hu => by rw [Nat.zero_add, h.cell j]; simpa using hu⟩⟩
theorem blk_grown {w w' : World} {g m : Nat} {t : TypeId} {cs : Array Value} (h : Blk w g t cs) (hg : w.grownBy w' (some m)) (hne : g ≠ m) : Blk w' g t cs := (hg.block g h.lt (fun e => hne (by cases e; rfl))).trans h
theorem ins_step {w : World} {m : Nat} {es : List (ByteArray × Value)} (h : MapIs w Tryz.prog 9 kS id m es) (s : ByteArray) (hs : s.size ≤ maxLen) (hn : getv es s = none) (v : Value) :
    ∃ w', (Instr.mapUpdate 126 (.map (some m)) (.string s) v).run Tryz.prog w = .ok () w' ∧ MapIs w' Tryz.prog 9 kS id m (es ++ [(s, v)]) ∧ w.grownBy w' (some m) ∧ w'.heap.size = w.heap.size := by
  obtain ⟨l, hl⟩ := keyS hs
  exact h.put (val := id) lawS Tryz.underlying126 (x := s) hl kS_inj hn v
set_option maxRecDepth 100000 in
set_option maxHeartbeats 4000000 in
theorem checks_ok (w : World) : Calls Tryz.prog 66 #[] w fun e w' => (∃ es, e = .returned (.map (some w.heap.size)) ∧ ChkM w' w.heap.size es) ∧ Below w.heap.size w w' := by
  have hmm := @run_makeMap Tryz.prog
  obtain ⟨V0, hV0⟩ : ∃ V, w.alloc (.map #[] 0) = V := ⟨_, rfl⟩
  have hz0 : V0.heap.size = w.heap.size + 1 := by rw [← hV0]; simp
  have D0 : Below w.heap.size w V0 := by rw [← hV0]; exact below_one _ _
  have M0 : MapIs V0 Tryz.prog 9 kS id w.heap.size ([] : List (ByteArray × Value)) := by rw [← hV0]; exact MapIs.made _ _ _ _ _
  obtain ⟨U0, r0, N0', g0, s0⟩ := ins_step M0 (nmS 0) (by unfold maxLen nmS; decide) (by rfl) (.agg #[.func (.func (doF 0)) #[] #[], .slice none 0 0])
  have N0 : MapIs U0 Tryz.prog 9 kS id w.heap.size [(nmS 0, .agg #[.func (.func (doF 0)) #[] #[], .slice none 0 0])] := N0'
  have E0 : Below w.heap.size w U0 := D0.grown g0 (by omega) (fun k e => by cases e; omega)
  rw [← hV0] at r0
  simp only [nmS, doF] at r0
  obtain ⟨V1, hV1⟩ : ∃ V, U0.alloc (.cells (([nmS 0] : List ByteArray).map Value.string).toArray 9) = V := ⟨_, rfl⟩
  have hz1 : V1.heap.size = U0.heap.size + 1 := by rw [← hV1]; simp
  have D1 : Below w.heap.size w V1 := by rw [← hV1]; exact E0.alloc (by omega) _
  have M1 := N0.alloc (.cells (([nmS 0] : List ByteArray).map Value.string).toArray 9)
  rw [hV1] at M1
  obtain ⟨U1, r1, N1', g1, s1⟩ := ins_step M1 (nmS 1) (by unfold maxLen nmS; decide) (by rw [getv_none]; intro p hp; simp only [List.mem_cons, List.not_mem_nil, or_false] at hp; rcases hp with rfl <;> (dsimp only; decide)) (.agg #[.func (.func (doF 1)) #[] #[], .slice (some ⟨U0.heap.size, 0, none⟩) 1 1])
  have N1 : MapIs U1 Tryz.prog 9 kS id w.heap.size [(nmS 0, .agg #[.func (.func (doF 0)) #[] #[], .slice none 0 0]), (nmS 1, .agg #[.func (.func (doF 1)) #[] #[], .slice (some ⟨U0.heap.size, 0, none⟩) 1 1])] := N1'
  have E1 : Below w.heap.size w U1 := D1.grown g1 (by omega) (fun k e => by cases e; omega)
  have B1_1 : Blk U1 U0.heap.size 9 (([nmS 0] : List ByteArray).map Value.string).toArray := blk_grown (by rw [← hV1]; exact Blk.new _ _ _) g1 (by omega)
  rw [← hV1] at r1
  simp only [nmS, doF, List.map_cons, List.map_nil] at r1
  obtain ⟨V2, hV2⟩ : ∃ V, U1.alloc (.cells (([nmS 0] : List ByteArray).map Value.string).toArray 9) = V := ⟨_, rfl⟩
  have hz2 : V2.heap.size = U1.heap.size + 1 := by rw [← hV2]; simp
  have D2 : Below w.heap.size w V2 := by rw [← hV2]; exact E1.alloc (by omega) _
  have M2 := N1.alloc (.cells (([nmS 0] : List ByteArray).map Value.string).toArray 9)
  rw [hV2] at M2
  obtain ⟨U2, r2, N2', g2, s2⟩ := ins_step M2 (nmS 2) (by unfold maxLen nmS; decide) (by rw [getv_none]; intro p hp; simp only [List.mem_cons, List.not_mem_nil, or_false] at hp; rcases hp with rfl | rfl <;> (dsimp only; decide)) (.agg #[.func (.func (doF 2)) #[] #[], .slice (some ⟨U1.heap.size, 0, none⟩) 1 1])
  have N2 : MapIs U2 Tryz.prog 9 kS id w.heap.size [(nmS 0, .agg #[.func (.func (doF 0)) #[] #[], .slice none 0 0]), (nmS 1, .agg #[.func (.func (doF 1)) #[] #[], .slice (some ⟨U0.heap.size, 0, none⟩) 1 1]), (nmS 2, .agg #[.func (.func (doF 2)) #[] #[], .slice (some ⟨U1.heap.size, 0, none⟩) 1 1])] := N2'
  have E2 : Below w.heap.size w U2 := D2.grown g2 (by omega) (fun k e => by cases e; omega)
  have B2_2 : Blk U2 U1.heap.size 9 (([nmS 0] : List ByteArray).map Value.string).toArray := blk_grown (by rw [← hV2]; exact Blk.new _ _ _) g2 (by omega)
  have B1_2 : Blk U2 U0.heap.size 9 (([nmS 0] : List ByteArray).map Value.string).toArray := blk_grown (by rw [← hV2]; exact B1_1.alloc _) g2 (by omega)
  rw [← hV2] at r2
  simp only [nmS, doF, List.map_cons, List.map_nil] at r2
  obtain ⟨V3, hV3⟩ : ∃ V, U2.alloc (.cells (([nmS 0] : List ByteArray).map Value.string).toArray 9) = V := ⟨_, rfl⟩
  have hz3 : V3.heap.size = U2.heap.size + 1 := by rw [← hV3]; simp
  have D3 : Below w.heap.size w V3 := by rw [← hV3]; exact E2.alloc (by omega) _
  have M3 := N2.alloc (.cells (([nmS 0] : List ByteArray).map Value.string).toArray 9)
  rw [hV3] at M3
  obtain ⟨U3, r3, N3', g3, s3⟩ := ins_step M3 (nmS 3) (by unfold maxLen nmS; decide) (by rw [getv_none]; intro p hp; simp only [List.mem_cons, List.not_mem_nil, or_false] at hp; rcases hp with rfl | rfl | rfl <;> (dsimp only; decide)) (.agg #[.func (.func (doF 3)) #[] #[], .slice (some ⟨U2.heap.size, 0, none⟩) 1 1])
  have N3 : MapIs U3 Tryz.prog 9 kS id w.heap.size [(nmS 0, .agg #[.func (.func (doF 0)) #[] #[], .slice none 0 0]), (nmS 1, .agg #[.func (.func (doF 1)) #[] #[], .slice (some ⟨U0.heap.size, 0, none⟩) 1 1]), (nmS 2, .agg #[.func (.func (doF 2)) #[] #[], .slice (some ⟨U1.heap.size, 0, none⟩) 1 1]), (nmS 3, .agg #[.func (.func (doF 3)) #[] #[], .slice (some ⟨U2.heap.size, 0, none⟩) 1 1])] := N3'
  have E3 : Below w.heap.size w U3 := D3.grown g3 (by omega) (fun k e => by cases e; omega)
  have B3_3 : Blk U3 U2.heap.size 9 (([nmS 0] : List ByteArray).map Value.string).toArray := blk_grown (by rw [← hV3]; exact Blk.new _ _ _) g3 (by omega)
  have B1_3 : Blk U3 U0.heap.size 9 (([nmS 0] : List ByteArray).map Value.string).toArray := blk_grown (by rw [← hV3]; exact B1_2.alloc _) g3 (by omega)
  have B2_3 : Blk U3 U1.heap.size 9 (([nmS 0] : List ByteArray).map Value.string).toArray := blk_grown (by rw [← hV3]; exact B2_2.alloc _) g3 (by omega)
  rw [← hV3] at r3
  simp only [nmS, doF, List.map_cons, List.map_nil] at r3
  obtain ⟨V4, hV4⟩ : ∃ V, U3.alloc (.cells (([nmS 0] : List ByteArray).map Value.string).toArray 9) = V := ⟨_, rfl⟩
  have hz4 : V4.heap.size = U3.heap.size + 1 := by rw [← hV4]; simp
  have D4 : Below w.heap.size w V4 := by rw [← hV4]; exact E3.alloc (by omega) _
  have M4 := N3.alloc (.cells (([nmS 0] : List ByteArray).map Value.string).toArray 9)
  rw [hV4] at M4
  obtain ⟨U4, r4, N4', g4, s4⟩ := ins_step M4 (nmS 4) (by unfold maxLen nmS; decide) (by rw [getv_none]; intro p hp; simp only [List.mem_cons, List.not_mem_nil, or_false] at hp; rcases hp with rfl | rfl | rfl | rfl <;> (dsimp only; decide)) (.agg #[.func (.func (doF 4)) #[] #[], .slice (some ⟨U3.heap.size, 0, none⟩) 1 1])
  have N4 : MapIs U4 Tryz.prog 9 kS id w.heap.size [(nmS 0, .agg #[.func (.func (doF 0)) #[] #[], .slice none 0 0]), (nmS 1, .agg #[.func (.func (doF 1)) #[] #[], .slice (some ⟨U0.heap.size, 0, none⟩) 1 1]), (nmS 2, .agg #[.func (.func (doF 2)) #[] #[], .slice (some ⟨U1.heap.size, 0, none⟩) 1 1]), (nmS 3, .agg #[.func (.func (doF 3)) #[] #[], .slice (some ⟨U2.heap.size, 0, none⟩) 1 1]), (nmS 4, .agg #[.func (.func (doF 4)) #[] #[], .slice (some ⟨U3.heap.size, 0, none⟩) 1 1])] := N4'
  have E4 : Below w.heap.size w U4 := D4.grown g4 (by omega) (fun k e => by cases e; omega)
  have B4_4 : Blk U4 U3.heap.size 9 (([nmS 0] : List ByteArray).map Value.string).toArray := blk_grown (by rw [← hV4]; exact Blk.new _ _ _) g4 (by omega)
  have B1_4 : Blk U4 U0.heap.size 9 (([nmS 0] : List ByteArray).map Value.string).toArray := blk_grown (by rw [← hV4]; exact B1_3.alloc _) g4 (by omega)
  have B2_4 : Blk U4 U1.heap.size 9 (([nmS 0] : List ByteArray).map Value.string).toArray := blk_grown (by rw [← hV4]; exact B2_3.alloc _) g4 (by omega)
  have B3_4 : Blk U4 U2.heap.size 9 (([nmS 0] : List ByteArray).map Value.string).toArray := blk_grown (by rw [← hV4]; exact B3_3.alloc _) g4 (by omega)
  rw [← hV4] at r4
  simp only [nmS, doF, List.map_cons, List.map_nil] at r4
  obtain ⟨V5, hV5⟩ : ∃ V, U4.alloc (.cells (([nmS 1, nmS 4] : List ByteArray).map Value.string).toArray 9) = V := ⟨_, rfl⟩
  have hz5 : V5.heap.size = U4.heap.size + 1 := by rw [← hV5]; simp
  have D5 : Below w.heap.size w V5 := by rw [← hV5]; exact E4.alloc (by omega) _
  have M5 := N4.alloc (.cells (([nmS 1, nmS 4] : List ByteArray).map Value.string).toArray 9)
  rw [hV5] at M5
  obtain ⟨U5, r5, N5', g5, s5⟩ := ins_step M5 (nmS 5) (by unfold maxLen nmS; decide) (by rw [getv_none]; intro p hp; simp only [List.mem_cons, List.not_mem_nil, or_false] at hp; rcases hp with rfl | rfl | rfl | rfl | rfl <;> (dsimp only; decide)) (.agg #[.func (.func (doF 5)) #[] #[], .slice (some ⟨U4.heap.size, 0, none⟩) 2 2])
  have N5 : MapIs U5 Tryz.prog 9 kS id w.heap.size [(nmS 0, .agg #[.func (.func (doF 0)) #[] #[], .slice none 0 0]), (nmS 1, .agg #[.func (.func (doF 1)) #[] #[], .slice (some ⟨U0.heap.size, 0, none⟩) 1 1]), (nmS 2, .agg #[.func (.func (doF 2)) #[] #[], .slice (some ⟨U1.heap.size, 0, none⟩) 1 1]), (nmS 3, .agg #[.func (.func (doF 3)) #[] #[], .slice (some ⟨U2.heap.size, 0, none⟩) 1 1]), (nmS 4, .agg #[.func (.func (doF 4)) #[] #[], .slice (some ⟨U3.heap.size, 0, none⟩) 1 1]), (nmS 5, .agg #[.func (.func (doF 5)) #[] #[], .slice (some ⟨U4.heap.size, 0, none⟩) 2 2])] := N5'
  have E5 : Below w.heap.size w U5 := D5.grown g5 (by omega) (fun k e => by cases e; omega)
  have B5_5 : Blk U5 U4.heap.size 9 (([nmS 1, nmS 4] : List ByteArray).map Value.string).toArray := blk_grown (by rw [← hV5]; exact Blk.new _ _ _) g5 (by omega)
  have B1_5 : Blk U5 U0.heap.size 9 (([nmS 0] : List ByteArray).map Value.string).toArray := blk_grown (by rw [← hV5]; exact B1_4.alloc _) g5 (by omega)
  have B2_5 : Blk U5 U1.heap.size 9 (([nmS 0] : List ByteArray).map Value.string).toArray := blk_grown (by rw [← hV5]; exact B2_4.alloc _) g5 (by omega)
  have B3_5 : Blk U5 U2.heap.size 9 (([nmS 0] : List ByteArray).map Value.string).toArray := blk_grown (by rw [← hV5]; exact B3_4.alloc _) g5 (by omega)
  have B4_5 : Blk U5 U3.heap.size 9 (([nmS 0] : List ByteArray).map Value.string).toArray := blk_grown (by rw [← hV5]; exact B4_4.alloc _) g5 (by omega)
  rw [← hV5] at r5
  simp only [nmS, doF, List.map_cons, List.map_nil] at r5
  obtain ⟨V6, hV6⟩ : ∃ V, U5.alloc (.cells (([nmS 0] : List ByteArray).map Value.string).toArray 9) = V := ⟨_, rfl⟩
  have hz6 : V6.heap.size = U5.heap.size + 1 := by rw [← hV6]; simp
  have D6 : Below w.heap.size w V6 := by rw [← hV6]; exact E5.alloc (by omega) _
  have M6 := N5.alloc (.cells (([nmS 0] : List ByteArray).map Value.string).toArray 9)
  rw [hV6] at M6
  obtain ⟨U6, r6, N6', g6, s6⟩ := ins_step M6 (nmS 6) (by unfold maxLen nmS; decide) (by rw [getv_none]; intro p hp; simp only [List.mem_cons, List.not_mem_nil, or_false] at hp; rcases hp with rfl | rfl | rfl | rfl | rfl | rfl <;> (dsimp only; decide)) (.agg #[.func (.func (doF 6)) #[] #[], .slice (some ⟨U5.heap.size, 0, none⟩) 1 1])
  have N6 : MapIs U6 Tryz.prog 9 kS id w.heap.size [(nmS 0, .agg #[.func (.func (doF 0)) #[] #[], .slice none 0 0]), (nmS 1, .agg #[.func (.func (doF 1)) #[] #[], .slice (some ⟨U0.heap.size, 0, none⟩) 1 1]), (nmS 2, .agg #[.func (.func (doF 2)) #[] #[], .slice (some ⟨U1.heap.size, 0, none⟩) 1 1]), (nmS 3, .agg #[.func (.func (doF 3)) #[] #[], .slice (some ⟨U2.heap.size, 0, none⟩) 1 1]), (nmS 4, .agg #[.func (.func (doF 4)) #[] #[], .slice (some ⟨U3.heap.size, 0, none⟩) 1 1]), (nmS 5, .agg #[.func (.func (doF 5)) #[] #[], .slice (some ⟨U4.heap.size, 0, none⟩) 2 2]), (nmS 6, .agg #[.func (.func (doF 6)) #[] #[], .slice (some ⟨U5.heap.size, 0, none⟩) 1 1])] := N6'
  have E6 : Below w.heap.size w U6 := D6.grown g6 (by omega) (fun k e => by cases e; omega)
  have B6_6 : Blk U6 U5.heap.size 9 (([nmS 0] : List ByteArray).map Value.string).toArray := blk_grown (by rw [← hV6]; exact Blk.new _ _ _) g6 (by omega)
  have B1_6 : Blk U6 U0.heap.size 9 (([nmS 0] : List ByteArray).map Value.string).toArray := blk_grown (by rw [← hV6]; exact B1_5.alloc _) g6 (by omega)
  have B2_6 : Blk U6 U1.heap.size 9 (([nmS 0] : List ByteArray).map Value.string).toArray := blk_grown (by rw [← hV6]; exact B2_5.alloc _) g6 (by omega)
  have B3_6 : Blk U6 U2.heap.size 9 (([nmS 0] : List ByteArray).map Value.string).toArray := blk_grown (by rw [← hV6]; exact B3_5.alloc _) g6 (by omega)
  have B4_6 : Blk U6 U3.heap.size 9 (([nmS 0] : List ByteArray).map Value.string).toArray := blk_grown (by rw [← hV6]; exact B4_5.alloc _) g6 (by omega)
  have B5_6 : Blk U6 U4.heap.size 9 (([nmS 1, nmS 4] : List ByteArray).map Value.string).toArray := blk_grown (by rw [← hV6]; exact B5_5.alloc _) g6 (by omega)
  rw [← hV6] at r6
  simp only [nmS, doF, List.map_cons, List.map_nil] at r6
  obtain ⟨V7, hV7⟩ : ∃ V, U6.alloc (.cells (([nmS 1, nmS 2, nmS 3] : List ByteArray).map Value.string).toArray 9) = V := ⟨_, rfl⟩
  have hz7 : V7.heap.size = U6.heap.size + 1 := by rw [← hV7]; simp
  have D7 : Below w.heap.size w V7 := by rw [← hV7]; exact E6.alloc (by omega) _
  have M7 := N6.alloc (.cells (([nmS 1, nmS 2, nmS 3] : List ByteArray).map Value.string).toArray 9)
  rw [hV7] at M7
  obtain ⟨U7, r7, N7', g7, s7⟩ := ins_step M7 (nmS 7) (by unfold maxLen nmS; decide) (by rw [getv_none]; intro p hp; simp only [List.mem_cons, List.not_mem_nil, or_false] at hp; rcases hp with rfl | rfl | rfl | rfl | rfl | rfl | rfl <;> (dsimp only; decide)) (.agg #[.func (.func (doF 7)) #[] #[], .slice (some ⟨U6.heap.size, 0, none⟩) 3 3])
  have N7 : MapIs U7 Tryz.prog 9 kS id w.heap.size [(nmS 0, .agg #[.func (.func (doF 0)) #[] #[], .slice none 0 0]), (nmS 1, .agg #[.func (.func (doF 1)) #[] #[], .slice (some ⟨U0.heap.size, 0, none⟩) 1 1]), (nmS 2, .agg #[.func (.func (doF 2)) #[] #[], .slice (some ⟨U1.heap.size, 0, none⟩) 1 1]), (nmS 3, .agg #[.func (.func (doF 3)) #[] #[], .slice (some ⟨U2.heap.size, 0, none⟩) 1 1]), (nmS 4, .agg #[.func (.func (doF 4)) #[] #[], .slice (some ⟨U3.heap.size, 0, none⟩) 1 1]), (nmS 5, .agg #[.func (.func (doF 5)) #[] #[], .slice (some ⟨U4.heap.size, 0, none⟩) 2 2]), (nmS 6, .agg #[.func (.func (doF 6)) #[] #[], .slice (some ⟨U5.heap.size, 0, none⟩) 1 1]), (nmS 7, .agg #[.func (.func (doF 7)) #[] #[], .slice (some ⟨U6.heap.size, 0, none⟩) 3 3])] := N7'
  have E7 : Below w.heap.size w U7 := D7.grown g7 (by omega) (fun k e => by cases e; omega)
  have B7_7 : Blk U7 U6.heap.size 9 (([nmS 1, nmS 2, nmS 3] : List ByteArray).map Value.string).toArray := blk_grown (by rw [← hV7]; exact Blk.new _ _ _) g7 (by omega)
  have B1_7 : Blk U7 U0.heap.size 9 (([nmS 0] : List ByteArray).map Value.string).toArray := blk_grown (by rw [← hV7]; exact B1_6.alloc _) g7 (by omega)
  have B2_7 : Blk U7 U1.heap.size 9 (([nmS 0] : List ByteArray).map Value.string).toArray := blk_grown (by rw [← hV7]; exact B2_6.alloc _) g7 (by omega)
  have B3_7 : Blk U7 U2.heap.size 9 (([nmS 0] : List ByteArray).map Value.string).toArray := blk_grown (by rw [← hV7]; exact B3_6.alloc _) g7 (by omega)
  have B4_7 : Blk U7 U3.heap.size 9 (([nmS 0] : List ByteArray).map Value.string).toArray := blk_grown (by rw [← hV7]; exact B4_6.alloc _) g7 (by omega)
  have B5_7 : Blk U7 U4.heap.size 9 (([nmS 1, nmS 4] : List ByteArray).map Value.string).toArray := blk_grown (by rw [← hV7]; exact B5_6.alloc _) g7 (by omega)
  have B6_7 : Blk U7 U5.heap.size 9 (([nmS 0] : List ByteArray).map Value.string).toArray := blk_grown (by rw [← hV7]; exact B6_6.alloc _) g7 (by omega)
  rw [← hV7] at r7
  simp only [nmS, doF, List.map_cons, List.map_nil] at r7
  obtain ⟨V8, hV8⟩ : ∃ V, U7.alloc (.cells (([nmS 7] : List ByteArray).map Value.string).toArray 9) = V := ⟨_, rfl⟩
  have hz8 : V8.heap.size = U7.heap.size + 1 := by rw [← hV8]; simp
  have D8 : Below w.heap.size w V8 := by rw [← hV8]; exact E7.alloc (by omega) _
  have M8 := N7.alloc (.cells (([nmS 7] : List ByteArray).map Value.string).toArray 9)
  rw [hV8] at M8
  obtain ⟨U8, r8, N8', g8, s8⟩ := ins_step M8 (nmS 8) (by unfold maxLen nmS; decide) (by rw [getv_none]; intro p hp; simp only [List.mem_cons, List.not_mem_nil, or_false] at hp; rcases hp with rfl | rfl | rfl | rfl | rfl | rfl | rfl | rfl <;> (dsimp only; decide)) (.agg #[.func (.func (doF 8)) #[] #[], .slice (some ⟨U7.heap.size, 0, none⟩) 1 1])
  have N8 : MapIs U8 Tryz.prog 9 kS id w.heap.size [(nmS 0, .agg #[.func (.func (doF 0)) #[] #[], .slice none 0 0]), (nmS 1, .agg #[.func (.func (doF 1)) #[] #[], .slice (some ⟨U0.heap.size, 0, none⟩) 1 1]), (nmS 2, .agg #[.func (.func (doF 2)) #[] #[], .slice (some ⟨U1.heap.size, 0, none⟩) 1 1]), (nmS 3, .agg #[.func (.func (doF 3)) #[] #[], .slice (some ⟨U2.heap.size, 0, none⟩) 1 1]), (nmS 4, .agg #[.func (.func (doF 4)) #[] #[], .slice (some ⟨U3.heap.size, 0, none⟩) 1 1]), (nmS 5, .agg #[.func (.func (doF 5)) #[] #[], .slice (some ⟨U4.heap.size, 0, none⟩) 2 2]), (nmS 6, .agg #[.func (.func (doF 6)) #[] #[], .slice (some ⟨U5.heap.size, 0, none⟩) 1 1]), (nmS 7, .agg #[.func (.func (doF 7)) #[] #[], .slice (some ⟨U6.heap.size, 0, none⟩) 3 3]), (nmS 8, .agg #[.func (.func (doF 8)) #[] #[], .slice (some ⟨U7.heap.size, 0, none⟩) 1 1])] := N8'
  have E8 : Below w.heap.size w U8 := D8.grown g8 (by omega) (fun k e => by cases e; omega)
  have B8_8 : Blk U8 U7.heap.size 9 (([nmS 7] : List ByteArray).map Value.string).toArray := blk_grown (by rw [← hV8]; exact Blk.new _ _ _) g8 (by omega)
  have B1_8 : Blk U8 U0.heap.size 9 (([nmS 0] : List ByteArray).map Value.string).toArray := blk_grown (by rw [← hV8]; exact B1_7.alloc _) g8 (by omega)
  have B2_8 : Blk U8 U1.heap.size 9 (([nmS 0] : List ByteArray).map Value.string).toArray := blk_grown (by rw [← hV8]; exact B2_7.alloc _) g8 (by omega)
  have B3_8 : Blk U8 U2.heap.size 9 (([nmS 0] : List ByteArray).map Value.string).toArray := blk_grown (by rw [← hV8]; exact B3_7.alloc _) g8 (by omega)
  have B4_8 : Blk U8 U3.heap.size 9 (([nmS 0] : List ByteArray).map Value.string).toArray := blk_grown (by rw [← hV8]; exact B4_7.alloc _) g8 (by omega)
  have B5_8 : Blk U8 U4.heap.size 9 (([nmS 1, nmS 4] : List ByteArray).map Value.string).toArray := blk_grown (by rw [← hV8]; exact B5_7.alloc _) g8 (by omega)
  have B6_8 : Blk U8 U5.heap.size 9 (([nmS 0] : List ByteArray).map Value.string).toArray := blk_grown (by rw [← hV8]; exact B6_7.alloc _) g8 (by omega)
  have B7_8 : Blk U8 U6.heap.size 9 (([nmS 1, nmS 2, nmS 3] : List ByteArray).map Value.string).toArray := blk_grown (by rw [← hV8]; exact B7_7.alloc _) g8 (by omega)
  rw [← hV8] at r8
  simp only [nmS, doF, List.map_cons, List.map_nil] at r8
  have HN := Lib.hid N8
  have HE := Lib.hid E8
  have HB1 := Lib.hid B1_8
  have HB2 := Lib.hid B2_8
  have HB3 := Lib.hid B3_8
  have HB4 := Lib.hid B4_8
  have HB5 := Lib.hid B5_8
  have HB6 := Lib.hid B6_8
  have HB7 := Lib.hid B7_8
  have HB8 := Lib.hid B8_8
  clear hV0 hz0 D0 M0 N0 N0' g0 s0 E0 hV1 hz1 D1 M1 N1 N1' g1 s1 E1 hV2 hz2 D2 M2 N2 N2' g2 s2 E2 hV3 hz3 D3 M3 N3 N3' g3 s3 E3 hV4 hz4 D4 M4 N4 N4' g4 s4 E4 hV5 hz5 D5 M5 N5 N5' g5 s5 E5 hV6 hz6 D6 M6 N6 N6' g6 s6 E6 hV7 hz7 D7 M7 N7 N7' g7 s7 E7 hV8 hz8 D8 M8 N8 N8' g8 s8 E8 B1_1 B1_2 B2_2 B1_3 B2_3 B3_3 B1_4 B2_4 B3_4 B4_4 B1_5 B2_5 B3_5 B4_5 B5_5 B1_6 B2_6 B3_6 B4_6 B5_6 B6_6 B1_7 B2_7 B3_7 B4_7 B5_7 B6_7 B7_7 B1_8 B2_8 B3_8 B4_8 B5_8 B6_8 B7_8 B8_8
  go_enter Tryz.func66, Tryz.ntmps66
  go_wp2
  go_ret
  have hnd : (([(nmS 0, .agg #[.func (.func (doF 0)) #[] #[], .slice none 0 0]), (nmS 1, .agg #[.func (.func (doF 1)) #[] #[], .slice (some ⟨U0.heap.size, 0, none⟩) 1 1]), (nmS 2, .agg #[.func (.func (doF 2)) #[] #[], .slice (some ⟨U1.heap.size, 0, none⟩) 1 1]), (nmS 3, .agg #[.func (.func (doF 3)) #[] #[], .slice (some ⟨U2.heap.size, 0, none⟩) 1 1]), (nmS 4, .agg #[.func (.func (doF 4)) #[] #[], .slice (some ⟨U3.heap.size, 0, none⟩) 1 1]), (nmS 5, .agg #[.func (.func (doF 5)) #[] #[], .slice (some ⟨U4.heap.size, 0, none⟩) 2 2]), (nmS 6, .agg #[.func (.func (doF 6)) #[] #[], .slice (some ⟨U5.heap.size, 0, none⟩) 1 1]), (nmS 7, .agg #[.func (.func (doF 7)) #[] #[], .slice (some ⟨U6.heap.size, 0, none⟩) 3 3]), (nmS 8, .agg #[.func (.func (doF 8)) #[] #[], .slice (some ⟨U7.heap.size, 0, none⟩) 1 1])] : List (ByteArray × Value)).map (·.1)).Nodup := nms_nodup
  refine ⟨⟨_, rfl, HN.out, hnd, fun i hi => ?_⟩, HE.out⟩
  have : i = 0 ∨ i = 1 ∨ i = 2 ∨ i = 3 ∨ i = 4 ∨ i = 5 ∨ i = 6 ∨ i = 7 ∨ i = 8 := by omega
  rcases this with rfl | rfl | rfl | rfl | rfl | rfl | rfl | rfl | rfl
  · exact ⟨none, 0, 0, getv_of_nodup hnd (p := (nmS 0, .agg #[.func (.func (doF 0)) #[] #[], .slice none 0 0])) (by simp), rfl, Rd.nil⟩
  · exact ⟨_, _, _, getv_of_nodup hnd (p := (nmS 1, .agg #[.func (.func (doF 1)) #[] #[], .slice (some ⟨U0.heap.size, 0, none⟩) 1 1])) (by simp), rfl, NmR.of_blk [nmS 0] HB1.out⟩
  · exact ⟨_, _, _, getv_of_nodup hnd (p := (nmS 2, .agg #[.func (.func (doF 2)) #[] #[], .slice (some ⟨U1.heap.size, 0, none⟩) 1 1])) (by simp), rfl, NmR.of_blk [nmS 0] HB2.out⟩
  · exact ⟨_, _, _, getv_of_nodup hnd (p := (nmS 3, .agg #[.func (.func (doF 3)) #[] #[], .slice (some ⟨U2.heap.size, 0, none⟩) 1 1])) (by simp), rfl, NmR.of_blk [nmS 0] HB3.out⟩
  · exact ⟨_, _, _, getv_of_nodup hnd (p := (nmS 4, .agg #[.func (.func (doF 4)) #[] #[], .slice (some ⟨U3.heap.size, 0, none⟩) 1 1])) (by simp), rfl, NmR.of_blk [nmS 0] HB4.out⟩
  · exact ⟨_, _, _, getv_of_nodup hnd (p := (nmS 5, .agg #[.func (.func (doF 5)) #[] #[], .slice (some ⟨U4.heap.size, 0, none⟩) 2 2])) (by simp), rfl, NmR.of_blk [nmS 1, nmS 4] HB5.out⟩
  · exact ⟨_, _, _, getv_of_nodup hnd (p := (nmS 6, .agg #[.func (.func (doF 6)) #[] #[], .slice (some ⟨U5.heap.size, 0, none⟩) 1 1])) (by simp), rfl, NmR.of_blk [nmS 0] HB6.out⟩
  · exact ⟨_, _, _, getv_of_nodup hnd (p := (nmS 7, .agg #[.func (.func (doF 7)) #[] #[], .slice (some ⟨U6.heap.size, 0, none⟩) 3 3])) (by simp), rfl, NmR.of_blk [nmS 1, nmS 2, nmS 3] HB7.out⟩
  · exact ⟨_, _, _, getv_of_nodup hnd (p := (nmS 8, .agg #[.func (.func (doF 8)) #[] #[], .slice (some ⟨U7.heap.size, 0, none⟩) 1 1])) (by simp), rfl, NmR.of_blk [nmS 7] HB8.out⟩
end Go.Proofs.YtpedlbjbbcbbkaaGreat
namespace Go.Proofs.YtpedlbjbbcbbkaaGreat
open Go.RowKit
open Go.Maps (Keyed)
@[reducible] def resV (f : Flt) : Value := .agg #[.int .i64 f.code, .int .i64 f.part, .int .i64 f.at_, .bool true]
/-- where a run stands: its configuration, its results -/
structure RnSt (W : World) (g m : Nat) (c : Cfg) (A1 A2 A3 A4 A5 : Option Addr) (c1 c2 c3 c4 c5 : Nat) (es : List (ByteArray × Flt)) : Prop where
  R : CfgR W W.heap.size c A1 A2 A3 A4 A5 c1 c2 c3 c4 c5
  x0 : W.cell? ⟨g, 0, none⟩ = some (.int .u64 c.frame)
  x1 : W.cell? ⟨g, 1, none⟩ = some (.slice A1 c.parts.length c1)
  x2 : W.cell? ⟨g, 2, none⟩ = some (.slice A2 c.wins.length c2)
  x3 : W.cell? ⟨g, 3, none⟩ = some (.slice A3 c.regs.length c3)
  x4 : W.cell? ⟨g, 4, none⟩ = some (.slice A4 c.ports.length c4)
  x5 : W.cell? ⟨g, 5, none⟩ = some (.slice A5 c.chans.length c5)
  x6 : W.cell? ⟨g, 6, none⟩ = some (.map (some m))
  lt : g < W.heap.size
  M : MapIs W Tryz.prog 9 kS resV m es
  nd : (es.map (·.1)).Nodup
  zf : ∀ p ∈ es, p.2.code = 0 → p.2 = noFlt
section
variable {W V : World} {g m : Nat} {c : Cfg} {A1 A2 A3 A4 A5 : Option Addr} {c1 c2 c3 c4 c5 : Nat} {es : List (ByteArray × Flt)}
theorem RnSt.keep (h : RnSt W g m c A1 A2 A3 A4 A5 c1 c2 c3 c4 c5 es) (hz : W.heap.size ≤ V.heap.size) (hk : ∀ b o, b < W.heap.size → V.cell? ⟨b, o, none⟩ = W.cell? ⟨b, o, none⟩) {es' : List (ByteArray × Flt)} (hM : MapIs V Tryz.prog 9 kS resV m es') (hn : (es'.map (·.1)).Nodup) (hzf : ∀ p ∈ es', p.2.code = 0 → p.2 = noFlt) : RnSt V g m c A1 A2 A3 A4 A5 c1 c2 c3 c4 c5 es' :=
  ⟨(h.R.keep hk).more hz, (hk _ _ h.lt).trans h.x0, (hk _ _ h.lt).trans h.x1, (hk _ _ h.lt).trans h.x2, (hk _ _ h.lt).trans h.x3, (hk _ _ h.lt).trans h.x4, (hk _ _ h.lt).trans h.x5, (hk _ _ h.lt).trans h.x6, Nat.lt_of_lt_of_le h.lt hz, hM, hn, hzf⟩
theorem RnSt.up (h : RnSt W g m c A1 A2 A3 A4 A5 c1 c2 c3 c4 c5 es) (hb : Below W.heap.size W V) : RnSt V g m c A1 A2 A3 A4 A5 c1 c2 c3 c4 c5 es :=
  h.keep hb.size (fun b o hl => hb.cell (p := ⟨b, o, none⟩) hl) (h.M.below hb h.M.lt) h.nd h.zf
/-- a map's block holds no cell -/
theorem MapIs.no_cell {α β : Type} {w : World} {P : Program} {K : TypeId} {key : α → Value} {val : β → Value} {b : Nat} {l : List (α × β)} (h : MapIs w P K key val b l) (o : Nat) : w.cell? ⟨b, o, none⟩ = none := by
  obtain ⟨en, clock, hh, _⟩ := h
  simp [World.cell?, hh]
theorem RnSt.put (h : RnSt W g m c A1 A2 A3 A4 A5 c1 c2 c3 c4 c5 es) (hg : W.grownBy V (some m)) {s : ByteArray} {f : Flt} (hM : MapIs V Tryz.prog 9 kS resV m (es ++ [(s, f)])) (hnew : getv es s = none) (hf : f.code = 0 → f = noFlt) : RnSt V g m c A1 A2 A3 A4 A5 c1 c2 c3 c4 c5 (es ++ [(s, f)]) := by
  refine h.keep hg.size (fun b o hl => ?_) hM ?_ ?_
  · by_cases hbm : b = m
    · subst hbm
      rw [hM.no_cell, h.M.no_cell]
    · exact World.cell?_of_block (a := ⟨b, o, none⟩) (hg.block b hl (fun e => hbm (by cases e; rfl)))
  · rw [List.map_append, List.nodup_append]
    refine ⟨h.nd, by simp, fun a ha b hb => ?_⟩
    simp at hb
    subst hb
    obtain ⟨p, hp, rfl⟩ := List.mem_map.1 ha
    exact getv_none.1 hnew p hp
  · intro p hp
    rcases List.mem_append.1 hp with hp | hp
    · exact h.zf p hp
    · simp at hp; subst hp; exact hf
end
/-- a result without a fault -/
def okE (es : List (ByteArray × Flt)) (s : ByteArray) : Bool := match getv es s with | some f => decide (f.code = 0) | none => false
theorem resZero (w : World) : (zeroValue 70).run Tryz.prog w = .ok (.agg #[.int .i64 0, .int .i64 0, .int .i64 0, .bool false]) w := by kernel_rfl
theorem look_none {W : World} {g m : Nat} {c : Cfg} {A1 A2 A3 A4 A5 : Option Addr} {c1 c2 c3 c4 c5 : Nat} {es : List (ByteArray × Flt)} (h : RnSt W g m c A1 A2 A3 A4 A5 c1 c2 c3 c4 c5 es) {s : ByteArray} (hs : s.size ≤ maxLen) (hn : getv es s = none) :
    (Instr.lookup 71 (.map (some m)) (.string s) false).run Tryz.prog W = .ok (.agg #[.int .i64 0, .int .i64 0, .int .i64 0, .bool false]) W := by
  obtain ⟨l, hl⟩ := keyS hs
  rcases h.M.look lawS Tryz.underlying71 (resZero W) kS_inj h.nd hl with ⟨_, h2⟩ | ⟨v, h1, _⟩
  · simpa using h2 false
  · rw [hn] at h1; cases h1
theorem look_some {W : World} {g m : Nat} {c : Cfg} {A1 A2 A3 A4 A5 : Option Addr} {c1 c2 c3 c4 c5 : Nat} {es : List (ByteArray × Flt)} (h : RnSt W g m c A1 A2 A3 A4 A5 c1 c2 c3 c4 c5 es) {s : ByteArray} {f : Flt} (hs : s.size ≤ maxLen) (hn : getv es s = some f) :
    (Instr.lookup 71 (.map (some m)) (.string s) false).run Tryz.prog W = .ok (resV f) W := by
  obtain ⟨l, hl⟩ := keyS hs
  rcases h.M.look lawS Tryz.underlying71 (resZero W) kS_inj h.nd hl with ⟨h1, _⟩ | ⟨v, h1, h2⟩
  · exact absurd (hn.symm.trans h1) (by simp)
  · obtain rfl : f = v := Option.some.inj (hn.symm.trans h1)
    simpa using h2 false
theorem getv_mem {es : List (ByteArray × Flt)} {s : ByteArray} {f : Flt} (h : getv es s = some f) : (s, f) ∈ es := by
  induction es with
  | nil => simp [getv] at h
  | cons p r ih =>
    obtain ⟨a, v⟩ := p
    unfold getv at h
    by_cases e : a = s
    · rw [if_pos e] at h; injection h with h; subst h; subst e; simp
    · rw [if_neg e] at h; simp [ih h]
theorem nm_max {i : Nat} : (nmS i).size ≤ maxLen := by
  have h : (nmS i).size ≤ 10 := by
    unfold nmS
    split <;> decide
  unfold maxLen
  omega
set_option maxRecDepth 100000 in
set_option maxHeartbeats 4000000 in
theorem clean_ok (c : Cfg) (A1 A2 A3 A4 A5 : Option Addr) (c1 c2 c3 c4 c5 : Nat) (g m : Nat) (es : List (ByteArray × Flt)) (ns : List ByteArray) (A : Option Addr) (cp : Nat) (w : World) (h : RnSt w g m c A1 A2 A3 A4 A5 c1 c2 c3 c4 c5 es) (hA : NmR w A ns) (hl : ns.length ≤ 9) (hmx : ∀ s ∈ ns, s.size ≤ maxLen) (v : Bool) (hv : Hid (ns.all (okE es) = v)) :
    Calls Tryz.prog 110 #[.pointer (some ⟨g, 0, none⟩), .slice A ns.length cp] w fun e w' => e = .returned (.bool v) ∧ Below w.heap.size w w' := by
  have HS := Lib.hid h
  have HA := Lib.hid hA
  have HMX := Lib.hid hmx
  clear h hA hmx
  go_enter Tryz.func110, Tryz.ntmps110
  go_wp2
  go_loopw [10] (fun i wr => ∃ k : Nat, k ≤ ns.length ∧ i = .int .i64 k ∧ Hid ((ns.take k).all (okE es) = true) ∧ Hid (RnSt wr g m c A1 A2 A3 A4 A5 c1 c2 c3 c4 c5 es) ∧ Hid (Below w.heap.size w wr)) (fun i _ => ns.length - (intOf i).toNat)
  case atStart => exact ⟨0, Nat.zero_le _, rfl, Lib.hid rfl, HS, Lib.hid (Below.refl _ _)⟩
  case round =>
    obtain ⟨k, hk, rfl, HK, ST, HB⟩ := hrel
    by_cases hlt : k < ns.length
    · obtain ⟨s, hs⟩ := get_lt hlt
      obtain ⟨bb, o, rfl, hbb, g0⟩ := nm_at (HA.out.up HB.out) hs
      have HTK := Lib.hid (take_next hs)
      have hsx := HMX.out s (List.mem_of_getElem? hs)
      have n0 : (0 : Int) ≤ (k : Int) := by omega
      have n1 : (k : Int) < (ns.length : Int) := by omega
      have x6 := ST.out.x6
      have hgl := ST.out.lt
      have HIN := Lib.hid (List.mem_of_getElem? hs)
      rcases hg : getv es s with _ | f
      · have HV := Lib.hid (show v = false by
          rw [← hv.out, List.all_eq_false]
          exact ⟨s, HIN.out, by unfold okE; rw [hg]; simp⟩)
        have hlk := look_none ST.out hsx hg
        have hal := below_one wr (.cells #[.int .i64 0, .int .i64 0, .int .i64 0, .bool false] 70)
        have HB2 := Lib.hid (Below.then_ HB.out hal)
        clear hs hsx hg hal
        go_wp2
        go_ret
        exact ⟨ret_bool HV.out.symm, HB2.out⟩
      · have hlk := look_some ST.out hsx hg
        have hal := below_one wr (.cells #[.int .i64 f.code, .int .i64 f.part, .int .i64 f.at_, .bool true] 70)
        have HB2 := Lib.hid (Below.then_ HB.out hal)
        have ST2 := Lib.hid (ST.out.up hal)
        by_cases hf : f.code = 0
        · have hno := ST.out.zf _ (getv_mem hg) hf
          simp only at hno
          have HOK := Lib.hid (show (ns.take (k + 1)).all (okE es) = true by
            rw [HTK.out, List.all_append, HK.out]
            unfold okE
            simp [hg, hf])
          subst hno
          clear hs hsx hg hal hf
          unfold noFlt at hlk ST2 HB2
          simp only [resV] at hlk
          go_wp2
          go_roundw
          case rel => exact ⟨k + 1, by omega, by go_num, HOK, ST2, HB2⟩
          case measure => simp [intOf]; omega
        · have HV := Lib.hid (show v = false by
            rw [← hv.out, List.all_eq_false]
            exact ⟨s, HIN.out, by unfold okE; rw [hg]; simp [hf]⟩)
          have hfb : (f.code == 0) = false := beq_eq_false_iff_ne.2 hf
          simp only [resV] at hlk
          clear hs hsx hg hal hf
          go_wp2
          go_ret
          exact ⟨ret_bool (by rw [HV.out]), HB2.out⟩
    · obtain rfl : k = ns.length := by omega
      have HV := Lib.hid (show true = v by rw [← hv.out]; have := HK.out; rwa [List.take_length, eq_comm] at this)
      go_wp2
      go_ret
      exact ⟨ret_bool HV.out, HB.out⟩
set_option maxRecDepth 100000 in
set_option maxHeartbeats 8000000 in
theorem perform_ok (c : Cfg) (A1 A2 A3 A4 A5 : Option Addr) (c1 c2 c3 c4 c5 : Nat) (hs : c.small) (hok : c.ok) (g m : Nat) (es : List (ByteArray × Flt)) (i : Nat) (hi : i < 9) (A : Option Addr) (cp B : Nat) (w : World) (h : RnSt w g m c A1 A2 A3 A4 A5 c1 c2 c3 c4 c5 es) (hA : NmR w A ((nds i).map nmS)) (hnew : getv es (nmS i) = none) (h5 : i = 5 → ((nds i).map nmS).all (okE es) = true → winBad c = (0, 0, 0)) (hBm : B ≤ m) (hBw : B ≤ w.heap.size) :
    Calls Tryz.prog 65 #[.pointer (some ⟨g, 0, none⟩), .string (nmS i), .agg #[.func (.func (doF i)) #[] #[], .slice A (nds i).length cp]] w
      fun e w' => e = .returned (.tuple #[]) ∧ RnSt w' g m c A1 A2 A3 A4 A5 c1 c2 c3 c4 c5 (if ((nds i).map nmS).all (okE es) then es ++ [(nmS i, valF c i)] else es) ∧ Below B w w' ∧ (∀ b, b < w.heap.size → b ≠ m → w'.heap[b]? = w.heap[b]?) ∧ w.heap.size ≤ w'.heap.size := by
  have hbx := Blk.new w 129 #[.func (.func (doF i)) #[] #[], .slice A (nds i).length cp]
  have hb1 := below_one w (.cells #[.func (.func (doF i)) #[] #[], .slice A (nds i).length cp] 129)
  obtain ⟨W1, hW1⟩ : ∃ W1, w.alloc (.cells #[.func (.func (doF i)) #[] #[], .slice A (nds i).length cp] 129) = W1 := ⟨_, rfl⟩
  rw [hW1] at hbx hb1
  have HW1 := Lib.hid hW1
  have HS1 := Lib.hid (h.up hb1)
  have HA1 := Lib.hid (hA.up hb1)
  have HB1 := Lib.hid (hb1.mono hBw)
  have HBW := Lib.hid hb1
  have HBX := Lib.hid hbx
  have b0 := hbx.cell 0
  have b1 := hbx.cell 1
  have bl := hbx.lt
  simp at b0 b1
  have hlen : ((nds i).map nmS).length = (nds i).length := List.length_map _
  have hl9 : ((nds i).map nmS).length ≤ 9 := by
    have : i = 0 ∨ i = 1 ∨ i = 2 ∨ i = 3 ∨ i = 4 ∨ i = 5 ∨ i = 6 ∨ i = 7 ∨ i = 8 := by omega
    rcases this with rfl | rfl | rfl | rfl | rfl | rfl | rfl | rfl | rfl <;> decide
  obtain ⟨v, hv⟩ : ∃ v, ((nds i).map nmS).all (okE es) = v := ⟨_, rfl⟩
  have HV := Lib.hid hv
  have H5 := Lib.hid (fun q : i = 5 => fun z : v = true => h5 q (hv.trans z))
  have hcl := clean_ok c A1 A2 A3 A4 A5 c1 c2 c3 c4 c5 g m es _ A cp W1 HS1.out HA1.out hl9 (fun s hs => by obtain ⟨n, _, rfl⟩ := List.mem_map.1 hs; exact nm_max) v HV
  rw [hlen] at hcl
  have HCL := Lib.hid hcl
  have HNEW := Lib.hid hnew
  have hbbe : w.heap.size < W1.heap.size := bl
  rw [hv]
  clear h hA hW1 hb1 hbx hlen hl9 hv h5 hcl hnew hbbe
  go_enter Tryz.func65, Tryz.ntmps65
  go_upto_region 1 with (fail)
  rw [HW1.out]
  generalize w.heap.size = bx at HBX b0 b1 bl hBw ⊢
  go_wp2_with fail
  refine HCL.out.mono ?_
  rintro e w2 ⟨rfl, hb2⟩
  have HS2 := Lib.hid (HS1.out.up hb2)
  have HBX2 := Lib.hid (HBX.out.below hb2 HBX.out.lt)
  have hBW1 : B ≤ W1.heap.size := Nat.le_trans hBw (Nat.le_of_lt bl)
  have HB2 := Lib.hid (HB1.out.trans (hb2.mono hBW1))
  have HBV := Lib.hid (Below.then_ HBW.out hb2)
  have hB2 : B ≤ w2.heap.size := Nat.le_trans hBW1 hb2.size
  clear hb2 b0 b1 bl
  cases v
  · go_wp2
    go_end0
    exact ⟨rfl, HS2.out, HB2.out, fun b hb _ => HBV.out.block b hb, HBV.out.size⟩
  · have hent := doF_ent i hi
    have KEEP : ∀ U, Below w2.heap.size w2 U → (U.cell? ⟨g, 0, none⟩ = some (.int .u64 c.frame) ∧ U.cell? ⟨g, 1, none⟩ = some (.slice A1 c.parts.length c1) ∧ U.cell? ⟨g, 2, none⟩ = some (.slice A2 c.wins.length c2) ∧ U.cell? ⟨g, 3, none⟩ = some (.slice A3 c.regs.length c3) ∧ U.cell? ⟨g, 4, none⟩ = some (.slice A4 c.ports.length c4) ∧ U.cell? ⟨g, 5, none⟩ = some (.slice A5 c.chans.length c5) ∧ U.cell? ⟨g, 6, none⟩ = some (.map (some m)) ∧ g < U.heap.size ∧ U.cell? ⟨bx, 0, none⟩ = some (.func (.func (doF i)) #[] #[])) := fun U hU => by
      have st := HS2.out.up hU
      have bk := HBX2.out.below hU HBX2.out.lt
      have q := bk.cell 0
      simp at q
      exact ⟨st.x0, st.x1, st.x2, st.x3, st.x4, st.x5, st.x6, st.lt, q⟩
    have HKP := Lib.hid KEEP
    clear KEEP
    go_upto_region 2 with (fail)
    refine wp_region_C 10 13 _ rfl rfl (by kernel_rfl) (by kernel_rfl) (by kernel_rfl) (by kernel_rfl) (by kernel_rfl) (Nat.le_of_ble_eq_true (by kernel_rfl))
      [.pointer (some ⟨g, 0, none⟩), .pointer (some ⟨g, 0, none⟩), .pointer (some ⟨g, 6, none⟩), .map (some m), .string (nmS i), .pointer (some ⟨bx, 0, none⟩), .func (.func (doF i)) #[] #[], .pointer (some ⟨g, 0, none⟩), .pointer (some ⟨g, 0, none⟩), .pointer (some ⟨g, 0, none⟩), cfgV c.frame A1 A2 A3 A4 A5 c.parts.length c.wins.length c.regs.length c.ports.length c.chans.length c1 c2 c3 c4 c5, fltV (valF c i), resV (valF c i)]
      (fun _ => false) (fun _ _ _ => True) (fun U => Below w2.heap.size w2 U)
      ((Below.refl _ _).drew) (fun U V hU hb => Below.then_ hU hb) (fun _ v U V _ hv hb => trivial) ?hop ?hend
    case hop =>
      intro n o ho hn U hE ρ r0 rf r1 r2
      obtain ⟨x0, x1, x2, x3, x4, x5, x6, gl, y0⟩ := HKP.out U hE
      match n, ho with
      | 0, ho =>
        cases ho
        have q0 := r1 0 (by decide)
        refine RunsTo.val _ (V := U) ?_ ⟨Below.refl _ _, SC.ofV rfl⟩
        simp only [execOp]
        go_simp
      | 1, ho =>
        cases ho
        have q10 : ρ (.tmp (10 + 0)) = _ := (r2 { on := 0, ground := .data } (by simp) rfl).val rfl
        refine RunsTo.val _ (V := U) ?_ ⟨Below.refl _ _, SC.ofV rfl⟩
        simp only [execOp]
        go_simp
      | 2, ho =>
        cases ho
        have q11 : ρ (.tmp (10 + 1)) = _ := (r2 { on := 1, ground := .data } (by simp) rfl).val rfl
        refine RunsTo.val _ (V := U) ?_ ⟨Below.refl _ _, SC.ofV rfl⟩
        simp only [execOp]
        go_simp
      | 3, ho =>
        cases ho
        have q12 : ρ (.tmp (10 + 2)) = _ := (r2 { on := 2, ground := .data } (by simp) rfl).val rfl
        refine RunsTo.val _ (V := U) ?_ ⟨Below.refl _ _, SC.ofV rfl⟩
        simp only [execOp]
        go_simp
      | 4, ho =>
        cases ho
        have q1 := r1 1 (by decide)
        refine RunsTo.val _ (V := U) ?_ ⟨Below.refl _ _, SC.ofV rfl⟩
        simp only [execOp]
        go_simp
      | 5, ho =>
        cases ho
        have q5 := r1 5 (by decide)
        refine RunsTo.val _ (V := U) ?_ ⟨Below.refl _ _, SC.ofV rfl⟩
        simp only [execOp]
        go_simp
      | 6, ho =>
        cases ho
        have q15 : ρ (.tmp (10 + 5)) = _ := (r2 { on := 5, ground := .data } (by simp) rfl).val rfl
        refine RunsTo.val _ (V := U) ?_ ⟨Below.refl _ _, SC.ofV rfl⟩
        simp only [execOp]
        go_simp
      | 7, ho =>
        cases ho
        have q0 := r1 0 (by decide)
        refine RunsTo.val _ (V := U) ?_ ⟨Below.refl _ _, SC.ofV rfl⟩
        simp only [execOp]
        go_simp
      | 8, ho =>
        cases ho
        have q17 : ρ (.tmp (10 + 7)) = _ := (r2 { on := 7, ground := .data } (by simp) rfl).val rfl
        refine RunsTo.val _ (V := U) ?_ ⟨Below.refl _ _, SC.ofV rfl⟩
        simp only [execOp]
        go_simp
      | 9, ho =>
        cases ho
        have q18 : ρ (.tmp (10 + 8)) = _ := (r2 { on := 8, ground := .data } (by simp) rfl).val rfl
        refine RunsTo.val _ (V := U) ?_ ⟨Below.refl _ _, SC.ofV rfl⟩
        simp only [execOp]
        go_simp
      | 10, ho =>
        cases ho
        have q19 : ρ (.tmp (10 + 9)) = _ := (r2 { on := 9, ground := .data } (by simp) rfl).val rfl
        refine RunsTo.val _ (V := U) ?_ ⟨Below.refl _ _, SC.ofV rfl⟩
        simp only [execOp]
        go_simp
      | 11, ho =>
        cases ho
        have q16 : ρ (.tmp (10 + 6)) = _ := (r2 { on := 6, ground := .data } (by simp) rfl).val rfl
        have q20 : ρ (.tmp (10 + 10)) = _ := (r2 { on := 10, ground := .data } (by simp) rfl).val rfl
        refine RunsTo.call (V := U) (doF i) #[cfgV c.frame A1 A2 A3 A4 A5 c.parts.length c.wins.length c.regs.length c.ports.length c.chans.length c1 c2 c3 c4 c5] ?_ ?_
        · simp only [execOp]
          go_simp
        · refine (doF_ok c A1 A2 A3 A4 A5 c1 c2 c3 c4 c5 U (HS2.out.up hE).R hs hok i hi (fun q => H5.out q (by first | rfl | trivial))).mono ?_
          rintro e V ⟨rfl, hb⟩
          exact ⟨_, rfl, hb, SC.ofV rfl⟩
      | 12, ho =>
        cases ho
        have q21 : ρ (.tmp (10 + 11)) = _ := (r2 { on := 11, ground := .data } (by simp) rfl).val rfl
        refine RunsTo.val _ (V := U) ?_ ⟨Below.refl _ _, SC.ofV rfl⟩
        simp only [execOp]
        go_simp
      | k + 13, ho => omega
    case hend =>
      intro u U hE hS ρ hρ r0 rf r1 r2 Kk hK
      have q13 : ρ (.tmp 13) = _ := (r2 3 (by decide)).trans ((hS 3 (by decide)).val rfl)
      have q14 : ρ (.tmp 14) = _ := (r2 4 (by decide)).trans ((hS 4 (by decide)).val rfl)
      have q22 : ρ (.tmp 22) = _ := (r2 12 (by decide)).trans ((hS 12 (by decide)).val rfl)
      have hst := HS2.out.up hE
      obtain ⟨l, hl⟩ := keyS (nm_max (i := i))
      obtain ⟨V, hrun, hM, hg, hsz⟩ := hst.M.put lawS Tryz.underlying71 (x := nmS i) hl kS_inj HNEW.out (valF c i)
      have hfin := hst.put hg hM HNEW.out valF_zero
      have HFIN := Lib.hid hfin
      have HBF := Lib.hid (show Below B w V from (HB2.out.trans (hE.mono hB2)).grown hg (Nat.le_trans hB2 hE.size) (fun k e => by cases e; exact hBm))
      have hbu := Below.then_ HBV.out hE
      have HOLD := Lib.hid (show ∀ b, b < w.heap.size → b ≠ m → V.heap[b]? = w.heap[b]? from fun b hb hne => (hg.block b (Nat.lt_of_lt_of_le hb hbu.size) (fun e => hne (by cases e; rfl))).trans (hbu.block b hb))
      have HSZ := Lib.hid (show w.heap.size ≤ V.heap.size from Nat.le_trans hbu.size hg.size)
      clear hst hl hM hg hsz hfin hbu
      refine wp_skip (w' := V) ?_ (hK _ _ ?_)
      · rw [← hρ]
        clear hρ r0 rf r1 r2
        simp only [execOp]
        go_simp
      · clear hρ r0 rf r1 r2 q13 q14 q22 hS hrun
        go_end0
        exact ⟨rfl, HFIN.out, HBF.out, HOLD.out, HSZ.out⟩
end Go.Proofs.YtpedlbjbbcbbkaaGreat
namespace Go.Proofs.YtpedlbjbbcbbkaaGreat
open Go.RowKit
open Go.Maps (Keyed)
/-- the results of the first k checks -/
def esN (c : Cfg) (k : Nat) : List (ByteArray × Flt) := ((List.range k).filter (perfC c)).map fun j => (nmS j, valF c j)
theorem esN_next (c : Cfg) (k : Nat) : esN c (k + 1) = if perfC c k then esN c k ++ [(nmS k, valF c k)] else esN c k := by
  unfold esN
  rw [List.range_succ, List.filter_append, List.map_append]
  by_cases h : perfC c k = true
  · simp [h]
  · simp [h]
theorem esN_keys (c : Cfg) {k : Nat} (hk : k ≤ 9) : ((esN c k).map (·.1)).Nodup := by
  unfold esN
  rw [List.map_map]
  unfold List.Nodup
  rw [List.pairwise_map]
  refine List.Pairwise.imp_of_mem ?_ (List.Pairwise.sublist List.filter_sublist (List.nodup_range (n := k)))
  intro a b ha hb hne h
  refine hne ?_
  have h1 := List.mem_range.1 (List.mem_filter.1 ha).1
  have h2 := List.mem_range.1 (List.mem_filter.1 hb).1
  exact nmS_inj (by omega) (by omega) h
theorem esN_some {c : Cfg} {k j : Nat} (hk : k ≤ 9) (hj : j < k) (hp : perfC c j = true) : getv (esN c k) (nmS j) = some (valF c j) := by
  refine getv_of_nodup (esN_keys c hk) (p := (nmS j, valF c j)) ?_
  unfold esN
  exact List.mem_map.2 ⟨j, List.mem_filter.2 ⟨List.mem_range.2 hj, hp⟩, rfl⟩
theorem esN_none {c : Cfg} {k j : Nat} (hk : k ≤ 9) (hj : j < 9) (hp : k ≤ j ∨ perfC c j = false) : getv (esN c k) (nmS j) = none := by
  rw [getv_none]
  intro p hpm he
  unfold esN at hpm
  obtain ⟨i, hi, rfl⟩ := List.mem_map.1 hpm
  obtain ⟨h1, h2⟩ := List.mem_filter.1 hi
  have h3 := List.mem_range.1 h1
  have := nmS_inj (by omega) hj he
  subst this
  rcases hp with hp | hp
  · omega
  · rw [hp] at h2; cases h2
theorem esN_ok {c : Cfg} {k n : Nat} (hk : k ≤ 9) (hn : n < k) : okE (esN c k) (nmS n) = okN c n := by
  unfold okE okN
  by_cases h : perfC c n = true
  · rw [esN_some hk hn h, h]
    simp [zB]
  · have h' : perfC c n = false := by simpa using h
    rw [esN_none hk (by omega) (.inr h'), h']
    rfl
theorem esN_perf {c : Cfg} {k : Nat} (hk : k < 9) : ((nds k).map nmS).all (okE (esN c k)) = perfC c k := by
  rw [perf_step c hk, List.all_map]
  rw [Bool.eq_iff_iff, List.all_eq_true, List.all_eq_true]
  constructor
  · intro h n hn
    have := h n hn
    simp only [Function.comp] at this
    rwa [esN_ok (by omega) (nds_lt hk hn)] at this
  · intro h n hn
    simp only [Function.comp]
    rw [esN_ok (by omega) (nds_lt hk hn)]
    exact h n hn
theorem chkZero (w : World) : (zeroValue 129).run Tryz.prog w = .ok (.agg #[.nilFunc, .slice none 0 0]) w := by kernel_rfl
theorem chk_look {W : World} {m : Nat} {es : List (ByteArray × Value)} (h : ChkM W m es) {i : Nat} (hi : i < 9) : ∃ A cp, (Instr.lookup 126 (.map (some m)) (.string (nmS i)) false).run Tryz.prog W = .ok (.agg #[.func (.func (doF i)) #[] #[], .slice A (nds i).length cp]) W ∧ NmR W A ((nds i).map nmS) := by
  obtain ⟨hM, hnd, hg⟩ := h
  obtain ⟨A, n, cp, h1, rfl, h2⟩ := hg i hi
  obtain ⟨l, hl⟩ := keyS (nm_max (i := i))
  rcases hM.look lawS Tryz.underlying126 (chkZero W) kS_inj hnd hl with ⟨h3, _⟩ | ⟨v, h3, h4⟩
  · exact absurd (h1.symm.trans h3) (by simp)
  · obtain rfl := Option.some.inj (h1.symm.trans h3)
    exact ⟨A, cp, by simpa using h4 false, h2⟩
theorem ChkM.up {W V : World} {m : Nat} {es : List (ByteArray × Value)} (h : ChkM W m es) (hb : Below W.heap.size W V) : ChkM V m es :=
  ⟨h.1.below hb h.1.lt, h.2.1, fun i hi => by obtain ⟨A, n, cp, h1, h2, h3⟩ := h.2.2 i hi; exact ⟨A, n, cp, h1, h2, h3.up hb⟩⟩
theorem NmR.keepM {W V : World} {A : Option Addr} {ns : List ByteArray} {m : Nat} {es : List (ByteArray × Flt)} (h : NmR W A ns) (hM : MapIs W Tryz.prog 9 kS resV m es) (hk : ∀ b, b < W.heap.size → b ≠ m → V.heap[b]? = W.heap[b]?) (hz : W.heap.size ≤ V.heap.size) : NmR V A ns := by
  refine ⟨h.1, fun hn => ?_⟩
  obtain ⟨b, o, e, hb, hc⟩ := h.2 hn
  refine ⟨b, o, e, Nat.lt_of_lt_of_le hb hz, fun j u hu => ?_⟩
  have hcj := hc j u hu
  exact (World.cell?_of_block (a := ⟨b, o + j, none⟩) (hk b hb (hM.ne hcj))).trans hcj
theorem ChkM.keepM {W V : World} {mc m : Nat} {ces : List (ByteArray × Value)} {es : List (ByteArray × Flt)} (h : ChkM W mc ces) (hM : MapIs W Tryz.prog 9 kS resV m es) (hne : mc ≠ m) (hk : ∀ b, b < W.heap.size → b ≠ m → V.heap[b]? = W.heap[b]?) (hz : W.heap.size ≤ V.heap.size) : ChkM V mc ces :=
  ⟨h.1.block (hk _ h.1.lt hne), h.2.1, fun i hi => by obtain ⟨A, n, cp, h1, h2, h3⟩ := h.2.2 i hi; exact ⟨A, n, cp, h1, h2, h3.keepM hM hk hz⟩⟩
/-- a map of checks, rows of names: apart from the results -/
structure AllSt (w W : World) (g m mc : Nat) (A : Option Addr) (ces : List (ByteArray × Value)) (c : Cfg) (A1 A2 A3 A4 A5 : Option Addr) (c1 c2 c3 c4 c5 : Nat) (k : Nat) : Prop where
  R : RnSt W g m c A1 A2 A3 A4 A5 c1 c2 c3 c4 c5 (esN c k)
  C : ChkM W mc ces
  N : NmR W A nms
  hm : w.heap.size ≤ m
  hne : mc ≠ m
  bel : Below w.heap.size w W
set_option maxRecDepth 100000 in
set_option maxHeartbeats 4000000 in
theorem vall_ok (c : Cfg) (A1 A2 A3 A4 A5 : Option Addr) (c1 c2 c3 c4 c5 : Nat) (w : World) (hR : CfgR w w.heap.size c A1 A2 A3 A4 A5 c1 c2 c3 c4 c5) (hs : c.small) (hok : c.ok) : Calls Tryz.prog 34 #[cfgV c.frame A1 A2 A3 A4 A5 c.parts.length c.wins.length c.regs.length c.ports.length c.chans.length c1 c2 c3 c4 c5] w fun e w' => ∃ g m, e = .returned (.pointer (some ⟨g, 0, none⟩)) ∧ RnSt w' g m c A1 A2 A3 A4 A5 c1 c2 c3 c4 c5 (esN c 9) ∧ Below w.heap.size w w' := by
  have hmm := @run_makeMap Tryz.prog
  obtain ⟨W0, hW, st⟩ := St.start_any hR 29
  have HW := Lib.hid hW
  obtain ⟨W1, hW1⟩ : ∃ W1, W0.alloc (.map #[] 0) = W1 := ⟨_, rfl⟩
  have hb1 : Below W0.heap.size W0 W1 := by rw [← hW1]; exact below_one _ _
  have hM1 : MapIs W1 Tryz.prog 9 kS resV W0.heap.size ([] : List (ByteArray × Flt)) := by rw [← hW1]; exact MapIs.made _ _ _ _ _
  have HW1 := Lib.hid hW1
  obtain ⟨W2, hW2⟩ : ∃ W2, W1.alloc (.cells #[.int .u64 c.frame, .slice A1 c.parts.length c1, .slice A2 c.wins.length c2, .slice A3 c.regs.length c3, .slice A4 c.ports.length c4, .slice A5 c.chans.length c5, .map (some W0.heap.size)] 73) = W2 := ⟨_, rfl⟩
  have hb2 : Below W1.heap.size W1 W2 := by rw [← hW2]; exact below_one _ _
  have hbk : Blk W2 W1.heap.size 73 #[.int .u64 c.frame, .slice A1 c.parts.length c1, .slice A2 c.wins.length c2, .slice A3 c.regs.length c3, .slice A4 c.ports.length c4, .slice A5 c.chans.length c5, .map (some W0.heap.size)] := by rw [← hW2]; exact Blk.new _ _ _
  have e1 : W1.heap.size = W0.heap.size + 1 := by rw [← hW1]; simp
  rw [e1] at hbk
  have HW2 := Lib.hid hW2
  have hst2 := (st.up hb1).up hb2
  have hrn : RnSt W2 (W0.heap.size + 1) W0.heap.size c A1 A2 A3 A4 A5 c1 c2 c3 c4 c5 (esN c 0) :=
    ⟨hst2.R, by simpa using hbk.cell 0, by simpa using hbk.cell 1, by simpa using hbk.cell 2, by simpa using hbk.cell 3, by simpa using hbk.cell 4, by simpa using hbk.cell 5, by simpa using hbk.cell 6, hbk.lt, hM1.below hb2 hM1.lt, by simp [esN], by simp [esN]⟩
  have HRN := Lib.hid hrn
  have HBE := Lib.hid hst2.bel
  have HGM := Lib.hid (show w.heap.size ≤ W0.heap.size from st.bel.size)
  have hent : ∀ a w, (callFunc 65 a).run Tryz.prog w = .ok (.enter 65 a) w := enters_of Tryz.func65 (by kernel_rfl) rfl
  obtain ⟨x0, x1, x2, x3, x4, x5, hz⟩ := st.cells
  clear e1 hR hW hW1 hW2 hb1 hb2 hbk hst2 hrn hM1 st
  go_enter Tryz.func34, Tryz.ntmps34
  go_upto_region 1 with (fail)
  rw [HW.out]
  go_upto_region 2 with (fail)
  rw [HW1.out, HW2.out]
  clear x0 x1 x2 x3 x4 x5 hz
  generalize W0.heap.size + 1 = g at HRN ⊢
  generalize W0.heap.size = m at HRN HGM ⊢
  go_wp2_with fail
  refine (checks_ok W2).mono ?_
  rintro e w3 ⟨⟨ces, rfl, hC⟩, hb3⟩
  have HNE := Lib.hid (show W2.heap.size ≠ m by have := HRN.out.M.lt; omega)
  have HC3 := Lib.hid hC
  have HRN3 := Lib.hid (HRN.out.up hb3)
  have HB3 := Lib.hid (HBE.out.trans (hb3.mono HBE.out.size))
  clear hC hb3
  go_wp2_with fail
  refine (order_ok w3).mono ?_
  rintro e w4 ⟨⟨A, rfl, hN⟩, hb4⟩
  have HA4 := Lib.hid (show AllSt w w4 g m W2.heap.size A ces c A1 A2 A3 A4 A5 c1 c2 c3 c4 c5 0 from ⟨HRN3.out.up hb4, HC3.out.up hb4, hN, HGM.out, HNE.out, HB3.out.trans (hb4.mono HB3.out.size)⟩)
  clear hN hb4
  generalize W2.heap.size = mc at HA4 ⊢
  go_wp2
  go_loopw [17] (fun i wr => ∃ k : Nat, k ≤ 9 ∧ i = .int .i64 k ∧ Hid (AllSt w wr g m mc A ces c A1 A2 A3 A4 A5 c1 c2 c3 c4 c5 k)) (fun i _ => 9 - (intOf i).toNat)
  case atStart => exact ⟨0, Nat.zero_le _, rfl, HA4⟩
  case round =>
    obtain ⟨k, hk, rfl, HA⟩ := hrel
    by_cases hlt : k < 9
    · obtain ⟨bb, o, rfl, hbb, g0⟩ := nm_at HA.out.N (k := k) (s := nmS k) (by unfold nms; simp [hlt])
      obtain ⟨NA, ncp, hlk, hNN⟩ := chk_look HA.out.C hlt
      have HNN := Lib.hid hNN
      have n0 : (0 : Int) ≤ (k : Int) := by omega
      have n1 : (k : Int) < 9 := by omega
      clear hNN hbb
      go_wp2_with fail
      refine (perform_ok c A1 A2 A3 A4 A5 c1 c2 c3 c4 c5 hs hok g m (esN c k) k hlt NA ncp w.heap.size wr HA.out.R HNN.out (esN_none hk hlt (.inl (Nat.le_refl _))) (fun q z => by subst q; rw [esN_perf hlt] at z; exact perf_win z) HA.out.hm HA.out.bel.size).mono ?_
      rintro e w5 ⟨rfl, hr5, hb5, hk5, hz5⟩
      rw [esN_perf hlt, ← esN_next] at hr5
      have HA5 := Lib.hid (show AllSt w w5 g m mc (some ⟨bb, o, none⟩) ces c A1 A2 A3 A4 A5 c1 c2 c3 c4 c5 (k + 1) from ⟨hr5, HA.out.C.keepM HA.out.R.M HA.out.hne hk5 hz5, HA.out.N.keepM HA.out.R.M hk5 hz5, HA.out.hm, HA.out.hne, HA.out.bel.trans hb5⟩)
      clear hr5 hb5 hk5 hz5 hlk g0
      go_wp2
      go_roundw
      case rel => exact ⟨k + 1, by omega, by go_num, HA5⟩
      case measure => simp [intOf]; omega
    · obtain rfl : k = 9 := by omega
      go_wp2
      go_ret
      exact ⟨g, m, rfl, HA.out.R, HA.out.bel⟩
end Go.Proofs.YtpedlbjbbcbbkaaGreat
namespace Go.Proofs.YtpedlbjbbcbbkaaGreat
open Go.RowKit
def FltC (f : Flt) : List Value := [.int .i64 f.code, .int .i64 f.part, .int .i64 f.at_]
theorem infoFlt : (Tryz.prog.info? 37).map (fun i => (i.zero, i.size, i.bytes)) = some (some (.agg #[.int .i64 0, .int .i64 0, .int .i64 0]), 3, 24) := by kernel_rfl
theorem oneFlt (l : List Flt) : ∀ u ∈ l.flatMap FltC, u.oneCell' = true := by
  intro u hu
  obtain ⟨x, _, hx⟩ := List.mem_flatMap.1 hu
  simp [FltC] at hx
  rcases hx with rfl | rfl | rfl <;> rfl
/-- the faults of the first k checks -/
def fltsK (c : Cfg) (k : Nat) : List Flt := ((List.range k).map (resF c)).filter fun f => !decide (f.code = 0)
theorem fltsK_next (c : Cfg) (k : Nat) : fltsK c (k + 1) = if (resF c k).code = 0 then fltsK c k else fltsK c k ++ [resF c k] := by
  unfold fltsK
  rw [List.range_succ, List.map_append, List.filter_append]
  by_cases h : (resF c k).code = 0 <;> simp [h]
theorem fltsK_len (c : Cfg) (k : Nat) : (fltsK c k).length ≤ k := by
  unfold fltsK
  have := List.length_filter_le (fun f : Flt => !decide (f.code = 0)) ((List.range k).map (resF c))
  simpa using this
theorem new_flt (w : World) (f : Flt) (t : TypeId) : Rd (w.alloc (.cells f.cells t)) (w.heap.size + 1) 3 (some ⟨w.heap.size, 0, none⟩) 1 (FltC f) := by
  refine ⟨rfl, fun _ => ⟨_, _, rfl, Nat.lt_succ_self _, fun j u hu => ?_⟩⟩
  have := World.news_of_block (heap_alloc_new w (.cells f.cells t)) j u (by simpa [FltC] using hu)
  rwa [addr_add] at this
theorem field_res (a b d : Int) (q : Bool) (w : World) : (Instr.field 70 (.agg #[.int .i64 a, .int .i64 b, .int .i64 d, .bool q]) 0).run Tryz.prog w = .ok (.agg #[.int .i64 a, .int .i64 b, .int .i64 d]) w := by kernel_rfl
/-- a result, performed or not -/
theorem look_res {W : World} {g m : Nat} {c : Cfg} {A1 A2 A3 A4 A5 : Option Addr} {c1 c2 c3 c4 c5 : Nat} (h : RnSt W g m c A1 A2 A3 A4 A5 c1 c2 c3 c4 c5 (esN c 9)) {k : Nat} (hk : k < 9) (f : Flt) (hf : resF c k = f) (q : Bool) (hq : perfC c k = q) :
    (Instr.lookup 71 (.map (some m)) (.string (nmS k)) false).run Tryz.prog W = .ok (.agg #[.int .i64 f.code, .int .i64 f.part, .int .i64 f.at_, .bool q]) W := by
  subst hf hq
  unfold resF
  by_cases hp : perfC c k = true
  · rw [if_pos hp, hp]
    exact look_some h nm_max (esN_some (Nat.le_refl _) hk hp)
  · have hp' : perfC c k = false := by simpa using hp
    rw [if_neg hp, hp']
    exact look_none h nm_max (esN_none (Nat.le_refl _) hk (.inr hp'))
set_option maxRecDepth 100000 in
set_option maxHeartbeats 4000000 in
theorem vAll_ok (c : Cfg) (A1 A2 A3 A4 A5 : Option Addr) (c1 c2 c3 c4 c5 : Nat) (w : World) (hR : CfgR w w.heap.size c A1 A2 A3 A4 A5 c1 c2 c3 c4 c5) (hs : c.small) (hok : c.ok) : Calls Tryz.prog 13 #[cfgV c.frame A1 A2 A3 A4 A5 c.parts.length c.wins.length c.regs.length c.ports.length c.chans.length c1 c2 c3 c4 c5] w fun e w' => ∃ v, e = .returned v ∧ w'.ownsRow w.heap.size 37 3 v (fltsOf c).length ((fltsOf c).flatMap FltC) ∧ Below w.heap.size w w' := by
  obtain ⟨i0, hi, hz0, hz1, hz2⟩ := info_parts infoFlt
  obtain ⟨W0, hW, st⟩ := St.start_any hR 29
  have HW := Lib.hid hW
  have HST := Lib.hid st
  obtain ⟨x0, x1, x2, x3, x4, x5, hz⟩ := st.cells
  clear hR hW st
  go_enter Tryz.func13, Tryz.ntmps13
  go_upto_region 1 with (fail)
  rw [HW.out]
  go_wp2_with fail
  refine (vall_ok c _ _ _ _ _ _ _ _ _ _ _ HST.out.R hs hok).mono ?_
  rintro e w3 ⟨g, m, rfl, hr, hb3⟩
  have HR3 := Lib.hid hr
  have HB3 := Lib.hid (HST.out.bel.trans (hb3.mono HST.out.bel.size))
  clear hr hb3 x0 x1 x2 x3 x4 x5 hz
  go_wp2_with fail
  refine (order_ok w3).mono ?_
  rintro e w4 ⟨⟨A, rfl, hN⟩, hb4⟩
  have HR4 := Lib.hid (HR3.out.up hb4)
  have HN4 := Lib.hid hN
  have HB4 := Lib.hid (HB3.out.trans (hb4.mono HB3.out.size))
  clear hN hb4
  go_wp2
  go_loopw [3, 12] (fun v i wr => ∃ k : Nat, k ≤ 9 ∧ i = .int .i64 k ∧ Hid (wr.ownsRow w4.heap.size 37 3 v (fltsK c k).length ((fltsK c k).flatMap FltC)) ∧ Hid (Below w4.heap.size w4 wr)) (fun _ i _ => 9 - (intOf i).toNat)
  case atStart => exact ⟨0, Nat.zero_le _, rfl, Lib.hid (World.ownsRow_nil _ _ _ _), Lib.hid (Below.refl _ _)⟩
  case round =>
    obtain ⟨k, hk, rfl, HO, HBk⟩ := hrel
    by_cases hlt : k < 9
    · obtain ⟨bb, o, rfl, hbb, g0⟩ := nm_at (HN4.out.up HBk.out) (k := k) (s := nmS k) (by unfold nms; simp [hlt])
      obtain ⟨f, hf⟩ : ∃ f, resF c k = f := ⟨_, rfl⟩
      obtain ⟨q, hq⟩ : ∃ q, perfC c k = q := ⟨_, rfl⟩
      have hrk := HR4.out.up HBk.out
      have hlk := look_res hrk hlt f hf q hq
      have hfd := field_res f.code f.part f.at_ q
      have x6 := hrk.x6
      have hgl := hrk.lt
      have n0 : (0 : Int) ≤ (k : Int) := by omega
      have n1 : (k : Int) < 9 := by omega
      have hal := below_one wr (.cells f.cells 37)
      obtain ⟨W5, hW5⟩ : ∃ W5, wr.alloc (.cells f.cells 37) = W5 := ⟨_, rfl⟩
      have hbk : Blk W5 wr.heap.size 37 f.cells := by rw [← hW5]; exact Blk.new _ _ _
      rw [hW5] at hal
      have HW5 := Lib.hid hW5
      have HO5 := Lib.hid (own_below HO.out hal)
      have HB5 := Lib.hid (HBk.out.trans (hal.mono HBk.out.size))
      have HNX := Lib.hid (fltsK_next c k)
      have HF := Lib.hid hf
      have q0 := hbk.cell 0
      have q1 := hbk.cell 1
      have q2 := hbk.cell 2
      have ql := hbk.lt
      simp at q0 q1 q2
      clear hW5 hal hbb hf hq hbk hrk
      go_upto_region 7 with (fail)
      rw [HW5.out]
      clear hlk x6 hgl g0 hfd
      by_cases hc0 : f.code = 0
      · have hno : f = noFlt := by have := resF_zero (c := c) (i := k) (by rw [HF.out]; exact hc0); rwa [HF.out] at this
        have HON := Lib.hid (show W5.ownsRow w4.heap.size 37 3 _ (fltsK c (k + 1)).length ((fltsK c (k + 1)).flatMap FltC) from by rw [HNX.out, HF.out, if_pos hc0]; exact HO5.out)
        subst hno
        unfold noFlt at q0 q1 q2
        clear hc0
        go_wp2
        go_roundw
        case rel => exact ⟨k + 1, by omega, by go_num, HON, HB5⟩
        case measure => simp [intOf]; omega
      · have hcb : (f.code == 0) = false := beq_eq_false_iff_ne.2 hc0
        have hlen := fltsK_len c k
        have hal2 := below_one W5 (.cells f.cells 37)
        have hO6 := own_below HO5.out hal2
        obtain ⟨rA, rc, rfl, _⟩ := own_form hO6
        have HO6 := Lib.hid hO6
        have HB6 := Lib.hid (HB5.out.trans (hal2.mono HB5.out.size))
        have HNX2 := Lib.hid (show fltsK c (k + 1) = fltsK c k ++ [f] by rw [HNX.out, HF.out, if_neg hc0])
        have hsz := HB5.out.size
        clear hal2 hO6 hc0
        go_wp2_with (at_builtin; go_loud (refine wpList_append_lies _ rfl (.tmp 26) (.tmp 28) _ rfl w4.heap.size 37 i0 (.agg #[.int .i64 0, .int .i64 0, .int .i64 0]) 3 24 Tryz.underlying32 hi hz0 hz1 hz2 rfl (by decide) _ _ _ rfl HO6.out ⟨W5.heap.size, 0, none⟩ 1 1 (FltC f) rfl rfl (World.news_of_block (heap_alloc_new W5 _)) (by intro u hu; simp [FltC] at hu; rcases hu with rfl | rfl | rfl <;> rfl) (by omega) (by unfold maxLen; omega) (by omega) (by simp; omega) _ rfl ?_); intro g2 cap w7 hown hg hat hlt7)
        have HB7 := Lib.hid (HB6.out.grown hg (by simp; omega) (fun k e => (HO6.out.lt k e).1))
        have HON := Lib.hid (show w7.ownsRow w4.heap.size 37 3 (.slice (some ⟨g2, 0, none⟩) ((fltsK c k).length + 1) cap) (fltsK c (k + 1)).length ((fltsK c (k + 1)).flatMap FltC) by rw [HNX2.out, List.length_append, List.flatMap_append]; simpa using hown)
        clear hown hg hat hlt7
        go_wp2
        go_roundw
        case rel => exact ⟨k + 1, by omega, by go_num, HON, HB7⟩
        case measure => simp [intOf]; omega
    · obtain rfl : k = 9 := by omega
      have HE := Lib.hid (show fltsK c 9 = fltsOf c from rfl)
      go_wp2
      go_ret
      exact ⟨_, rfl, by have := own_lessM HO.out HB4.out.size; rwa [HE.out] at this, HB4.out.trans (HBk.out.mono HB4.out.size)⟩
/-- the first fault -/
def chkV (c : Cfg) : Flt := (fltsOf c).headD noFlt
theorem flt_at {w : World} {B : Nat} {A : Option Addr} {l : List Flt} {k : Nat} {x : Flt} (h : Rd w B 3 A l.length (l.flatMap FltC)) (hk : l[k]? = some x) :
    ∃ b o, A = some ⟨b, o, none⟩ ∧ b < B ∧ w.cell? ⟨b, o + k * 3, none⟩ = some (.int .i64 x.code) ∧ w.cell? ⟨b, o + k * 3 + 1, none⟩ = some (.int .i64 x.part) ∧ w.cell? ⟨b, o + k * 3 + 2, none⟩ = some (.int .i64 x.at_) := by
  obtain ⟨b, o, e, hb, hc⟩ := Rd.get (f := FltC) (sz := 3) (fun _ => rfl) h hk
  exact ⟨b, o, e, hb, hc 0 _ rfl, hc 1 _ rfl, hc 2 _ rfl⟩
theorem fltsOf_nz {c : Cfg} {f : Flt} (h : f ∈ fltsOf c) : f.code ≠ 0 := by
  unfold fltsOf at h
  have := (List.mem_filter.1 h).2
  simpa using this
set_option maxRecDepth 100000 in
set_option maxHeartbeats 4000000 in
theorem vCheck_ok (c : Cfg) (A1 A2 A3 A4 A5 : Option Addr) (c1 c2 c3 c4 c5 : Nat) (w : World) (hR : CfgR w w.heap.size c A1 A2 A3 A4 A5 c1 c2 c3 c4 c5) (hs : c.small) (hok : c.ok) (v : Flt) (hv : Hid (chkV c = v)) : Calls Tryz.prog 14 #[cfgV c.frame A1 A2 A3 A4 A5 c.parts.length c.wins.length c.regs.length c.ports.length c.chans.length c1 c2 c3 c4 c5] w fun e w' => e = .returned (fltV v) ∧ Below w.heap.size w w' := by
  obtain ⟨W0, hW, st⟩ := St.start_any hR 29
  have HW := Lib.hid hW
  obtain ⟨W1, hW1, hk1, hb1⟩ := FltBkM W0 37
  have HW1 := Lib.hid hW1
  have e0 : W0.heap.size = w.heap.size + 1 := by rw [← hW]; simp
  rw [e0] at hk1
  have HK1 := Lib.hid hk1
  have HST := Lib.hid (st.up hb1)
  obtain ⟨x0, x1, x2, x3, x4, x5, hz⟩ := HST.out.cells
  clear hR hW hW1 st hk1 hb1 e0
  go_enter Tryz.func14, Tryz.ntmps14
  go_upto_region 1 with (fail)
  rw [HW.out, HW1.out]
  go_wp2_with fail
  refine (vAll_ok c _ _ _ _ _ _ _ _ _ _ _ HST.out.R hs hok).mono ?_
  rintro e w3 ⟨v0, rfl, ho, hb3⟩
  obtain ⟨RA, rc, rfl, _, _, hrd⟩ := own_form ho
  have HRD := Lib.hid hrd
  have HB3 := Lib.hid (HST.out.bel.trans (hb3.mono HST.out.bel.size))
  have HK3 := Lib.hid (HK1.out.below hb3 HK1.out.lt)
  clear ho hb3 hrd x0 x1 x2 x3 x4 x5 hz
  have hk5 := HK3.out
  have q0 := hk5.cell 0
  have q1 := hk5.cell 1
  have q2 := hk5.cell 2
  have qf := hk5.frozen
  simp at q0 q1 q2
  have hkl := hk5.lt
  clear hk5
  rcases hl : fltsOf c with _ | ⟨f, r⟩
  · have HV := Lib.hid (show noFlt = v by rw [← hv.out]; unfold chkV; rw [hl]; rfl)
    rw [hl] at HRD
    simp only [List.length_nil]
    clear hl
    go_wp2
    go_loopw [8] (fun i wr => i = .int .i64 (0 : Nat) ∧ wr = w3) (fun i _ => 1 - (intOf i).toNat)
    case atStart => exact ⟨rfl, rfl⟩
    case round =>
      obtain ⟨rfl, rfl⟩ := hrel
      go_wp2
      have hvv := HV.out
      refine bodyPost_ret (v := fltV v) (by rw [← hvv]; simp [results, Tryz.results14, go_sem, q0, q1, q2, noFlt]) rfl ⟨rfl, ?_⟩
      exact Below.setCell (Below.setCell (Below.setCell HB3.out (by simp) _) (by simp) _) (by simp) _
  · have HV := Lib.hid (show f = v by rw [← hv.out]; unfold chkV; rw [hl]; rfl)
    rw [hl] at HRD
    have HRL := Lib.hid (show 0 < (f :: r).length by simp)
    obtain ⟨bb, o, rfl, hbb, g0, g1, g2⟩ := flt_at HRD.out (k := 0) (x := f) rfl
    have n1 : (0 : Int) < ((f :: r).length : Int) := by simp
    have n2 : 0 < (f :: r).length := by simp
    have n3 : r.length ≤ 9 := by have := fltsK_len c 9; have e : fltsK c 9 = f :: r := hl; rw [e] at this; simp at this; omega
    clear hl
    simp only [Nat.zero_mul, Nat.add_zero] at g0 g1 g2
    go_wp2
    go_loopw [8] (fun i wr => i = .int .i64 (0 : Nat) ∧ wr = w3) (fun i _ => 1 - (intOf i).toNat)
    case atStart => exact ⟨rfl, rfl⟩
    case round =>
      obtain ⟨rfl, rfl⟩ := hrel
      obtain ⟨W5, hW5⟩ : ∃ W5, wr.alloc (.cells f.cells 37) = W5 := ⟨_, rfl⟩
      have hbk : Blk W5 wr.heap.size 37 f.cells := by rw [← hW5]; exact Blk.new _ _ _
      have hal : Below wr.heap.size wr W5 := by rw [← hW5]; exact below_one _ _
      have HW5 := Lib.hid hW5
      have HB5 := Lib.hid (HB3.out.trans (hal.mono HB3.out.size))
      have HK5 := Lib.hid (HK3.out.below hal HK3.out.lt)
      have r0 := hbk.cell 0
      have r1 := hbk.cell 1
      have r2 := hbk.cell 2
      have rl := hbk.lt
      simp at r0 r1 r2
      clear hW5 hbk hal
      go_upto_region 4 with (fail)
      rw [HW5.out]
      clear q0 q1 q2 qf hkl g0 g1 g2
      have hk5 := HK5.out
      have q0 := hk5.cell 0
      have q1 := hk5.cell 1
      have q2 := hk5.cell 2
      have qf := hk5.frozen
      simp at q0 q1 q2
      have hkl := hk5.lt
      clear hk5
      go_wp2
      have hvv := HV.out
      refine bodyPost_ret (v := fltV v) (by rw [← hvv]; simp [results, Tryz.results14, go_sem, q0, q1, q2]) rfl ⟨rfl, ?_⟩
      exact Below.setCell (Below.setCell (Below.setCell HB5.out (by simp) _) (by simp) _) (by simp) _
/-- whether a configuration is valid -/
def vldB (c : Cfg) : Bool := decide ((chkV c).code = 0)
theorem chkV_zero {c : Cfg} (h : (chkV c).code = 0) : chkV c = noFlt := by
  unfold chkV at *
  rcases hl : fltsOf c with _ | ⟨f, r⟩
  · rfl
  · rw [hl] at h
    exact absurd h (fltsOf_nz (c := c) (by rw [hl]; simp))
set_option maxRecDepth 100000 in
set_option maxHeartbeats 1000000 in
theorem vValid_ok (c : Cfg) (A1 A2 A3 A4 A5 : Option Addr) (c1 c2 c3 c4 c5 : Nat) (w : World) (hR : CfgR w w.heap.size c A1 A2 A3 A4 A5 c1 c2 c3 c4 c5) (hs : c.small) (hok : c.ok) (b : Bool) (hb : Hid (vldB c = b)) : Calls Tryz.prog 16 #[cfgV c.frame A1 A2 A3 A4 A5 c.parts.length c.wins.length c.regs.length c.ports.length c.chans.length c1 c2 c3 c4 c5] w fun e w' => e = .returned (.bool b) ∧ Below w.heap.size w w' := by
  obtain ⟨W0, hW, st⟩ := St.start_any hR 29
  have HW := Lib.hid hW
  have HST := Lib.hid st
  obtain ⟨x0, x1, x2, x3, x4, x5, hz⟩ := st.cells
  obtain ⟨v, hv⟩ : ∃ v, chkV c = v := ⟨_, rfl⟩
  have HV := Lib.hid hv
  clear hR hW st
  by_cases h0 : v.code = 0
  · have hno : v = noFlt := by rw [← hv] at h0 ⊢; exact chkV_zero h0
    have HBB := Lib.hid (show true = b by rw [← hb.out]; unfold vldB; rw [hv, decide_eq_true h0])
    subst hno
    clear h0 hv
    go_enter Tryz.func16, Tryz.ntmps16
    go_upto_region 1 with (fail)
    rw [HW.out]
    go_wp2_with fail
    refine (vCheck_ok c _ _ _ _ _ _ _ _ _ _ _ HST.out.R hs hok noFlt HV).mono ?_
    rintro e w3 ⟨rfl, hb3⟩
    have HB3 := Lib.hid (HST.out.bel.trans (hb3.mono HST.out.bel.size))
    clear hb3 x0 x1 x2 x3 x4 x5 hz
    unfold noFlt
    go_wp2
    go_ret
    exact ⟨ret_bool HBB.out, HB3.out⟩
  · have HBB := Lib.hid (show false = b by rw [← hb.out]; unfold vldB; rw [hv, decide_eq_false h0])
    have hcb : (v.code == 0) = false := beq_eq_false_iff_ne.2 h0
    clear h0 hv
    go_enter Tryz.func16, Tryz.ntmps16
    go_upto_region 1 with (fail)
    rw [HW.out]
    go_wp2_with fail
    refine (vCheck_ok c _ _ _ _ _ _ _ _ _ _ _ HST.out.R hs hok v HV).mono ?_
    rintro e w3 ⟨rfl, hb3⟩
    have HB3 := Lib.hid (HST.out.bel.trans (hb3.mono HST.out.bel.size))
    clear hb3 x0 x1 x2 x3 x4 x5 hz
    go_wp2
    go_ret
    exact ⟨ret_bool HBB.out, HB3.out⟩
theorem ba_refl (s : ByteArray) : (s == s) = true := by
  rcases beqb_cases s s with h | h
  · exact h
  · exact absurd rfl (beqb_false h)
/-- the number of a name -/
def idxS (s : ByteArray) : Option Nat := (List.range 9).find? fun k => nmS k == s
def onlyF (c : Cfg) (s : ByteArray) : Flt := match idxS s with | some k => resF c k | none => noFlt
def onlyB (c : Cfg) (s : ByteArray) : Bool := match idxS s with | some k => perfC c k | none => false
theorem look_any {W : World} {g m : Nat} {c : Cfg} {A1 A2 A3 A4 A5 : Option Addr} {c1 c2 c3 c4 c5 : Nat} (h : RnSt W g m c A1 A2 A3 A4 A5 c1 c2 c3 c4 c5 (esN c 9)) {s : ByteArray} (hs : s.size ≤ maxLen) (f : Flt) (hf : onlyF c s = f) (q : Bool) (hq : onlyB c s = q) :
    (Instr.lookup 71 (.map (some m)) (.string s) false).run Tryz.prog W = .ok (.agg #[.int .i64 f.code, .int .i64 f.part, .int .i64 f.at_, .bool q]) W := by
  unfold onlyF at hf
  unfold onlyB at hq
  rcases hi : idxS s with _ | k
  · rw [hi] at hf hq
    subst hf hq
    refine look_none h hs ?_
    rw [getv_none]
    intro p hp he
    unfold esN at hp
    obtain ⟨j, hj, rfl⟩ := List.mem_map.1 hp
    have hj9 := (List.mem_filter.1 hj).1
    unfold idxS at hi
    rw [List.find?_eq_none] at hi
    have h1 := hi j hj9
    have he' : nmS j = s := he
    rw [he'] at h1
    exact h1 (ba_refl s)
  · rw [hi] at hf hq
    unfold idxS at hi
    have h1 := List.find?_some hi
    have h2 := List.mem_range.1 (List.mem_of_find?_eq_some hi)
    have h3 : nmS k = s := beqb_true h1
    subst h3
    exact look_res h h2 f hf q hq
set_option maxRecDepth 100000 in
set_option maxHeartbeats 4000000 in
theorem vOnly_ok (c : Cfg) (A1 A2 A3 A4 A5 : Option Addr) (c1 c2 c3 c4 c5 : Nat) (w : World) (hR : CfgR w w.heap.size c A1 A2 A3 A4 A5 c1 c2 c3 c4 c5) (hs : c.small) (hok : c.ok) (s : ByteArray) (hsz : s.size ≤ maxLen) (f : Flt) (hf : Hid (onlyF c s = f)) (q : Bool) (hq : Hid (onlyB c s = q)) : Calls Tryz.prog 18 #[cfgV c.frame A1 A2 A3 A4 A5 c.parts.length c.wins.length c.regs.length c.ports.length c.chans.length c1 c2 c3 c4 c5, .string s] w fun e w' => e = .returned (.tuple #[fltV f, .bool q]) ∧ Below w.heap.size w w' := by
  obtain ⟨W0, hW, st⟩ := St.start_any hR 29
  have HW := Lib.hid hW
  obtain ⟨W1, hW1, hk1, hb1⟩ := FltBkM W0 37
  have HW1 := Lib.hid hW1
  have e0 : W0.heap.size = w.heap.size + 1 := by rw [← hW]; simp
  rw [e0] at hk1
  have HK1 := Lib.hid hk1
  have HST := Lib.hid (st.up hb1)
  obtain ⟨x0, x1, x2, x3, x4, x5, hz⟩ := HST.out.cells
  clear hR hW hW1 st hk1 hb1 e0
  go_enter Tryz.func18, Tryz.ntmps18
  go_upto_region 1 with (fail)
  rw [HW.out, HW1.out]
  go_wp2_with fail
  refine (vall_ok c _ _ _ _ _ _ _ _ _ _ _ HST.out.R hs hok).mono ?_
  rintro e w3 ⟨g, m, rfl, hr, hb3⟩
  have hlk := look_any hr hsz f hf.out q hq.out
  have x6 := hr.x6
  have hgl := hr.lt
  have HB3 := Lib.hid (HST.out.bel.trans (hb3.mono HST.out.bel.size))
  have HK3 := Lib.hid (HK1.out.below hb3 HK1.out.lt)
  clear hr hb3 x0 x1 x2 x3 x4 x5 hz
  obtain ⟨W5, hW5⟩ : ∃ W5, w3.alloc (.cells #[.int .i64 f.code, .int .i64 f.part, .int .i64 f.at_, .bool q] 70) = W5 := ⟨_, rfl⟩
  have hbk : Blk W5 w3.heap.size 70 #[.int .i64 f.code, .int .i64 f.part, .int .i64 f.at_, .bool q] := by rw [← hW5]; exact Blk.new _ _ _
  have hal : Below w3.heap.size w3 W5 := by rw [← hW5]; exact below_one _ _
  have HW5 := Lib.hid hW5
  have HB5 := Lib.hid (HB3.out.trans (hal.mono HB3.out.size))
  have HK5 := Lib.hid (HK3.out.below hal HK3.out.lt)
  have r0 := hbk.cell 0
  have r1 := hbk.cell 1
  have r2 := hbk.cell 2
  have r3 := hbk.cell 3
  have rl := hbk.lt
  simp at r0 r1 r2 r3
  have hne : w.heap.size + 1 ≠ w3.heap.size := by have := HK3.out.lt; omega
  clear hW5 hbk hal
  go_upto_region 2 with (fail)
  rw [HW5.out]
  clear hlk x6 hgl
  have hk5 := HK5.out
  have q0 := hk5.cell 0
  have q1 := hk5.cell 1
  have q2 := hk5.cell 2
  have qf := hk5.frozen
  simp at q0 q1 q2
  have hkl := hk5.lt
  clear hk5
  generalize w3.heap.size = br at r0 r1 r2 r3 rl hne ⊢
  go_region
  all_goals
    go_wp2
    refine bodyPost_ret (v := .tuple #[fltV f, .bool q]) (by simp [results, Tryz.results18, go_sem, q0, q1, q2]) rfl ⟨rfl, ?_⟩
    exact Below.drew (Below.setCell (Below.setCell (Below.setCell HB5.out (by simp) _) (by simp) _) (by simp) _)
end Go.Proofs.YtpedlbjbbcbbkaaGreat
