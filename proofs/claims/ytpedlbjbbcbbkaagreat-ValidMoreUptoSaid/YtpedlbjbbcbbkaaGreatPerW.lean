/-
  The iterator of periods of package demand, walked with the loop of short: what it leaves is what the plain law of visits says.
-/
import Derived.BigQuiet
import Derived.BigRegion
import Derived.Deep.DeepCutAuto
import Derived.Test.YtpedlbjbbcbbkaaGreatPerZ
import Derived.Test.YtpedlbjbbcbbkaaGreatFrmZ
namespace Go.Proofs.YtpedlbjbbcbbkaaGreat
open Go.RowKit Go.Maps Go.Shelf
attribute [local go_sem] ext_cell
section
variable {f : ShFr} {L : List Win} {w W V : World} {yb nb tb : Nat} {next t : Int}
theorem DPs.up (h : DPs f L w yb nb tb next t W) (hb : Below W.heap.size W V) : DPs f L w yb nb tb next t V := by
  have q : ∀ b o, W.heap[b]? = some o → V.heap[b]? = some o := fun b o hw => (hb.block b (Array.getElem?_eq_some_iff.1 hw).1).trans hw
  exact ⟨⟨q _ _ h.sh.L, q _ _ h.sh.K, q _ _ h.sh.P, q _ _ h.sh.R2, q _ _ h.sh.R3⟩, q _ _ h.PQ, q _ _ h.YB, q _ _ h.NB, q _ _ h.TB, h.bel.trans (hb.mono (Nat.le_of_lt h.sh.P.lt))⟩
theorem DPs.other (ha : PApart f yb nb tb) (h : DPs f L w yb nb tb next t W) (b : Nat) (v : Value) (hb : b = nb ∨ b = tb) :
    ShSt f (W.setCell ⟨b, 0, none⟩ v) ∧ Blk (W.setCell ⟨b, 0, none⟩ v) f.pq 258 (ptCells f.p f.frame f.A f.n f.cp) ∧ Blk (W.setCell ⟨b, 0, none⟩ v) yb 273 #[.func (.yield f.l) #[] #[]] ∧ Below f.ps w (W.setCell ⟨b, 0, none⟩ v) := by
  obtain ⟨⟨a1, a2, a3, a4⟩, q1, q2, q3, q4, q5⟩ := ha
  have hlt : f.l < b := by rcases hb with rfl | rfl <;> omega
  have hyb : yb < b := by rcases hb with rfl | rfl <;> omega
  exact ⟨h.sh.other (fun c hc => Below.heap_setCell _ _ _ _ (by show c ≠ b; omega)) ⟨a1, a2, a3, a4⟩, h.PQ.far (by show f.pq ≠ b; omega) _, h.YB.far (by show yb ≠ b; omega) _, h.bel.setCell (p := ⟨b, 0, none⟩) (by show f.ps ≤ b; omega) _⟩
theorem DPs.setT (ha : PApart f yb nb tb) (h : DPs f L w yb nb tb next t W) (x : Int) : DPs f L w yb nb tb next x (W.setCell ⟨tb, 0, none⟩ (.int .u64 x)) := by
  obtain ⟨h1, h2, h3, h4⟩ := h.other ha tb (.int .u64 x) (.inr rfl)
  exact ⟨h1, h2, h3, h.NB.far (by have := ha.q5; show nb ≠ tb; omega) _, h.TB.set_ 0 (.int .u64 x), h4⟩
theorem DPs.setN (ha : PApart f yb nb tb) (h : DPs f L w yb nb tb next t W) (x : Int) : DPs f L w yb nb tb x t (W.setCell ⟨nb, 0, none⟩ (.int .u64 x)) := by
  obtain ⟨h1, h2, h3, h4⟩ := h.other ha nb (.int .u64 x) (.inl rfl)
  exact ⟨h1, h2, h3, h.NB.set_ 0 (.int .u64 x), h.TB.far (by have := ha.q5; show tb ≠ nb; omega) _, h4⟩
theorem DPs.cells (h : DPs f L w yb nb tb next t W) : W.cell? ⟨nb, 0, none⟩ = some (.int .u64 next) ∧ W.cell? ⟨tb, 0, none⟩ = some (.int .u64 t) ∧ W.cell? ⟨f.pq, 2, none⟩ = some (.int .u64 f.p.period) ∧ W.cell? ⟨f.pq, 4, none⟩ = some (.int .u64 f.frame) ∧ W.cell? ⟨f.pq, 5, none⟩ = some (.slice f.A f.n f.cp) ∧ W.frozen? ⟨nb, 0, none⟩ = false ∧ W.frozen? ⟨tb, 0, none⟩ = false ∧ W.cell? ⟨yb, 0, none⟩ = some (.func (.yield f.l) #[] #[]) ∧ f.pq < W.heap.size ∧ nb < W.heap.size ∧ tb < W.heap.size := by
  refine ⟨by simpa using h.NB.cell 0, by simpa using h.TB.cell 0, by simpa using h.PQ.cell 2, by simpa using h.PQ.cell 4, by simpa using h.PQ.cell 5, h.NB.frozen 0, h.TB.frozen 0, by simpa using h.YB.cell 0, h.PQ.lt, h.NB.lt, h.TB.lt⟩
theorem DPs.start (hs : ShSt f W) (hq : Blk W f.pq 258 (ptCells f.p f.frame f.A f.n f.cp)) (hb : Below f.ps w W) (hl : f.ps ≤ W.heap.size) :
    ∃ V, ((W.alloc (.cells #[.func (.yield f.l) #[] #[]] 273)).alloc (.cells #[.int .u64 0] 22)).alloc (.cells #[.int .u64 0] 22) = V ∧ DPs f L w W.heap.size (W.heap.size + 1) (W.heap.size + 1 + 1) 0 0 V := by
  have b1 := below_one W (.cells #[.func (.yield f.l) #[] #[]] 273)
  have b2 := below_one (W.alloc (.cells #[.func (.yield f.l) #[] #[]] 273)) (.cells #[.int .u64 0] 22)
  have b3 := below_one ((W.alloc (.cells #[.func (.yield f.l) #[] #[]] 273)).alloc (.cells #[.int .u64 0] 22)) (.cells #[.int .u64 0] 22)
  have hb3 := Below.then_ (Below.then_ b1 b2) b3
  have q : ∀ b o, W.heap[b]? = some o → (((W.alloc (.cells #[.func (.yield f.l) #[] #[]] 273)).alloc (.cells #[.int .u64 0] 22)).alloc (.cells #[.int .u64 0] 22)).heap[b]? = some o := fun b o hw => (hb3.block b (Array.getElem?_eq_some_iff.1 hw).1).trans hw
  have y := Blk.new W 273 #[.func (.yield f.l) #[] #[]]
  have n := Blk.new (W.alloc (.cells #[.func (.yield f.l) #[] #[]] 273)) 22 #[.int .u64 0]
  have t := Blk.new ((W.alloc (.cells #[.func (.yield f.l) #[] #[]] 273)).alloc (.cells #[.int .u64 0] 22)) 22 #[.int .u64 0]
  rw [World.size_alloc] at n
  rw [World.size_alloc, World.size_alloc] at t
  exact ⟨_, rfl, ⟨q _ _ hs.L, q _ _ hs.K, q _ _ hs.P, q _ _ hs.R2, q _ _ hs.R3⟩, q _ _ hq, (y.alloc _).alloc _, n.alloc _, t, hb.trans (hb3.mono hl)⟩
end
theorem WnBox.same {W V : World} {g : Nat} {x : Win} (h : WnBox W g x) (hk : V.heap[g]? = W.heap[g]?) : WnBox V g x := by
  have q : ∀ o, V.cell? ⟨g, o, none⟩ = W.cell? ⟨g, o, none⟩ := fun o => World.cell?_of_block (a := ⟨g, o, none⟩) hk
  refine ⟨(q 0).trans h.h0, (q 1).trans h.h1, (q 2).trans h.h2, ?_⟩
  have := h.lt
  rw [Array.getElem?_eq_getElem this] at hk
  exact (Array.getElem?_eq_some_iff.1 hk).1
/-- what is known of the next window -/
structure WF (per D count F next t b s len first last m1 m2 : Nat) : Prop where
  e1 : s / per = first
  e2 : (s + len - 1) / per = last
  e3 : (first + 1) * per = m1
  e4 : last * per = m2
  bs : b ≤ s
  l0 : 0 < len
  lF : s + len ≤ F
  f1 : first * per ≤ s
  f2 : s < m1
  l1 : m2 ≤ s + len - 1
  fl : first ≤ last
  nf : next ≤ first
  fc : first < count
  lc : last < count
  cF : count ≤ F
  nt : next * per + t ≤ b
  mm : first < last → m1 ≤ m2
  mp : first < last → m1 + per ≤ F
  me : m1 = first * per + per
theorem wf_of {per D count F next t b s len : Nat} {r : List (Nat × Nat)} (hp : 0 < per) (hF : count * per = F) (hA : After F b ((s, len) :: r)) (hn : next * per + t ≤ b) : ∃ first last m1 m2, WF per D count F next t b s len first last m1 m2 := by
  obtain ⟨a1, a2, a3, _⟩ := hA
  simp only at a1 a2 a3
  have f1 : s / per * per ≤ s := Nat.div_mul_le_self s per
  have f2 : s < (s / per + 1) * per := by rw [Nat.mul_comm]; exact Nat.lt_mul_div_succ s hp
  have l1 : (s + len - 1) / per * per ≤ s + len - 1 := Nat.div_mul_le_self _ per
  have fl : s / per ≤ (s + len - 1) / per := Nat.div_le_div_right (by omega)
  have mono : ∀ {i j : Nat}, i ≤ j → i * per ≤ j * per := fun h => Nat.mul_le_mul_right per h
  have nf : next ≤ s / per := by
    rcases Nat.lt_or_ge (s / per) next with h | h
    · have := mono (show s / per + 1 ≤ next by omega); omega
    · exact h
  have lc : (s + len - 1) / per < count := by
    rcases Nat.lt_or_ge ((s + len - 1) / per) count with h | h
    · exact h
    · have := mono h; omega
  have cF : count ≤ F := by rw [← hF]; exact Nat.le_mul_of_pos_right _ hp
  exact ⟨_, _, _, _, rfl, rfl, rfl, rfl, a1, a2, a3, f1, f2, l1, fl, nf, by omega, lc, cF, hn, fun h => mono (by omega), fun h => by have e := mono (show s / per + 1 + 1 ≤ count by omega); rw [hF, Nat.succ_mul] at e; exact e, Nat.succ_mul _ _⟩
section
variable {per D count F next t b s len first last m1 m2 : Nat} {r : List (Nat × Nat)}
theorem WF.stop1 (h : WF per D count F next t b s len first last m1 m2) (h1 : next < first) (h2 : 0 < t) (h3 : t < D) : visits per D count ((s, len) :: r) next t = true := by
  unfold visits visit1
  simp only [h.e1, h.e2]
  rw [if_pos ⟨h1, h2, h3⟩]
theorem WF.stop2 (h : WF per D count F next t b s len first last m1 m2) (h1 : next < first) (h2 : t = 0) (h3 : 0 < D) : visits per D count ((s, len) :: r) next t = true := by
  unfold visits visit1
  simp only [h.e1, h.e2]
  rw [if_neg (by omega), if_pos (by rw [if_neg (by omega)]; exact ⟨h1, h3⟩)]
theorem WF.stop3 (h : WF per D count F next t b s len first last m1 m2) (h1 : next + 1 < first) (h2 : 0 < t) (h4 : ¬ t < D) (h3 : 0 < D) : visits per D count ((s, len) :: r) next t = true := by
  unfold visits visit1
  simp only [h.e1, h.e2]
  rw [if_neg (by omega), if_pos (by rw [if_pos ⟨by omega, h2⟩]; exact ⟨h1, h3⟩)]
theorem visits_nil (per D count next t : Nat) : visits per D count [] next t = (decide (next < count ∧ 0 < t ∧ t < D) || decide ((if next < count ∧ 0 < t then next + 1 else next) < count ∧ 0 < D)) := by rw [visits]
theorem visits_cons (per D count : Nat) (x : Nat × Nat) (r : List (Nat × Nat)) (next t : Nat) : visits per D count (x :: r) next t = match visit1 per D next t x with | none => true | some (n, u) => visits per D count r n u := by rw [visits]; rfl
/-- the program goes on to the first period of the window -/
theorem WF.pre (h : WF per D count F next t b s len first last m1 m2) (h1 : ¬ (next < first ∧ 0 < t ∧ t < D)) (h2 : ¬ ((if next < first ∧ 0 < t then next + 1 else next) < first ∧ 0 < D)) :
    visits per D count ((s, len) :: r) next t = if first = last then visits per D count r first ((if next < first then 0 else t) + len) else if (if next < first then 0 else t) + m1 - s < D then true else visits per D count r last (s + len - m2) := by
  have e : (if (if next < first ∧ 0 < t then next + 1 else next) < first then 0 else (if next < first ∧ 0 < t then 0 else t)) = (if next < first then 0 else t) := by
    by_cases c1 : next < first <;> by_cases c2 : 0 < t <;> simp [c1, c2]
  rw [visits_cons]
  unfold visit1
  simp only [h.e1, h.e2, h.e3, h.e4]
  rw [if_neg h1, if_neg h2, e]
  by_cases c3 : first = last
  · rw [if_pos c3, if_pos c3]
  · rw [if_neg c3, if_neg c3]
    by_cases c4 : (if next < first then 0 else t) + m1 - s < D
    · rw [if_pos c4, if_pos c4]
    · rw [if_neg c4, if_neg c4]
end
def PEnd (f : ShFr) (w : World) (v : Bool) (e : Ending) (W' : World) : Prop := (∃ x, e = .returned x) ∧ Below f.ps w W' ∧ ((v = true ∧ ∃ k, ShDn f k W') ∨ (v = false ∧ ShSt f W'))
/-- where the loop over the windows stands -/
def PRel (f : ShFr) (L : List Win) (w : World) (yb nb tb per D count F : Nat) (v : Bool) (k : Nat) (W : World) : Prop :=
  ∃ next t b : Nat, DPs f L w yb nb tb next t W ∧ visits per D count ((L.map natW).drop k) next t = v ∧ After F b ((L.map natW).drop k) ∧ next * per + t ≤ b
set_option maxRecDepth 100000 in
set_option maxHeartbeats 16000000 in
theorem periods1_ok (f : ShFr) (L : List Win) (w W : World) (hA : f.apart) (q1 : f.r3 < f.pq) (q2 : f.pq < f.D) (hsh : ShSt f W) (hPQ : Blk W f.pq 258 (ptCells f.p f.frame f.A f.n f.cp)) (hbel : Below f.ps w W) (hlen : f.n = L.length) (hLl : L.length ≤ 1048576) (hRD : Rd w f.ps 3 f.A L.length (L.flatMap Win.cells))
    (per D count F : Nat) (hper : f.p.period = per) (hD : f.p.duration = D) (hF : f.frame = F) (h0 : 0 < per) (hcF : count * per = F) (hDp : D ≤ per) (hF64 : F ≤ 18446744073709551615) (hAf : After F 0 (L.map natW)) (hpos : ∀ x ∈ L, 0 ≤ x.start ∧ 0 ≤ x.len) (v : Bool) (hv : Hid (visits per D count (L.map natW) 0 0 = v)) :
    Calls Tryz.prog 325 #[.func (.yield f.l) #[] #[], .pointer (some ⟨f.pq, 0, none⟩)] W (PEnd f w v) := by
  have hent : ∀ a w, (callFunc 326 a).run Tryz.prog w = .ok (.enter 326 a) w := enters_of Tryz.func326 (by kernel_rfl) rfl
  have hl : f.l < W.heap.size := (Array.getElem?_eq_some_iff.1 hsh.L).1
  obtain ⟨V, hV, hps⟩ := DPs.start (L := L) hsh hPQ hbel (by have := hA.a1; have := hA.a2; have := hA.a3; have := hA.a4; omega)
  have HAP := Lib.hid (show PApart f W.heap.size (W.heap.size + 1) (W.heap.size + 1 + 1) from ⟨hA, q1, q2, by omega, by omega, by omega⟩)
  have HV := Lib.hid hV
  have HPS := Lib.hid hps
  have z2 : W.cell? ⟨f.pq, 2, none⟩ = some (.int .u64 per) := by have := hPQ.cell 2; rw [← hper]; simpa using this
  have z4 : W.cell? ⟨f.pq, 4, none⟩ = some (.int .u64 F) := by have := hPQ.cell 4; rw [← hF]; simpa using this
  have hql := hPQ.lt
  have hquo : (F : Int) / (per : Int) = (count : Int) := by rw [← hcF, Int.natCast_mul]; exact Int.mul_ediv_cancel _ (by omega)
  have hcw : IntKind.u64.wrap (count : Int) = (count : Int) := by
    have : count ≤ F := by rw [← hcF]; exact Nat.le_mul_of_pos_right _ h0
    rw [IntKind.wrap_u64]; omega
  have hp0 : ((per : Int) == 0) = false := by rw [beq_eq_false_iff_ne]; omega
  have hp1 : (0 : Int) < (per : Int) := by omega
  have HPER := Lib.hid hper
  have HD := Lib.hid hD
  have HF := Lib.hid hF64
  have HDP := Lib.hid hDp
  have HAF := Lib.hid hAf
  have HPOS := Lib.hid hpos
  have HRD := Lib.hid hRD
  have HCF := Lib.hid hcF
  have HLN0 := Lib.hid hlen
  clear hsh hPQ hbel hA q1 q2 hV hps hl hper hD hF hF64 hDp hAf hpos hRD hcF hlen
  go_enter Tryz.func325, Tryz.ntmps325
  go_upto_region 4 with (fail)
  rw [HV.out]
  clear z2 z4 hql hquo hcw HV
  generalize W.heap.size + 1 + 1 = tb at HAP HPS ⊢
  generalize W.heap.size + 1 = nb at HAP HPS ⊢
  generalize W.heap.size = yb at HAP HPS ⊢
  obtain ⟨z0, z1, z2, z3, z4, z5, z6, z7, z8, z9, z10⟩ := HPS.out.cells
  obtain ⟨A', hA'⟩ : ∃ A', f.A = A' := ⟨_, rfl⟩
  rw [HLN0.out, hA'] at z4
  rw [hA'] at HRD
  clear hA'
  have HR0 := Lib.hid (show PRel f L w yb nb tb per D count F v 0 V from ⟨0, 0, 0, HPS.out, by rw [List.drop_zero]; exact hv.out, by rw [List.drop_zero]; exact HAF.out, by omega⟩)
  go_wp2
  clear z0 z1 z2 z3 z4 z5 z6 z7 z8 z9 z10
  go_loopw [22] (fun i wr => ∃ k : Nat, k ≤ L.length ∧ i = .int .i64 k ∧ Hid (PRel f L w yb nb tb per D count F v k wr)) (fun i _ => L.length - (intOf i).toNat)
  case atStart => exact ⟨0, Nat.zero_le _, rfl, HR0⟩
  case round =>
    obtain ⟨k, hk, rfl, HREL⟩ := hrel
    by_cases hlt : k < L.length
    · obtain ⟨x, hx⟩ := get_lt hlt
      obtain ⟨next, t, b, hps, hvis, haf, hnt⟩ := HREL.out
      obtain ⟨hx0, hx1⟩ := HPOS.out x (List.mem_of_getElem? hx)
      obtain ⟨s, hs⟩ := Int.eq_ofNat_of_zero_le hx0
      obtain ⟨len, hln⟩ := Int.eq_ofNat_of_zero_le hx1
      have hdr : (L.map natW).drop k = (s, len) :: (L.map natW).drop (k + 1) := by
        rw [drop_cons (x := natW x) (by simp [hx])]
        unfold natW
        rw [hs, hln]
        simp
      rw [hdr] at hvis haf
      obtain ⟨first, last, m1, m2, hwf⟩ := wf_of (D := D) h0 HCF.out haf hnt
      have HAN := Lib.hid (show After F (s + len) ((L.map natW).drop (k + 1)) from haf.2.2.2)
      have HVI := Lib.hid hvis
      obtain ⟨bb, o, rfl, _, g0, g1, g2⟩ := win_at (HRD.out.below hps.bel) hx
      obtain ⟨z0, z1, z2, z3, z4, z5, z6, z7, z8, z9, z10⟩ := hps.cells
      have HPK := Lib.hid hps
      have HWF := Lib.hid hwf
      have HS := Lib.hid hs
      have HLN := Lib.hid hln
      have n0 : (0 : Int) ≤ (k : Int) := by omega
      have n1 : (k : Int) < (L.length : Int) := by omega
      clear hx hps hvis haf hnt hdr hwf hs hln hx0 hx1 HREL
      go_upto_region 8 with (fail)
      obtain ⟨W4, hW4, rb, hb4⟩ := WnBox.new wr x 52
      rw [hW4]
      have HP4 := Lib.hid (HPK.out.up hb4)
      have HB4 := Lib.hid rb
      have hwbt := Lib.hid z10
      clear hW4 hb4 g0 g1 g2 z0 z1 z2 z3 z4 z5 z6 z7 z8 z9 z10 rb
      generalize wr.heap.size = wb at HB4 hwbt ⊢
      obtain ⟨z0, z1, z2, z3, z4, z5, z6, z7, z8, z9, z10⟩ := HP4.out.cells
      rw [HPER.out] at z2
      obtain ⟨p0, p1, p2, pz⟩ := HB4.out
      rw [HS.out] at p0
      rw [HLN.out] at p1
      have e1 : (s : Int) / (per : Int) = (first : Int) := by rw [← HWF.out.e1]; rfl
      have e2 : ((s : Int) + (len : Int) - 1) / (per : Int) = (last : Int) := by have := HWF.out.l0; rw [← HWF.out.e2, Int.natCast_ediv, show ((s + len - 1 : Nat) : Int) = (s : Int) + (len : Int) - 1 from by omega]
      have e3 : ((s : Int) + (len : Int) - 1).tdiv (per : Int) = (last : Int) := by have := HWF.out.l0; rw [Int.tdiv_eq_ediv_of_nonneg (by omega), e2]
      have w1 : IntKind.u64.wrap (first : Int) = (first : Int) := by have := HWF.out.fc; have := HWF.out.cF; have := HF.out; rw [IntKind.wrap_u64]; omega
      have w2 : IntKind.u64.wrap (last : Int) = (last : Int) := by have := HWF.out.lc; have := HWF.out.cF; have := HF.out; rw [IntKind.wrap_u64]; omega
      have w3 : IntKind.u64.wrap ((s : Int) + (len : Int)) = (s : Int) + (len : Int) := by have := HWF.out.lF; have := HF.out; rw [IntKind.wrap_u64]; omega
      have w4 : IntKind.u64.wrap ((s : Int) + (len : Int) - 1) = (s : Int) + (len : Int) - 1 := by have := HWF.out.lF; have := HWF.out.l0; have := HF.out; rw [IntKind.wrap_u64]; omega
      refine wp_region_ext (by kernel_rfl) (by kernel_rfl) ?_
      repeat (go_big_quiet_step (fail))
      refine wpQuiet_nil ?_
      intro xq
      have HP5 := Lib.hid (HP4.out.up (ext_below W4 xq))
      have HB5 := Lib.hid (HB4.out.up (ext_below W4 xq))
      clear z0 z1 z2 z3 z4 z5 z6 z7 z8 z9 z10 p0 p1 p2 pz
      generalize ext W4 xq = W5 at HP5 HB5 ⊢
      obtain ⟨z0, z1, z2, z3, z4, z5, z6, z7, z8, z9, z10⟩ := HP5.out.cells
      rw [HPER.out] at z2
      go_upto_region 10 with (fail)
      clear e1 e2 e3 w3 w4
      by_cases hnf : next < first
      · have hnf1 : next ≤ first := by omega
        have hnf2 : (next : Int) < (first : Int) := by omega
        by_cases ht : 0 < t
        · have ht2 : (0 : Int) < (t : Int) := by omega
          by_cases htD : t < D
          · have hst : v = true := by rw [← HVI.out]; exact HWF.out.stop1 hnf ht htD
            go_wp2_with fail
            refine (done_no f L w yb nb tb HAP.out (next : Int) (t : Int) (next : Int) (t : Int) W5 HP5.out (by rw [HD.out]; omega) (by omega) (by have := HWF.out.lc; have := HWF.out.fl; have := HWF.out.cF; have := HF.out; omega)).mono ?_
            rintro e W9 ⟨rfl, hdn, hb9⟩
            have HDN := Lib.hid (show PEnd f w v (.returned (.tuple #[])) W9 from ⟨⟨_, rfl⟩, hb9, .inl ⟨hst, _, hdn⟩⟩)
            clear hdn hb9 z0 z1 z2 z3 z4 z5 z6 z7 z8 z9 z10
            go_wp2
            go_end0
            exact HDN.out
          · have htD2 : D ≤ t := by omega
            go_wp2_with fail
            refine (done_go f L w yb nb tb HAP.out (next : Int) (t : Int) (next : Int) (t : Int) W5 HP5.out (by rw [HD.out]; omega) (by omega) (by have := HWF.out.lc; have := HWF.out.fl; have := HWF.out.cF; have := HF.out; omega)).mono ?_
            rintro e W6 ⟨rfl, hp9, _, hk9⟩
            have HP6 := Lib.hid hp9
            have HB6 := Lib.hid (HB5.out.same (hk9 wb hwbt.out HB5.out.lt))
            clear hp9 hk9 z0 z1 z2 z3 z4 z5 z6 z7 z8 z9 z10
            obtain ⟨z0, z1, z2, z3, z4, z5, z6, z7, z8, z9, z10⟩ := HP6.out.cells
            rw [HPER.out] at z2
            by_cases h12 : next + 1 < first
            · have h12i : (next : Int) + 1 < (first : Int) := by omega
              by_cases hD0 : 0 < D
              · have hst : v = true := by rw [← HVI.out]; exact HWF.out.stop3 h12 ht htD hD0
                go_wp2_with fail
                refine (done_no f L w yb nb tb HAP.out ((next : Int) + 1) 0 ((next : Int) + 1) 0 W6 HP6.out (by rw [HD.out]; omega) (by omega) (by have := HWF.out.lc; have := HWF.out.fl; have := HWF.out.cF; have := HF.out; omega)).mono ?_
                rintro e W9 ⟨rfl, hdn, hb9⟩
                have HDN := Lib.hid (show PEnd f w v (.returned (.tuple #[])) W9 from ⟨⟨_, rfl⟩, hb9, .inl ⟨hst, _, hdn⟩⟩)
                clear hdn hb9 z0 z1 z2 z3 z4 z5 z6 z7 z8 z9 z10
                go_wp2
                go_end0
                exact HDN.out
              · have hD1 : D = 0 := by omega
                have HD1 := Lib.hid hD1
                clear hD1 hD0
                go_wp2_with fail
                refine (done_go f L w yb nb tb HAP.out ((next : Int) + 1) 0 ((next : Int) + 1) 0 W6 HP6.out (by rw [HD.out, HD1.out]; simp) (by omega) (by have := HWF.out.lc; have := HWF.out.fl; have := HWF.out.cF; have := HF.out; omega)).mono ?_
                rintro e W7 ⟨rfl, hp9, _, hk9⟩
                have HP7 := Lib.hid hp9
                have HB7 := Lib.hid (HB6.out.same (hk9 wb hwbt.out HB6.out.lt))
                clear hp9 hk9 z0 z1 z2 z3 z4 z5 z6 z7 z8 z9 z10
                obtain ⟨z0, z1, z2, z3, z4, z5, z6, z7, z8, z9, z10⟩ := HP7.out.cells
                rw [HPER.out] at z2
                by_cases h13 : next + 1 + 1 < first
                · have h13i : (next : Int) + 1 + 1 < (first : Int) := by omega
                  have HPf := Lib.hid (HP7.out.setN HAP.out (first : Int))
                  have HBf := Lib.hid (HB7.out.same (V := W7.setCell ⟨nb, 0, none⟩ (.int .u64 (first : Int))) (Below.heap_setCell _ _ _ _ (by have := hwbt.out; have := HAP.out.q5; show wb ≠ nb; omega)))
                  go_upto_region 15 with (fail)
                  generalize W7.setCell ⟨nb, 0, none⟩ (.int .u64 (first : Int)) = W8 at HPf HBf ⊢
                  have HVN := Lib.hid (show (if first = last then visits per D count ((L.map natW).drop (k + 1)) first (0 + len) else if 0 + m1 - s < D then true else visits per D count ((L.map natW).drop (k + 1)) last (s + len - m2)) = v by
                    have h := HWF.out.pre (r := (L.map natW).drop (k + 1)) (by omega) (by rw [if_pos ⟨hnf, ht⟩]; first | omega | (rw [HD1.out]; omega))
                    rw [HVI.out] at h
                    rw [h]
                    simp only [if_pos hnf])
                  have HTS := Lib.hid (show first * per + 0 ≤ s by have := HWF.out.f1; omega)
                  clear z0 z1 z2 z3 z4 z5 z6 z7 z8 z9 z10
                  obtain ⟨z0, z1, z2, z3, z4, z5, z6, z7, z8, z9, z10⟩ := HPf.out.cells
                  rw [HPER.out] at z2
                  obtain ⟨p0, p1, p2, pz⟩ := HBf.out
                  rw [HS.out] at p0
                  rw [HLN.out] at p1
                  by_cases c3 : first = last
                  · have c3i : ((first : Int) == (last : Int)) = true := by rw [c3]; exact beq_self_eq_true _
                    have hsum : (len : Int) ≤ 18446744073709551615 := by have := HF.out; have := HWF.out; have := this.lF; have := HWF.out.nt; have := HWF.out.bs; have := HTS.out; omega
                    have hnn : (0 : Int) ≤ 0 := by omega
                    have hln : (0 : Int) ≤ (len : Int) := by omega
                    have HPN := Lib.hid (HPf.out.setT HAP.out (len : Int))
                    have HRN := Lib.hid (show PRel f L w yb nb tb per D count F v (k + 1) (W8.setCell ⟨tb, 0, none⟩ (.int .u64 (len : Int))) from ⟨first, 0 + len, s + len, by have := HPN.out; simpa using this, by rw [← HVN.out, if_pos c3], HAN.out, by have := HWF.out.f1; have := HTS.out; omega⟩)
                    have c3h := Lib.hid c3
                    clear c3
                    go_wp2
                    go_roundw
                    case rel => exact ⟨k + 1, by omega, by go_num, HRN⟩
                    case measure => simp [intOf]; omega
                  · have c3i : ((first : Int) == (last : Int)) = false := by rw [beq_eq_false_iff_ne]; omega
                    have hfl : first < last := by have := HWF.out.fl; omega
                    have hmm := HWF.out.mm hfl
                    have hx1 : (0 : Int) ≤ (m1 : Int) - (s : Int) := by have := HWF.out.f2; omega
                    have hx2 : (m1 : Int) ≤ 18446744073709551615 := by have := HWF.out.mp hfl; have := HWF.out.me; have := HF.out; have := HTS.out; have := HWF.out.f2; omega
                    have hx3 : (first : Int) + 1 ≤ 18446744073709551615 := by have := HWF.out.fc; have := HWF.out.cF; have := HF.out; omega
                    have hx4 : (m1 : Int) ≤ 18446744073709551615 := by omega
                    have hm1 : ((first : Int) + 1) * (per : Int) = (m1 : Int) := by rw [← HWF.out.e3]; simp
                    have hw1 : IntKind.u64.wrap (m1 : Int) = (m1 : Int) := by rw [IntKind.wrap_u64]; omega
                    have hw2 : IntKind.u64.wrap ((m1 : Int)) = (m1 : Int) := by rw [IntKind.wrap_u64]; omega
                    have hw3 : IntKind.u64.wrap ((m1 : Int) - (s : Int)) = (m1 : Int) - (s : Int) := by rw [IntKind.wrap_u64]; omega
                    have hw4 : IntKind.u64.wrap ((first : Int) + 1) = (first : Int) + 1 := by rw [IntKind.wrap_u64]; omega
                    have HFL := Lib.hid hfl
                    have HMM := Lib.hid hmm
                    have C3 := Lib.hid c3
                    clear c3 hfl hmm
                    by_cases c4 : 0 + m1 - s < D
                    · exact absurd c4 (by rw [HD1.out]; omega)
                    · have C4 := Lib.hid c4
                      clear c4
                      go_wp2_with fail
                      refine (done_go f L w yb nb tb HAP.out (first : Int) 0 (first : Int) ((m1 : Int) - (s : Int)) W8 HPf.out (by rw [HD.out]; have := HWF.out.f2; have := C4.out; omega) (by omega) (by omega)).mono ?_
                      rintro e W9 ⟨rfl, hp9, _, hk9⟩
                      have HP9 := Lib.hid hp9
                      have HVM := Lib.hid (show visits per D count ((L.map natW).drop (k + 1)) last (s + len - m2) = v by rw [← HVN.out, if_neg C3.out, if_neg C4.out])
                      clear z0 z1 z2 z3 z4 z5 z6 z7 z8 z9 z10 p0 p1 p2 pz hp9 hk9 hx1 hx2 hm1 hw1 hw2 hw3
                      by_cases c5 : first + 1 < last
                      · have c5i : (first : Int) + 1 < (last : Int) := by omega
                        have C5 := Lib.hid c5
                        obtain ⟨z0, z1, z2, z3, z4, z5, z6, z7, z8, z9, z10⟩ := HP9.out.cells
                        rw [HPER.out] at z2
                        go_wp2_with fail
                        refine (done_go f L w yb nb tb HAP.out ((first : Int) + 1) 0 ((first : Int) + 1) (per : Int) W9 HP9.out (by rw [HD.out]; have := HDP.out; omega) (by omega) (by have := HWF.out.lc; have := HWF.out.cF; have := HF.out; omega)).mono ?_
                        rintro e W10 ⟨rfl, hp10, _, _⟩
                        have HP10 := Lib.hid hp10
                        clear z0 z1 z2 z3 z4 z5 z6 z7 z8 z9 z10 hp10
                        obtain ⟨z0, z1, z2, z3, z4, z5, z6, z7, z8, z9, z10⟩ := HP10.out.cells
                        rw [HPER.out] at z2
                        have hy1 : ((s : Int) + (len : Int)) - (m2 : Int) = ((s + len - m2 : Nat) : Int) := by have := HWF.out.l1; omega
                        have hy2 : (m2 : Int) ≤ 18446744073709551615 := by have := HWF.out.l1; have := HWF.out.lF; have := HF.out; omega
                        have hm2 : (last : Int) * (per : Int) = (m2 : Int) := by rw [← HWF.out.e4]; simp
                        have hv1 : IntKind.u64.wrap (m2 : Int) = (m2 : Int) := by rw [IntKind.wrap_u64]; omega
                        have hv2 : IntKind.u64.wrap ((s : Int) + (len : Int) - (m2 : Int)) = (s : Int) + (len : Int) - (m2 : Int) := by have := HWF.out.l1; have := HWF.out.lF; have := HF.out; rw [IntKind.wrap_u64]; omega
                        have hy3 : (0 : Int) ≤ (s : Int) + (len : Int) - (m2 : Int) := by have := HWF.out.l1; omega
                        have hv3 : IntKind.u64.wrap ((s + len - m2 : Nat) : Int) = ((s + len - m2 : Nat) : Int) := by rw [← hy1]; exact hv2
                        have hne : nb ≠ tb := by have := HAP.out.q5; omega
                        have hne2 : tb ≠ nb := fun e => hne e.symm
                        have sN := (HP10.out.setN HAP.out (last : Int)).cells
                        have sT := (HP10.out.setT HAP.out ((s + len - m2 : Nat) : Int)).cells
                        obtain ⟨_, y1, y2, _, _, _, y6, _⟩ := sN
                        obtain ⟨v0, _, v2, _, _, v5, _⟩ := sT
                        rw [HPER.out] at y2 v2
                        have HRN := Lib.hid (show PRel f L w yb nb tb per D count F v (k + 1) ((W10.setCell ⟨nb, 0, none⟩ (.int .u64 last)).setCell ⟨tb, 0, none⟩ (.int .u64 ((s + len - m2 : Nat) : Int))).drew from ⟨last, s + len - m2, s + len, ((HP10.out.setN HAP.out (last : Int)).setT HAP.out _).up (Below.drew (Below.refl _ _)), HVM.out, HAN.out, by have := HWF.out.l1; have := HWF.out.e4; omega⟩)
                        go_upto_region 19 with (fail)
                        go_region
                        all_goals
                          clear z0 z1 z2 z3 z4 z5 z6 z7 z8 z9 z10 y1 y2 y6 v0 v2 v5 hy1 hy2 hy3 hv1 hv2 hv3 hm2
                          go_wp2
                          go_roundw
                          case rel => exact ⟨k + 1, by omega, by go_num, HRN⟩
                          case measure => simp [intOf]; omega
                      · have c5b : decide ((first : Int) + 1 < (last : Int)) = false := decide_eq_false (by omega)
                        have C5 := Lib.hid c5
                        clear c5 hx3 hx4 hw4
                        obtain ⟨z0, z1, z2, z3, z4, z5, z6, z7, z8, z9, z10⟩ := HP9.out.cells
                        rw [HPER.out] at z2
                        go_upto_region 19 with (fail)
                        clear z0 z1 z2 z3 z4 z5 z6 z7 z8 z9 z10
                        obtain ⟨z0, z1, z2, z3, z4, z5, z6, z7, z8, z9, z10⟩ := HP9.out.cells
                        rw [HPER.out] at z2
                        have hy1 : ((s : Int) + (len : Int)) - (m2 : Int) = ((s + len - m2 : Nat) : Int) := by have := HWF.out.l1; omega
                        have hy2 : (m2 : Int) ≤ 18446744073709551615 := by have := HWF.out.l1; have := HWF.out.lF; have := HF.out; omega
                        have hm2 : (last : Int) * (per : Int) = (m2 : Int) := by rw [← HWF.out.e4]; simp
                        have hv1 : IntKind.u64.wrap (m2 : Int) = (m2 : Int) := by rw [IntKind.wrap_u64]; omega
                        have hv2 : IntKind.u64.wrap ((s : Int) + (len : Int) - (m2 : Int)) = (s : Int) + (len : Int) - (m2 : Int) := by have := HWF.out.l1; have := HWF.out.lF; have := HF.out; rw [IntKind.wrap_u64]; omega
                        have hy3 : (0 : Int) ≤ (s : Int) + (len : Int) - (m2 : Int) := by have := HWF.out.l1; omega
                        have hv3 : IntKind.u64.wrap ((s + len - m2 : Nat) : Int) = ((s + len - m2 : Nat) : Int) := by rw [← hy1]; exact hv2
                        have hne : nb ≠ tb := by have := HAP.out.q5; omega
                        have hne2 : tb ≠ nb := fun e => hne e.symm
                        have sN := (HP9.out.setN HAP.out (last : Int)).cells
                        have sT := (HP9.out.setT HAP.out ((s + len - m2 : Nat) : Int)).cells
                        obtain ⟨_, y1, y2, _, _, _, y6, _⟩ := sN
                        obtain ⟨v0, _, v2, _, _, v5, _⟩ := sT
                        rw [HPER.out] at y2 v2
                        have HRN := Lib.hid (show PRel f L w yb nb tb per D count F v (k + 1) ((W9.setCell ⟨nb, 0, none⟩ (.int .u64 last)).setCell ⟨tb, 0, none⟩ (.int .u64 ((s + len - m2 : Nat) : Int))).drew from ⟨last, s + len - m2, s + len, ((HP9.out.setN HAP.out (last : Int)).setT HAP.out _).up (Below.drew (Below.refl _ _)), HVM.out, HAN.out, by have := HWF.out.l1; have := HWF.out.e4; omega⟩)
                        go_upto_region 19 with (fail)
                        go_region
                        all_goals
                          clear z0 z1 z2 z3 z4 z5 z6 z7 z8 z9 z10 y1 y2 y6 v0 v2 v5 hy1 hy2 hy3 hv1 hv2 hv3 hm2
                          go_wp2
                          go_roundw
                          case rel => exact ⟨k + 1, by omega, by go_num, HRN⟩
                          case measure => simp [intOf]; omega
                · have h13i : ¬ (next : Int) + 1 + 1 < (first : Int) := by omega
                  have HPf := Lib.hid (show DPs f L w yb nb tb (first : Int) 0 W7 by have := HP7.out; rwa [show (next : Int) + 1 + 1 = (first : Int) from by omega] at this)
                  go_upto_region 15 with (fail)
                  have HVN := Lib.hid (show (if first = last then visits per D count ((L.map natW).drop (k + 1)) first (0 + len) else if 0 + m1 - s < D then true else visits per D count ((L.map natW).drop (k + 1)) last (s + len - m2)) = v by
                    have h := HWF.out.pre (r := (L.map natW).drop (k + 1)) (by omega) (by rw [if_pos ⟨hnf, ht⟩]; first | omega | (rw [HD1.out]; omega))
                    rw [HVI.out] at h
                    rw [h]
                    simp only [if_pos hnf])
                  have HTS := Lib.hid (show first * per + 0 ≤ s by have := HWF.out.f1; omega)
                  clear z0 z1 z2 z3 z4 z5 z6 z7 z8 z9 z10
                  obtain ⟨z0, z1, z2, z3, z4, z5, z6, z7, z8, z9, z10⟩ := HPf.out.cells
                  rw [HPER.out] at z2
                  obtain ⟨p0, p1, p2, pz⟩ := HB7.out
                  rw [HS.out] at p0
                  rw [HLN.out] at p1
                  by_cases c3 : first = last
                  · have c3i : ((first : Int) == (last : Int)) = true := by rw [c3]; exact beq_self_eq_true _
                    have hsum : (len : Int) ≤ 18446744073709551615 := by have := HF.out; have := HWF.out; have := this.lF; have := HWF.out.nt; have := HWF.out.bs; have := HTS.out; omega
                    have hnn : (0 : Int) ≤ 0 := by omega
                    have hln : (0 : Int) ≤ (len : Int) := by omega
                    have HPN := Lib.hid (HPf.out.setT HAP.out (len : Int))
                    have HRN := Lib.hid (show PRel f L w yb nb tb per D count F v (k + 1) (W7.setCell ⟨tb, 0, none⟩ (.int .u64 (len : Int))) from ⟨first, 0 + len, s + len, by have := HPN.out; simpa using this, by rw [← HVN.out, if_pos c3], HAN.out, by have := HWF.out.f1; have := HTS.out; omega⟩)
                    have c3h := Lib.hid c3
                    clear c3
                    go_wp2
                    go_roundw
                    case rel => exact ⟨k + 1, by omega, by go_num, HRN⟩
                    case measure => simp [intOf]; omega
                  · have c3i : ((first : Int) == (last : Int)) = false := by rw [beq_eq_false_iff_ne]; omega
                    have hfl : first < last := by have := HWF.out.fl; omega
                    have hmm := HWF.out.mm hfl
                    have hx1 : (0 : Int) ≤ (m1 : Int) - (s : Int) := by have := HWF.out.f2; omega
                    have hx2 : (m1 : Int) ≤ 18446744073709551615 := by have := HWF.out.mp hfl; have := HWF.out.me; have := HF.out; have := HTS.out; have := HWF.out.f2; omega
                    have hx3 : (first : Int) + 1 ≤ 18446744073709551615 := by have := HWF.out.fc; have := HWF.out.cF; have := HF.out; omega
                    have hx4 : (m1 : Int) ≤ 18446744073709551615 := by omega
                    have hm1 : ((first : Int) + 1) * (per : Int) = (m1 : Int) := by rw [← HWF.out.e3]; simp
                    have hw1 : IntKind.u64.wrap (m1 : Int) = (m1 : Int) := by rw [IntKind.wrap_u64]; omega
                    have hw2 : IntKind.u64.wrap ((m1 : Int)) = (m1 : Int) := by rw [IntKind.wrap_u64]; omega
                    have hw3 : IntKind.u64.wrap ((m1 : Int) - (s : Int)) = (m1 : Int) - (s : Int) := by rw [IntKind.wrap_u64]; omega
                    have hw4 : IntKind.u64.wrap ((first : Int) + 1) = (first : Int) + 1 := by rw [IntKind.wrap_u64]; omega
                    have HFL := Lib.hid hfl
                    have HMM := Lib.hid hmm
                    have C3 := Lib.hid c3
                    clear c3 hfl hmm
                    by_cases c4 : 0 + m1 - s < D
                    · exact absurd c4 (by rw [HD1.out]; omega)
                    · have C4 := Lib.hid c4
                      clear c4
                      go_wp2_with fail
                      refine (done_go f L w yb nb tb HAP.out (first : Int) 0 (first : Int) ((m1 : Int) - (s : Int)) W7 HPf.out (by rw [HD.out]; have := HWF.out.f2; have := C4.out; omega) (by omega) (by omega)).mono ?_
                      rintro e W9 ⟨rfl, hp9, _, hk9⟩
                      have HP9 := Lib.hid hp9
                      have HVM := Lib.hid (show visits per D count ((L.map natW).drop (k + 1)) last (s + len - m2) = v by rw [← HVN.out, if_neg C3.out, if_neg C4.out])
                      clear z0 z1 z2 z3 z4 z5 z6 z7 z8 z9 z10 p0 p1 p2 pz hp9 hk9 hx1 hx2 hm1 hw1 hw2 hw3
                      by_cases c5 : first + 1 < last
                      · have c5i : (first : Int) + 1 < (last : Int) := by omega
                        have C5 := Lib.hid c5
                        obtain ⟨z0, z1, z2, z3, z4, z5, z6, z7, z8, z9, z10⟩ := HP9.out.cells
                        rw [HPER.out] at z2
                        go_wp2_with fail
                        refine (done_go f L w yb nb tb HAP.out ((first : Int) + 1) 0 ((first : Int) + 1) (per : Int) W9 HP9.out (by rw [HD.out]; have := HDP.out; omega) (by omega) (by have := HWF.out.lc; have := HWF.out.cF; have := HF.out; omega)).mono ?_
                        rintro e W10 ⟨rfl, hp10, _, _⟩
                        have HP10 := Lib.hid hp10
                        clear z0 z1 z2 z3 z4 z5 z6 z7 z8 z9 z10 hp10
                        obtain ⟨z0, z1, z2, z3, z4, z5, z6, z7, z8, z9, z10⟩ := HP10.out.cells
                        rw [HPER.out] at z2
                        have hy1 : ((s : Int) + (len : Int)) - (m2 : Int) = ((s + len - m2 : Nat) : Int) := by have := HWF.out.l1; omega
                        have hy2 : (m2 : Int) ≤ 18446744073709551615 := by have := HWF.out.l1; have := HWF.out.lF; have := HF.out; omega
                        have hm2 : (last : Int) * (per : Int) = (m2 : Int) := by rw [← HWF.out.e4]; simp
                        have hv1 : IntKind.u64.wrap (m2 : Int) = (m2 : Int) := by rw [IntKind.wrap_u64]; omega
                        have hv2 : IntKind.u64.wrap ((s : Int) + (len : Int) - (m2 : Int)) = (s : Int) + (len : Int) - (m2 : Int) := by have := HWF.out.l1; have := HWF.out.lF; have := HF.out; rw [IntKind.wrap_u64]; omega
                        have hy3 : (0 : Int) ≤ (s : Int) + (len : Int) - (m2 : Int) := by have := HWF.out.l1; omega
                        have hv3 : IntKind.u64.wrap ((s + len - m2 : Nat) : Int) = ((s + len - m2 : Nat) : Int) := by rw [← hy1]; exact hv2
                        have hne : nb ≠ tb := by have := HAP.out.q5; omega
                        have hne2 : tb ≠ nb := fun e => hne e.symm
                        have sN := (HP10.out.setN HAP.out (last : Int)).cells
                        have sT := (HP10.out.setT HAP.out ((s + len - m2 : Nat) : Int)).cells
                        obtain ⟨_, y1, y2, _, _, _, y6, _⟩ := sN
                        obtain ⟨v0, _, v2, _, _, v5, _⟩ := sT
                        rw [HPER.out] at y2 v2
                        have HRN := Lib.hid (show PRel f L w yb nb tb per D count F v (k + 1) ((W10.setCell ⟨nb, 0, none⟩ (.int .u64 last)).setCell ⟨tb, 0, none⟩ (.int .u64 ((s + len - m2 : Nat) : Int))).drew from ⟨last, s + len - m2, s + len, ((HP10.out.setN HAP.out (last : Int)).setT HAP.out _).up (Below.drew (Below.refl _ _)), HVM.out, HAN.out, by have := HWF.out.l1; have := HWF.out.e4; omega⟩)
                        go_upto_region 19 with (fail)
                        go_region
                        all_goals
                          clear z0 z1 z2 z3 z4 z5 z6 z7 z8 z9 z10 y1 y2 y6 v0 v2 v5 hy1 hy2 hy3 hv1 hv2 hv3 hm2
                          go_wp2
                          go_roundw
                          case rel => exact ⟨k + 1, by omega, by go_num, HRN⟩
                          case measure => simp [intOf]; omega
                      · have c5b : decide ((first : Int) + 1 < (last : Int)) = false := decide_eq_false (by omega)
                        have C5 := Lib.hid c5
                        clear c5 hx3 hx4 hw4
                        obtain ⟨z0, z1, z2, z3, z4, z5, z6, z7, z8, z9, z10⟩ := HP9.out.cells
                        rw [HPER.out] at z2
                        go_upto_region 19 with (fail)
                        clear z0 z1 z2 z3 z4 z5 z6 z7 z8 z9 z10
                        obtain ⟨z0, z1, z2, z3, z4, z5, z6, z7, z8, z9, z10⟩ := HP9.out.cells
                        rw [HPER.out] at z2
                        have hy1 : ((s : Int) + (len : Int)) - (m2 : Int) = ((s + len - m2 : Nat) : Int) := by have := HWF.out.l1; omega
                        have hy2 : (m2 : Int) ≤ 18446744073709551615 := by have := HWF.out.l1; have := HWF.out.lF; have := HF.out; omega
                        have hm2 : (last : Int) * (per : Int) = (m2 : Int) := by rw [← HWF.out.e4]; simp
                        have hv1 : IntKind.u64.wrap (m2 : Int) = (m2 : Int) := by rw [IntKind.wrap_u64]; omega
                        have hv2 : IntKind.u64.wrap ((s : Int) + (len : Int) - (m2 : Int)) = (s : Int) + (len : Int) - (m2 : Int) := by have := HWF.out.l1; have := HWF.out.lF; have := HF.out; rw [IntKind.wrap_u64]; omega
                        have hy3 : (0 : Int) ≤ (s : Int) + (len : Int) - (m2 : Int) := by have := HWF.out.l1; omega
                        have hv3 : IntKind.u64.wrap ((s + len - m2 : Nat) : Int) = ((s + len - m2 : Nat) : Int) := by rw [← hy1]; exact hv2
                        have hne : nb ≠ tb := by have := HAP.out.q5; omega
                        have hne2 : tb ≠ nb := fun e => hne e.symm
                        have sN := (HP9.out.setN HAP.out (last : Int)).cells
                        have sT := (HP9.out.setT HAP.out ((s + len - m2 : Nat) : Int)).cells
                        obtain ⟨_, y1, y2, _, _, _, y6, _⟩ := sN
                        obtain ⟨v0, _, v2, _, _, v5, _⟩ := sT
                        rw [HPER.out] at y2 v2
                        have HRN := Lib.hid (show PRel f L w yb nb tb per D count F v (k + 1) ((W9.setCell ⟨nb, 0, none⟩ (.int .u64 last)).setCell ⟨tb, 0, none⟩ (.int .u64 ((s + len - m2 : Nat) : Int))).drew from ⟨last, s + len - m2, s + len, ((HP9.out.setN HAP.out (last : Int)).setT HAP.out _).up (Below.drew (Below.refl _ _)), HVM.out, HAN.out, by have := HWF.out.l1; have := HWF.out.e4; omega⟩)
                        go_upto_region 19 with (fail)
                        go_region
                        all_goals
                          clear z0 z1 z2 z3 z4 z5 z6 z7 z8 z9 z10 y1 y2 y6 v0 v2 v5 hy1 hy2 hy3 hv1 hv2 hv3 hm2
                          go_wp2
                          go_roundw
                          case rel => exact ⟨k + 1, by omega, by go_num, HRN⟩
                          case measure => simp [intOf]; omega
            · have h12i : ¬ (next : Int) + 1 < (first : Int) := by omega
              have HPf := Lib.hid (show DPs f L w yb nb tb (first : Int) 0 W6 by have := HP6.out; rwa [show (next : Int) + 1 = (first : Int) from by omega] at this)
              clear z0 z1 z2 z3 z4 z5 z6 z7 z8 z9 z10
              obtain ⟨z0, z1, z2, z3, z4, z5, z6, z7, z8, z9, z10⟩ := HPf.out.cells
              rw [HPER.out] at z2
              have h0f : (next : Int) + 1 = (first : Int) := by omega
              go_upto_region 15 with (fail)
              clear h0f
              have HVN := Lib.hid (show (if first = last then visits per D count ((L.map natW).drop (k + 1)) first (0 + len) else if 0 + m1 - s < D then true else visits per D count ((L.map natW).drop (k + 1)) last (s + len - m2)) = v by
                have h := HWF.out.pre (r := (L.map natW).drop (k + 1)) (by omega) (by rw [if_pos ⟨hnf, ht⟩]; first | omega | (rw [HD1.out]; omega))
                rw [HVI.out] at h
                rw [h]
                simp only [if_pos hnf])
              have HTS := Lib.hid (show first * per + 0 ≤ s by have := HWF.out.f1; omega)
              clear z0 z1 z2 z3 z4 z5 z6 z7 z8 z9 z10
              obtain ⟨z0, z1, z2, z3, z4, z5, z6, z7, z8, z9, z10⟩ := HPf.out.cells
              rw [HPER.out] at z2
              obtain ⟨p0, p1, p2, pz⟩ := HB6.out
              rw [HS.out] at p0
              rw [HLN.out] at p1
              by_cases c3 : first = last
              · have c3i : ((first : Int) == (last : Int)) = true := by rw [c3]; exact beq_self_eq_true _
                have hsum : (len : Int) ≤ 18446744073709551615 := by have := HF.out; have := HWF.out; have := this.lF; have := HWF.out.nt; have := HWF.out.bs; have := HTS.out; omega
                have hnn : (0 : Int) ≤ 0 := by omega
                have hln : (0 : Int) ≤ (len : Int) := by omega
                have HPN := Lib.hid (HPf.out.setT HAP.out (len : Int))
                have HRN := Lib.hid (show PRel f L w yb nb tb per D count F v (k + 1) (W6.setCell ⟨tb, 0, none⟩ (.int .u64 (len : Int))) from ⟨first, 0 + len, s + len, by have := HPN.out; simpa using this, by rw [← HVN.out, if_pos c3], HAN.out, by have := HWF.out.f1; have := HTS.out; omega⟩)
                have c3h := Lib.hid c3
                clear c3
                go_wp2
                go_roundw
                case rel => exact ⟨k + 1, by omega, by go_num, HRN⟩
                case measure => simp [intOf]; omega
              · have c3i : ((first : Int) == (last : Int)) = false := by rw [beq_eq_false_iff_ne]; omega
                have hfl : first < last := by have := HWF.out.fl; omega
                have hmm := HWF.out.mm hfl
                have hx1 : (0 : Int) ≤ (m1 : Int) - (s : Int) := by have := HWF.out.f2; omega
                have hx2 : (m1 : Int) ≤ 18446744073709551615 := by have := HWF.out.mp hfl; have := HWF.out.me; have := HF.out; have := HTS.out; have := HWF.out.f2; omega
                have hx3 : (first : Int) + 1 ≤ 18446744073709551615 := by have := HWF.out.fc; have := HWF.out.cF; have := HF.out; omega
                have hx4 : (m1 : Int) ≤ 18446744073709551615 := by omega
                have hm1 : ((first : Int) + 1) * (per : Int) = (m1 : Int) := by rw [← HWF.out.e3]; simp
                have hw1 : IntKind.u64.wrap (m1 : Int) = (m1 : Int) := by rw [IntKind.wrap_u64]; omega
                have hw2 : IntKind.u64.wrap ((m1 : Int)) = (m1 : Int) := by rw [IntKind.wrap_u64]; omega
                have hw3 : IntKind.u64.wrap ((m1 : Int) - (s : Int)) = (m1 : Int) - (s : Int) := by rw [IntKind.wrap_u64]; omega
                have hw4 : IntKind.u64.wrap ((first : Int) + 1) = (first : Int) + 1 := by rw [IntKind.wrap_u64]; omega
                have HFL := Lib.hid hfl
                have HMM := Lib.hid hmm
                have C3 := Lib.hid c3
                clear c3 hfl hmm
                by_cases c4 : 0 + m1 - s < D
                · have hst : v = true := by rw [← HVN.out, if_neg C3.out, if_pos c4]
                  have C4 := Lib.hid c4
                  clear c4
                  go_wp2_with fail
                  refine (done_no f L w yb nb tb HAP.out (first : Int) 0 (first : Int) ((m1 : Int) - (s : Int)) W6 HPf.out (by rw [HD.out]; have := HWF.out.f2; have := C4.out; omega) (by omega) (by omega)).mono ?_
                  rintro e W9 ⟨rfl, hdn, hb9⟩
                  have HDN := Lib.hid (show PEnd f w v (.returned (.tuple #[])) W9 from ⟨⟨_, rfl⟩, hb9, .inl ⟨hst, _, hdn⟩⟩)
                  clear hdn hb9 hst z0 z1 z2 z3 z4 z5 z6 z7 z8 z9 z10 p0 p1 p2 pz
                  go_wp2
                  go_end0
                  exact HDN.out
                · have C4 := Lib.hid c4
                  clear c4
                  go_wp2_with fail
                  refine (done_go f L w yb nb tb HAP.out (first : Int) 0 (first : Int) ((m1 : Int) - (s : Int)) W6 HPf.out (by rw [HD.out]; have := HWF.out.f2; have := C4.out; omega) (by omega) (by omega)).mono ?_
                  rintro e W9 ⟨rfl, hp9, _, hk9⟩
                  have HP9 := Lib.hid hp9
                  have HVM := Lib.hid (show visits per D count ((L.map natW).drop (k + 1)) last (s + len - m2) = v by rw [← HVN.out, if_neg C3.out, if_neg C4.out])
                  clear z0 z1 z2 z3 z4 z5 z6 z7 z8 z9 z10 p0 p1 p2 pz hp9 hk9 hx1 hx2 hm1 hw1 hw2 hw3
                  by_cases c5 : first + 1 < last
                  · have c5i : (first : Int) + 1 < (last : Int) := by omega
                    have C5 := Lib.hid c5
                    obtain ⟨z0, z1, z2, z3, z4, z5, z6, z7, z8, z9, z10⟩ := HP9.out.cells
                    rw [HPER.out] at z2
                    go_wp2_with fail
                    refine (done_go f L w yb nb tb HAP.out ((first : Int) + 1) 0 ((first : Int) + 1) (per : Int) W9 HP9.out (by rw [HD.out]; have := HDP.out; omega) (by omega) (by have := HWF.out.lc; have := HWF.out.cF; have := HF.out; omega)).mono ?_
                    rintro e W10 ⟨rfl, hp10, _, _⟩
                    have HP10 := Lib.hid hp10
                    clear z0 z1 z2 z3 z4 z5 z6 z7 z8 z9 z10 hp10
                    obtain ⟨z0, z1, z2, z3, z4, z5, z6, z7, z8, z9, z10⟩ := HP10.out.cells
                    rw [HPER.out] at z2
                    have hy1 : ((s : Int) + (len : Int)) - (m2 : Int) = ((s + len - m2 : Nat) : Int) := by have := HWF.out.l1; omega
                    have hy2 : (m2 : Int) ≤ 18446744073709551615 := by have := HWF.out.l1; have := HWF.out.lF; have := HF.out; omega
                    have hm2 : (last : Int) * (per : Int) = (m2 : Int) := by rw [← HWF.out.e4]; simp
                    have hv1 : IntKind.u64.wrap (m2 : Int) = (m2 : Int) := by rw [IntKind.wrap_u64]; omega
                    have hv2 : IntKind.u64.wrap ((s : Int) + (len : Int) - (m2 : Int)) = (s : Int) + (len : Int) - (m2 : Int) := by have := HWF.out.l1; have := HWF.out.lF; have := HF.out; rw [IntKind.wrap_u64]; omega
                    have hy3 : (0 : Int) ≤ (s : Int) + (len : Int) - (m2 : Int) := by have := HWF.out.l1; omega
                    have hv3 : IntKind.u64.wrap ((s + len - m2 : Nat) : Int) = ((s + len - m2 : Nat) : Int) := by rw [← hy1]; exact hv2
                    have hne : nb ≠ tb := by have := HAP.out.q5; omega
                    have hne2 : tb ≠ nb := fun e => hne e.symm
                    have sN := (HP10.out.setN HAP.out (last : Int)).cells
                    have sT := (HP10.out.setT HAP.out ((s + len - m2 : Nat) : Int)).cells
                    obtain ⟨_, y1, y2, _, _, _, y6, _⟩ := sN
                    obtain ⟨v0, _, v2, _, _, v5, _⟩ := sT
                    rw [HPER.out] at y2 v2
                    have HRN := Lib.hid (show PRel f L w yb nb tb per D count F v (k + 1) ((W10.setCell ⟨nb, 0, none⟩ (.int .u64 last)).setCell ⟨tb, 0, none⟩ (.int .u64 ((s + len - m2 : Nat) : Int))).drew from ⟨last, s + len - m2, s + len, ((HP10.out.setN HAP.out (last : Int)).setT HAP.out _).up (Below.drew (Below.refl _ _)), HVM.out, HAN.out, by have := HWF.out.l1; have := HWF.out.e4; omega⟩)
                    go_upto_region 19 with (fail)
                    go_region
                    all_goals
                      clear z0 z1 z2 z3 z4 z5 z6 z7 z8 z9 z10 y1 y2 y6 v0 v2 v5 hy1 hy2 hy3 hv1 hv2 hv3 hm2
                      go_wp2
                      go_roundw
                      case rel => exact ⟨k + 1, by omega, by go_num, HRN⟩
                      case measure => simp [intOf]; omega
                  · have c5b : decide ((first : Int) + 1 < (last : Int)) = false := decide_eq_false (by omega)
                    have C5 := Lib.hid c5
                    clear c5 hx3 hx4 hw4
                    obtain ⟨z0, z1, z2, z3, z4, z5, z6, z7, z8, z9, z10⟩ := HP9.out.cells
                    rw [HPER.out] at z2
                    go_upto_region 19 with (fail)
                    clear z0 z1 z2 z3 z4 z5 z6 z7 z8 z9 z10
                    obtain ⟨z0, z1, z2, z3, z4, z5, z6, z7, z8, z9, z10⟩ := HP9.out.cells
                    rw [HPER.out] at z2
                    have hy1 : ((s : Int) + (len : Int)) - (m2 : Int) = ((s + len - m2 : Nat) : Int) := by have := HWF.out.l1; omega
                    have hy2 : (m2 : Int) ≤ 18446744073709551615 := by have := HWF.out.l1; have := HWF.out.lF; have := HF.out; omega
                    have hm2 : (last : Int) * (per : Int) = (m2 : Int) := by rw [← HWF.out.e4]; simp
                    have hv1 : IntKind.u64.wrap (m2 : Int) = (m2 : Int) := by rw [IntKind.wrap_u64]; omega
                    have hv2 : IntKind.u64.wrap ((s : Int) + (len : Int) - (m2 : Int)) = (s : Int) + (len : Int) - (m2 : Int) := by have := HWF.out.l1; have := HWF.out.lF; have := HF.out; rw [IntKind.wrap_u64]; omega
                    have hy3 : (0 : Int) ≤ (s : Int) + (len : Int) - (m2 : Int) := by have := HWF.out.l1; omega
                    have hv3 : IntKind.u64.wrap ((s + len - m2 : Nat) : Int) = ((s + len - m2 : Nat) : Int) := by rw [← hy1]; exact hv2
                    have hne : nb ≠ tb := by have := HAP.out.q5; omega
                    have hne2 : tb ≠ nb := fun e => hne e.symm
                    have sN := (HP9.out.setN HAP.out (last : Int)).cells
                    have sT := (HP9.out.setT HAP.out ((s + len - m2 : Nat) : Int)).cells
                    obtain ⟨_, y1, y2, _, _, _, y6, _⟩ := sN
                    obtain ⟨v0, _, v2, _, _, v5, _⟩ := sT
                    rw [HPER.out] at y2 v2
                    have HRN := Lib.hid (show PRel f L w yb nb tb per D count F v (k + 1) ((W9.setCell ⟨nb, 0, none⟩ (.int .u64 last)).setCell ⟨tb, 0, none⟩ (.int .u64 ((s + len - m2 : Nat) : Int))).drew from ⟨last, s + len - m2, s + len, ((HP9.out.setN HAP.out (last : Int)).setT HAP.out _).up (Below.drew (Below.refl _ _)), HVM.out, HAN.out, by have := HWF.out.l1; have := HWF.out.e4; omega⟩)
                    go_upto_region 19 with (fail)
                    go_region
                    all_goals
                      clear z0 z1 z2 z3 z4 z5 z6 z7 z8 z9 z10 y1 y2 y6 v0 v2 v5 hy1 hy2 hy3 hv1 hv2 hv3 hm2
                      go_wp2
                      go_roundw
                      case rel => exact ⟨k + 1, by omega, by go_num, HRN⟩
                      case measure => simp [intOf]; omega
        · obtain rfl : t = 0 := by omega
          have HP5' := Lib.hid (show DPs f L w yb nb tb (next : Int) 0 W5 by have := HP5.out; simpa using this)
          clear z0 z1 z2 z3 z4 z5 z6 z7 z8 z9 z10
          obtain ⟨z0, z1, z2, z3, z4, z5, z6, z7, z8, z9, z10⟩ := HP5'.out.cells
          rw [HPER.out] at z2
          by_cases hD0 : 0 < D
          · have hst : v = true := by rw [← HVI.out]; exact HWF.out.stop2 hnf rfl hD0
            go_wp2_with fail
            refine (done_no f L w yb nb tb HAP.out (next : Int) 0 (next : Int) 0 W5 HP5'.out (by rw [HD.out]; omega) (by omega) (by have := HWF.out.lc; have := HWF.out.fl; have := HWF.out.cF; have := HF.out; omega)).mono ?_
            rintro e W9 ⟨rfl, hdn, hb9⟩
            have HDN := Lib.hid (show PEnd f w v (.returned (.tuple #[])) W9 from ⟨⟨_, rfl⟩, hb9, .inl ⟨hst, _, hdn⟩⟩)
            clear hdn hb9 z0 z1 z2 z3 z4 z5 z6 z7 z8 z9 z10
            go_wp2
            go_end0
            exact HDN.out
          · have hD1 : D = 0 := by omega
            have HD1 := Lib.hid hD1
            clear hD1 hD0
            go_wp2_with fail
            refine (done_go f L w yb nb tb HAP.out (next : Int) 0 (next : Int) 0 W5 HP5'.out (by rw [HD.out, HD1.out]; simp) (by omega) (by have := HWF.out.lc; have := HWF.out.fl; have := HWF.out.cF; have := HF.out; omega)).mono ?_
            rintro e W6 ⟨rfl, hp9, _, hk9⟩
            have HP6 := Lib.hid hp9
            have HB6 := Lib.hid (HB5.out.same (hk9 wb hwbt.out HB5.out.lt))
            clear hp9 hk9 z0 z1 z2 z3 z4 z5 z6 z7 z8 z9 z10
            obtain ⟨z0, z1, z2, z3, z4, z5, z6, z7, z8, z9, z10⟩ := HP6.out.cells
            rw [HPER.out] at z2
            by_cases h13 : next + 1 < first
            · have h13i : (next : Int) + 1 < (first : Int) := by omega
              have HPf := Lib.hid (HP6.out.setN HAP.out (first : Int))
              have HBf := Lib.hid (HB6.out.same (V := W6.setCell ⟨nb, 0, none⟩ (.int .u64 (first : Int))) (Below.heap_setCell _ _ _ _ (by have := hwbt.out; have := HAP.out.q5; show wb ≠ nb; omega)))
              go_upto_region 15 with (fail)
              generalize W6.setCell ⟨nb, 0, none⟩ (.int .u64 (first : Int)) = W8 at HPf HBf ⊢
              have HVN := Lib.hid (show (if first = last then visits per D count ((L.map natW).drop (k + 1)) first (0 + len) else if 0 + m1 - s < D then true else visits per D count ((L.map natW).drop (k + 1)) last (s + len - m2)) = v by
                have h := HWF.out.pre (r := (L.map natW).drop (k + 1)) (by omega) (by rw [if_neg (by omega)]; first | omega | (rw [HD1.out]; omega))
                rw [HVI.out] at h
                rw [h]
                simp only [if_pos hnf])
              have HTS := Lib.hid (show first * per + 0 ≤ s by have := HWF.out.f1; omega)
              clear z0 z1 z2 z3 z4 z5 z6 z7 z8 z9 z10
              obtain ⟨z0, z1, z2, z3, z4, z5, z6, z7, z8, z9, z10⟩ := HPf.out.cells
              rw [HPER.out] at z2
              obtain ⟨p0, p1, p2, pz⟩ := HBf.out
              rw [HS.out] at p0
              rw [HLN.out] at p1
              by_cases c3 : first = last
              · have c3i : ((first : Int) == (last : Int)) = true := by rw [c3]; exact beq_self_eq_true _
                have hsum : (len : Int) ≤ 18446744073709551615 := by have := HF.out; have := HWF.out; have := this.lF; have := HWF.out.nt; have := HWF.out.bs; have := HTS.out; omega
                have hnn : (0 : Int) ≤ 0 := by omega
                have hln : (0 : Int) ≤ (len : Int) := by omega
                have HPN := Lib.hid (HPf.out.setT HAP.out (len : Int))
                have HRN := Lib.hid (show PRel f L w yb nb tb per D count F v (k + 1) (W8.setCell ⟨tb, 0, none⟩ (.int .u64 (len : Int))) from ⟨first, 0 + len, s + len, by have := HPN.out; simpa using this, by rw [← HVN.out, if_pos c3], HAN.out, by have := HWF.out.f1; have := HTS.out; omega⟩)
                have c3h := Lib.hid c3
                clear c3
                go_wp2
                go_roundw
                case rel => exact ⟨k + 1, by omega, by go_num, HRN⟩
                case measure => simp [intOf]; omega
              · have c3i : ((first : Int) == (last : Int)) = false := by rw [beq_eq_false_iff_ne]; omega
                have hfl : first < last := by have := HWF.out.fl; omega
                have hmm := HWF.out.mm hfl
                have hx1 : (0 : Int) ≤ (m1 : Int) - (s : Int) := by have := HWF.out.f2; omega
                have hx2 : (m1 : Int) ≤ 18446744073709551615 := by have := HWF.out.mp hfl; have := HWF.out.me; have := HF.out; have := HTS.out; have := HWF.out.f2; omega
                have hx3 : (first : Int) + 1 ≤ 18446744073709551615 := by have := HWF.out.fc; have := HWF.out.cF; have := HF.out; omega
                have hx4 : (m1 : Int) ≤ 18446744073709551615 := by omega
                have hm1 : ((first : Int) + 1) * (per : Int) = (m1 : Int) := by rw [← HWF.out.e3]; simp
                have hw1 : IntKind.u64.wrap (m1 : Int) = (m1 : Int) := by rw [IntKind.wrap_u64]; omega
                have hw2 : IntKind.u64.wrap ((m1 : Int)) = (m1 : Int) := by rw [IntKind.wrap_u64]; omega
                have hw3 : IntKind.u64.wrap ((m1 : Int) - (s : Int)) = (m1 : Int) - (s : Int) := by rw [IntKind.wrap_u64]; omega
                have hw4 : IntKind.u64.wrap ((first : Int) + 1) = (first : Int) + 1 := by rw [IntKind.wrap_u64]; omega
                have HFL := Lib.hid hfl
                have HMM := Lib.hid hmm
                have C3 := Lib.hid c3
                clear c3 hfl hmm
                by_cases c4 : 0 + m1 - s < D
                · exact absurd c4 (by rw [HD1.out]; omega)
                · have C4 := Lib.hid c4
                  clear c4
                  go_wp2_with fail
                  refine (done_go f L w yb nb tb HAP.out (first : Int) 0 (first : Int) ((m1 : Int) - (s : Int)) W8 HPf.out (by rw [HD.out]; have := HWF.out.f2; have := C4.out; omega) (by omega) (by omega)).mono ?_
                  rintro e W9 ⟨rfl, hp9, _, hk9⟩
                  have HP9 := Lib.hid hp9
                  have HVM := Lib.hid (show visits per D count ((L.map natW).drop (k + 1)) last (s + len - m2) = v by rw [← HVN.out, if_neg C3.out, if_neg C4.out])
                  clear z0 z1 z2 z3 z4 z5 z6 z7 z8 z9 z10 p0 p1 p2 pz hp9 hk9 hx1 hx2 hm1 hw1 hw2 hw3
                  by_cases c5 : first + 1 < last
                  · have c5i : (first : Int) + 1 < (last : Int) := by omega
                    have C5 := Lib.hid c5
                    obtain ⟨z0, z1, z2, z3, z4, z5, z6, z7, z8, z9, z10⟩ := HP9.out.cells
                    rw [HPER.out] at z2
                    go_wp2_with fail
                    refine (done_go f L w yb nb tb HAP.out ((first : Int) + 1) 0 ((first : Int) + 1) (per : Int) W9 HP9.out (by rw [HD.out]; have := HDP.out; omega) (by omega) (by have := HWF.out.lc; have := HWF.out.cF; have := HF.out; omega)).mono ?_
                    rintro e W10 ⟨rfl, hp10, _, _⟩
                    have HP10 := Lib.hid hp10
                    clear z0 z1 z2 z3 z4 z5 z6 z7 z8 z9 z10 hp10
                    obtain ⟨z0, z1, z2, z3, z4, z5, z6, z7, z8, z9, z10⟩ := HP10.out.cells
                    rw [HPER.out] at z2
                    have hy1 : ((s : Int) + (len : Int)) - (m2 : Int) = ((s + len - m2 : Nat) : Int) := by have := HWF.out.l1; omega
                    have hy2 : (m2 : Int) ≤ 18446744073709551615 := by have := HWF.out.l1; have := HWF.out.lF; have := HF.out; omega
                    have hm2 : (last : Int) * (per : Int) = (m2 : Int) := by rw [← HWF.out.e4]; simp
                    have hv1 : IntKind.u64.wrap (m2 : Int) = (m2 : Int) := by rw [IntKind.wrap_u64]; omega
                    have hv2 : IntKind.u64.wrap ((s : Int) + (len : Int) - (m2 : Int)) = (s : Int) + (len : Int) - (m2 : Int) := by have := HWF.out.l1; have := HWF.out.lF; have := HF.out; rw [IntKind.wrap_u64]; omega
                    have hy3 : (0 : Int) ≤ (s : Int) + (len : Int) - (m2 : Int) := by have := HWF.out.l1; omega
                    have hv3 : IntKind.u64.wrap ((s + len - m2 : Nat) : Int) = ((s + len - m2 : Nat) : Int) := by rw [← hy1]; exact hv2
                    have hne : nb ≠ tb := by have := HAP.out.q5; omega
                    have hne2 : tb ≠ nb := fun e => hne e.symm
                    have sN := (HP10.out.setN HAP.out (last : Int)).cells
                    have sT := (HP10.out.setT HAP.out ((s + len - m2 : Nat) : Int)).cells
                    obtain ⟨_, y1, y2, _, _, _, y6, _⟩ := sN
                    obtain ⟨v0, _, v2, _, _, v5, _⟩ := sT
                    rw [HPER.out] at y2 v2
                    have HRN := Lib.hid (show PRel f L w yb nb tb per D count F v (k + 1) ((W10.setCell ⟨nb, 0, none⟩ (.int .u64 last)).setCell ⟨tb, 0, none⟩ (.int .u64 ((s + len - m2 : Nat) : Int))).drew from ⟨last, s + len - m2, s + len, ((HP10.out.setN HAP.out (last : Int)).setT HAP.out _).up (Below.drew (Below.refl _ _)), HVM.out, HAN.out, by have := HWF.out.l1; have := HWF.out.e4; omega⟩)
                    go_upto_region 19 with (fail)
                    go_region
                    all_goals
                      clear z0 z1 z2 z3 z4 z5 z6 z7 z8 z9 z10 y1 y2 y6 v0 v2 v5 hy1 hy2 hy3 hv1 hv2 hv3 hm2
                      go_wp2
                      go_roundw
                      case rel => exact ⟨k + 1, by omega, by go_num, HRN⟩
                      case measure => simp [intOf]; omega
                  · have c5b : decide ((first : Int) + 1 < (last : Int)) = false := decide_eq_false (by omega)
                    have C5 := Lib.hid c5
                    clear c5 hx3 hx4 hw4
                    obtain ⟨z0, z1, z2, z3, z4, z5, z6, z7, z8, z9, z10⟩ := HP9.out.cells
                    rw [HPER.out] at z2
                    go_upto_region 19 with (fail)
                    clear z0 z1 z2 z3 z4 z5 z6 z7 z8 z9 z10
                    obtain ⟨z0, z1, z2, z3, z4, z5, z6, z7, z8, z9, z10⟩ := HP9.out.cells
                    rw [HPER.out] at z2
                    have hy1 : ((s : Int) + (len : Int)) - (m2 : Int) = ((s + len - m2 : Nat) : Int) := by have := HWF.out.l1; omega
                    have hy2 : (m2 : Int) ≤ 18446744073709551615 := by have := HWF.out.l1; have := HWF.out.lF; have := HF.out; omega
                    have hm2 : (last : Int) * (per : Int) = (m2 : Int) := by rw [← HWF.out.e4]; simp
                    have hv1 : IntKind.u64.wrap (m2 : Int) = (m2 : Int) := by rw [IntKind.wrap_u64]; omega
                    have hv2 : IntKind.u64.wrap ((s : Int) + (len : Int) - (m2 : Int)) = (s : Int) + (len : Int) - (m2 : Int) := by have := HWF.out.l1; have := HWF.out.lF; have := HF.out; rw [IntKind.wrap_u64]; omega
                    have hy3 : (0 : Int) ≤ (s : Int) + (len : Int) - (m2 : Int) := by have := HWF.out.l1; omega
                    have hv3 : IntKind.u64.wrap ((s + len - m2 : Nat) : Int) = ((s + len - m2 : Nat) : Int) := by rw [← hy1]; exact hv2
                    have hne : nb ≠ tb := by have := HAP.out.q5; omega
                    have hne2 : tb ≠ nb := fun e => hne e.symm
                    have sN := (HP9.out.setN HAP.out (last : Int)).cells
                    have sT := (HP9.out.setT HAP.out ((s + len - m2 : Nat) : Int)).cells
                    obtain ⟨_, y1, y2, _, _, _, y6, _⟩ := sN
                    obtain ⟨v0, _, v2, _, _, v5, _⟩ := sT
                    rw [HPER.out] at y2 v2
                    have HRN := Lib.hid (show PRel f L w yb nb tb per D count F v (k + 1) ((W9.setCell ⟨nb, 0, none⟩ (.int .u64 last)).setCell ⟨tb, 0, none⟩ (.int .u64 ((s + len - m2 : Nat) : Int))).drew from ⟨last, s + len - m2, s + len, ((HP9.out.setN HAP.out (last : Int)).setT HAP.out _).up (Below.drew (Below.refl _ _)), HVM.out, HAN.out, by have := HWF.out.l1; have := HWF.out.e4; omega⟩)
                    go_upto_region 19 with (fail)
                    go_region
                    all_goals
                      clear z0 z1 z2 z3 z4 z5 z6 z7 z8 z9 z10 y1 y2 y6 v0 v2 v5 hy1 hy2 hy3 hv1 hv2 hv3 hm2
                      go_wp2
                      go_roundw
                      case rel => exact ⟨k + 1, by omega, by go_num, HRN⟩
                      case measure => simp [intOf]; omega
            · have h13i : ¬ (next : Int) + 1 < (first : Int) := by omega
              have HPf := Lib.hid (show DPs f L w yb nb tb (first : Int) 0 W6 by have := HP6.out; rwa [show (next : Int) + 1 = (first : Int) from by omega] at this)
              go_upto_region 15 with (fail)
              have HVN := Lib.hid (show (if first = last then visits per D count ((L.map natW).drop (k + 1)) first (0 + len) else if 0 + m1 - s < D then true else visits per D count ((L.map natW).drop (k + 1)) last (s + len - m2)) = v by
                have h := HWF.out.pre (r := (L.map natW).drop (k + 1)) (by omega) (by rw [if_neg (by omega)]; first | omega | (rw [HD1.out]; omega))
                rw [HVI.out] at h
                rw [h]
                simp only [if_pos hnf])
              have HTS := Lib.hid (show first * per + 0 ≤ s by have := HWF.out.f1; omega)
              clear z0 z1 z2 z3 z4 z5 z6 z7 z8 z9 z10
              obtain ⟨z0, z1, z2, z3, z4, z5, z6, z7, z8, z9, z10⟩ := HPf.out.cells
              rw [HPER.out] at z2
              obtain ⟨p0, p1, p2, pz⟩ := HB6.out
              rw [HS.out] at p0
              rw [HLN.out] at p1
              by_cases c3 : first = last
              · have c3i : ((first : Int) == (last : Int)) = true := by rw [c3]; exact beq_self_eq_true _
                have hsum : (len : Int) ≤ 18446744073709551615 := by have := HF.out; have := HWF.out; have := this.lF; have := HWF.out.nt; have := HWF.out.bs; have := HTS.out; omega
                have hnn : (0 : Int) ≤ 0 := by omega
                have hln : (0 : Int) ≤ (len : Int) := by omega
                have HPN := Lib.hid (HPf.out.setT HAP.out (len : Int))
                have HRN := Lib.hid (show PRel f L w yb nb tb per D count F v (k + 1) (W6.setCell ⟨tb, 0, none⟩ (.int .u64 (len : Int))) from ⟨first, 0 + len, s + len, by have := HPN.out; simpa using this, by rw [← HVN.out, if_pos c3], HAN.out, by have := HWF.out.f1; have := HTS.out; omega⟩)
                have c3h := Lib.hid c3
                clear c3
                go_wp2
                go_roundw
                case rel => exact ⟨k + 1, by omega, by go_num, HRN⟩
                case measure => simp [intOf]; omega
              · have c3i : ((first : Int) == (last : Int)) = false := by rw [beq_eq_false_iff_ne]; omega
                have hfl : first < last := by have := HWF.out.fl; omega
                have hmm := HWF.out.mm hfl
                have hx1 : (0 : Int) ≤ (m1 : Int) - (s : Int) := by have := HWF.out.f2; omega
                have hx2 : (m1 : Int) ≤ 18446744073709551615 := by have := HWF.out.mp hfl; have := HWF.out.me; have := HF.out; have := HTS.out; have := HWF.out.f2; omega
                have hx3 : (first : Int) + 1 ≤ 18446744073709551615 := by have := HWF.out.fc; have := HWF.out.cF; have := HF.out; omega
                have hx4 : (m1 : Int) ≤ 18446744073709551615 := by omega
                have hm1 : ((first : Int) + 1) * (per : Int) = (m1 : Int) := by rw [← HWF.out.e3]; simp
                have hw1 : IntKind.u64.wrap (m1 : Int) = (m1 : Int) := by rw [IntKind.wrap_u64]; omega
                have hw2 : IntKind.u64.wrap ((m1 : Int)) = (m1 : Int) := by rw [IntKind.wrap_u64]; omega
                have hw3 : IntKind.u64.wrap ((m1 : Int) - (s : Int)) = (m1 : Int) - (s : Int) := by rw [IntKind.wrap_u64]; omega
                have hw4 : IntKind.u64.wrap ((first : Int) + 1) = (first : Int) + 1 := by rw [IntKind.wrap_u64]; omega
                have HFL := Lib.hid hfl
                have HMM := Lib.hid hmm
                have C3 := Lib.hid c3
                clear c3 hfl hmm
                by_cases c4 : 0 + m1 - s < D
                · exact absurd c4 (by rw [HD1.out]; omega)
                · have C4 := Lib.hid c4
                  clear c4
                  go_wp2_with fail
                  refine (done_go f L w yb nb tb HAP.out (first : Int) 0 (first : Int) ((m1 : Int) - (s : Int)) W6 HPf.out (by rw [HD.out]; have := HWF.out.f2; have := C4.out; omega) (by omega) (by omega)).mono ?_
                  rintro e W9 ⟨rfl, hp9, _, hk9⟩
                  have HP9 := Lib.hid hp9
                  have HVM := Lib.hid (show visits per D count ((L.map natW).drop (k + 1)) last (s + len - m2) = v by rw [← HVN.out, if_neg C3.out, if_neg C4.out])
                  clear z0 z1 z2 z3 z4 z5 z6 z7 z8 z9 z10 p0 p1 p2 pz hp9 hk9 hx1 hx2 hm1 hw1 hw2 hw3
                  by_cases c5 : first + 1 < last
                  · have c5i : (first : Int) + 1 < (last : Int) := by omega
                    have C5 := Lib.hid c5
                    obtain ⟨z0, z1, z2, z3, z4, z5, z6, z7, z8, z9, z10⟩ := HP9.out.cells
                    rw [HPER.out] at z2
                    go_wp2_with fail
                    refine (done_go f L w yb nb tb HAP.out ((first : Int) + 1) 0 ((first : Int) + 1) (per : Int) W9 HP9.out (by rw [HD.out]; have := HDP.out; omega) (by omega) (by have := HWF.out.lc; have := HWF.out.cF; have := HF.out; omega)).mono ?_
                    rintro e W10 ⟨rfl, hp10, _, _⟩
                    have HP10 := Lib.hid hp10
                    clear z0 z1 z2 z3 z4 z5 z6 z7 z8 z9 z10 hp10
                    obtain ⟨z0, z1, z2, z3, z4, z5, z6, z7, z8, z9, z10⟩ := HP10.out.cells
                    rw [HPER.out] at z2
                    have hy1 : ((s : Int) + (len : Int)) - (m2 : Int) = ((s + len - m2 : Nat) : Int) := by have := HWF.out.l1; omega
                    have hy2 : (m2 : Int) ≤ 18446744073709551615 := by have := HWF.out.l1; have := HWF.out.lF; have := HF.out; omega
                    have hm2 : (last : Int) * (per : Int) = (m2 : Int) := by rw [← HWF.out.e4]; simp
                    have hv1 : IntKind.u64.wrap (m2 : Int) = (m2 : Int) := by rw [IntKind.wrap_u64]; omega
                    have hv2 : IntKind.u64.wrap ((s : Int) + (len : Int) - (m2 : Int)) = (s : Int) + (len : Int) - (m2 : Int) := by have := HWF.out.l1; have := HWF.out.lF; have := HF.out; rw [IntKind.wrap_u64]; omega
                    have hy3 : (0 : Int) ≤ (s : Int) + (len : Int) - (m2 : Int) := by have := HWF.out.l1; omega
                    have hv3 : IntKind.u64.wrap ((s + len - m2 : Nat) : Int) = ((s + len - m2 : Nat) : Int) := by rw [← hy1]; exact hv2
                    have hne : nb ≠ tb := by have := HAP.out.q5; omega
                    have hne2 : tb ≠ nb := fun e => hne e.symm
                    have sN := (HP10.out.setN HAP.out (last : Int)).cells
                    have sT := (HP10.out.setT HAP.out ((s + len - m2 : Nat) : Int)).cells
                    obtain ⟨_, y1, y2, _, _, _, y6, _⟩ := sN
                    obtain ⟨v0, _, v2, _, _, v5, _⟩ := sT
                    rw [HPER.out] at y2 v2
                    have HRN := Lib.hid (show PRel f L w yb nb tb per D count F v (k + 1) ((W10.setCell ⟨nb, 0, none⟩ (.int .u64 last)).setCell ⟨tb, 0, none⟩ (.int .u64 ((s + len - m2 : Nat) : Int))).drew from ⟨last, s + len - m2, s + len, ((HP10.out.setN HAP.out (last : Int)).setT HAP.out _).up (Below.drew (Below.refl _ _)), HVM.out, HAN.out, by have := HWF.out.l1; have := HWF.out.e4; omega⟩)
                    go_upto_region 19 with (fail)
                    go_region
                    all_goals
                      clear z0 z1 z2 z3 z4 z5 z6 z7 z8 z9 z10 y1 y2 y6 v0 v2 v5 hy1 hy2 hy3 hv1 hv2 hv3 hm2
                      go_wp2
                      go_roundw
                      case rel => exact ⟨k + 1, by omega, by go_num, HRN⟩
                      case measure => simp [intOf]; omega
                  · have c5b : decide ((first : Int) + 1 < (last : Int)) = false := decide_eq_false (by omega)
                    have C5 := Lib.hid c5
                    clear c5 hx3 hx4 hw4
                    obtain ⟨z0, z1, z2, z3, z4, z5, z6, z7, z8, z9, z10⟩ := HP9.out.cells
                    rw [HPER.out] at z2
                    go_upto_region 19 with (fail)
                    clear z0 z1 z2 z3 z4 z5 z6 z7 z8 z9 z10
                    obtain ⟨z0, z1, z2, z3, z4, z5, z6, z7, z8, z9, z10⟩ := HP9.out.cells
                    rw [HPER.out] at z2
                    have hy1 : ((s : Int) + (len : Int)) - (m2 : Int) = ((s + len - m2 : Nat) : Int) := by have := HWF.out.l1; omega
                    have hy2 : (m2 : Int) ≤ 18446744073709551615 := by have := HWF.out.l1; have := HWF.out.lF; have := HF.out; omega
                    have hm2 : (last : Int) * (per : Int) = (m2 : Int) := by rw [← HWF.out.e4]; simp
                    have hv1 : IntKind.u64.wrap (m2 : Int) = (m2 : Int) := by rw [IntKind.wrap_u64]; omega
                    have hv2 : IntKind.u64.wrap ((s : Int) + (len : Int) - (m2 : Int)) = (s : Int) + (len : Int) - (m2 : Int) := by have := HWF.out.l1; have := HWF.out.lF; have := HF.out; rw [IntKind.wrap_u64]; omega
                    have hy3 : (0 : Int) ≤ (s : Int) + (len : Int) - (m2 : Int) := by have := HWF.out.l1; omega
                    have hv3 : IntKind.u64.wrap ((s + len - m2 : Nat) : Int) = ((s + len - m2 : Nat) : Int) := by rw [← hy1]; exact hv2
                    have hne : nb ≠ tb := by have := HAP.out.q5; omega
                    have hne2 : tb ≠ nb := fun e => hne e.symm
                    have sN := (HP9.out.setN HAP.out (last : Int)).cells
                    have sT := (HP9.out.setT HAP.out ((s + len - m2 : Nat) : Int)).cells
                    obtain ⟨_, y1, y2, _, _, _, y6, _⟩ := sN
                    obtain ⟨v0, _, v2, _, _, v5, _⟩ := sT
                    rw [HPER.out] at y2 v2
                    have HRN := Lib.hid (show PRel f L w yb nb tb per D count F v (k + 1) ((W9.setCell ⟨nb, 0, none⟩ (.int .u64 last)).setCell ⟨tb, 0, none⟩ (.int .u64 ((s + len - m2 : Nat) : Int))).drew from ⟨last, s + len - m2, s + len, ((HP9.out.setN HAP.out (last : Int)).setT HAP.out _).up (Below.drew (Below.refl _ _)), HVM.out, HAN.out, by have := HWF.out.l1; have := HWF.out.e4; omega⟩)
                    go_upto_region 19 with (fail)
                    go_region
                    all_goals
                      clear z0 z1 z2 z3 z4 z5 z6 z7 z8 z9 z10 y1 y2 y6 v0 v2 v5 hy1 hy2 hy3 hv1 hv2 hv3 hm2
                      go_wp2
                      go_roundw
                      case rel => exact ⟨k + 1, by omega, by go_num, HRN⟩
                      case measure => simp [intOf]; omega
      · obtain rfl : first = next := by have := HWF.out.nf; omega
        have hnf2 : ¬ (first : Int) < (first : Int) := by omega
        by_cases ht : 0 < t
        · have ht2 : (0 : Int) < (t : Int) := by omega
          go_upto_region 15 with (fail)
          have HVN := Lib.hid (show (if first = last then visits per D count ((L.map natW).drop (k + 1)) first (t + len) else if t + m1 - s < D then true else visits per D count ((L.map natW).drop (k + 1)) last (s + len - m2)) = v by
            have h := HWF.out.pre (r := (L.map natW).drop (k + 1)) (by omega) (by rw [if_neg (by omega)]; omega)
            rw [HVI.out] at h
            rw [h]
            simp only [if_neg (show ¬ first < first by omega)])
          have HTS := Lib.hid (show first * per + t ≤ s by have := HWF.out.nt; have := HWF.out.bs; omega)
          clear z0 z1 z2 z3 z4 z5 z6 z7 z8 z9 z10
          obtain ⟨z0, z1, z2, z3, z4, z5, z6, z7, z8, z9, z10⟩ := HP5.out.cells
          rw [HPER.out] at z2
          obtain ⟨p0, p1, p2, pz⟩ := HB5.out
          rw [HS.out] at p0
          rw [HLN.out] at p1
          by_cases c3 : first = last
          · have c3i : ((first : Int) == (last : Int)) = true := by rw [c3]; exact beq_self_eq_true _
            have hsum : ((t : Int) + (len : Int)) ≤ 18446744073709551615 := by have := HF.out; have := HWF.out; have := this.lF; have := HWF.out.nt; have := HWF.out.bs; have := HTS.out; omega
            have hnn : (0 : Int) ≤ (t : Int) := by omega
            have hln : (0 : Int) ≤ (len : Int) := by omega
            have HPN := Lib.hid (HP5.out.setT HAP.out ((t : Int) + (len : Int)))
            have HRN := Lib.hid (show PRel f L w yb nb tb per D count F v (k + 1) (W5.setCell ⟨tb, 0, none⟩ (.int .u64 ((t : Int) + (len : Int)))) from ⟨first, t + len, s + len, by have := HPN.out; simpa using this, by rw [← HVN.out, if_pos c3], HAN.out, by have := HWF.out.f1; have := HTS.out; omega⟩)
            have c3h := Lib.hid c3
            clear c3
            go_wp2
            go_roundw
            case rel => exact ⟨k + 1, by omega, by go_num, HRN⟩
            case measure => simp [intOf]; omega
          · have c3i : ((first : Int) == (last : Int)) = false := by rw [beq_eq_false_iff_ne]; omega
            have hfl : first < last := by have := HWF.out.fl; omega
            have hmm := HWF.out.mm hfl
            have hx1 : (0 : Int) ≤ ((t : Int) + (m1 : Int)) - (s : Int) := by have := HWF.out.f2; omega
            have hx2 : ((t : Int) + (m1 : Int)) ≤ 18446744073709551615 := by have := HWF.out.mp hfl; have := HWF.out.me; have := HF.out; have := HTS.out; have := HWF.out.f2; omega
            have hx3 : (first : Int) + 1 ≤ 18446744073709551615 := by have := HWF.out.fc; have := HWF.out.cF; have := HF.out; omega
            have hx4 : (m1 : Int) ≤ 18446744073709551615 := by omega
            have hm1 : ((first : Int) + 1) * (per : Int) = (m1 : Int) := by rw [← HWF.out.e3]; simp
            have hw1 : IntKind.u64.wrap (m1 : Int) = (m1 : Int) := by rw [IntKind.wrap_u64]; omega
            have hw2 : IntKind.u64.wrap (((t : Int) + (m1 : Int))) = ((t : Int) + (m1 : Int)) := by rw [IntKind.wrap_u64]; omega
            have hw3 : IntKind.u64.wrap (((t : Int) + (m1 : Int)) - (s : Int)) = ((t : Int) + (m1 : Int)) - (s : Int) := by rw [IntKind.wrap_u64]; omega
            have hw4 : IntKind.u64.wrap ((first : Int) + 1) = (first : Int) + 1 := by rw [IntKind.wrap_u64]; omega
            have HFL := Lib.hid hfl
            have HMM := Lib.hid hmm
            have C3 := Lib.hid c3
            clear c3 hfl hmm
            by_cases c4 : t + m1 - s < D
            · have hst : v = true := by rw [← HVN.out, if_neg C3.out, if_pos c4]
              have C4 := Lib.hid c4
              clear c4
              go_wp2_with fail
              refine (done_no f L w yb nb tb HAP.out (first : Int) (t : Int) (first : Int) (((t : Int) + (m1 : Int)) - (s : Int)) W5 HP5.out (by rw [HD.out]; have := HWF.out.f2; have := C4.out; omega) (by omega) (by omega)).mono ?_
              rintro e W9 ⟨rfl, hdn, hb9⟩
              have HDN := Lib.hid (show PEnd f w v (.returned (.tuple #[])) W9 from ⟨⟨_, rfl⟩, hb9, .inl ⟨hst, _, hdn⟩⟩)
              clear hdn hb9 hst z0 z1 z2 z3 z4 z5 z6 z7 z8 z9 z10 p0 p1 p2 pz
              go_wp2
              go_end0
              exact HDN.out
            · have C4 := Lib.hid c4
              clear c4
              go_wp2_with fail
              refine (done_go f L w yb nb tb HAP.out (first : Int) (t : Int) (first : Int) (((t : Int) + (m1 : Int)) - (s : Int)) W5 HP5.out (by rw [HD.out]; have := HWF.out.f2; have := C4.out; omega) (by omega) (by omega)).mono ?_
              rintro e W9 ⟨rfl, hp9, _, hk9⟩
              have HP9 := Lib.hid hp9
              have HVM := Lib.hid (show visits per D count ((L.map natW).drop (k + 1)) last (s + len - m2) = v by rw [← HVN.out, if_neg C3.out, if_neg C4.out])
              clear z0 z1 z2 z3 z4 z5 z6 z7 z8 z9 z10 p0 p1 p2 pz hp9 hk9 hx1 hx2 hm1 hw1 hw2 hw3
              by_cases c5 : first + 1 < last
              · have c5i : (first : Int) + 1 < (last : Int) := by omega
                have C5 := Lib.hid c5
                obtain ⟨z0, z1, z2, z3, z4, z5, z6, z7, z8, z9, z10⟩ := HP9.out.cells
                rw [HPER.out] at z2
                go_wp2_with fail
                refine (done_go f L w yb nb tb HAP.out ((first : Int) + 1) 0 ((first : Int) + 1) (per : Int) W9 HP9.out (by rw [HD.out]; have := HDP.out; omega) (by omega) (by have := HWF.out.lc; have := HWF.out.cF; have := HF.out; omega)).mono ?_
                rintro e W10 ⟨rfl, hp10, _, _⟩
                have HP10 := Lib.hid hp10
                clear z0 z1 z2 z3 z4 z5 z6 z7 z8 z9 z10 hp10
                obtain ⟨z0, z1, z2, z3, z4, z5, z6, z7, z8, z9, z10⟩ := HP10.out.cells
                rw [HPER.out] at z2
                have hy1 : ((s : Int) + (len : Int)) - (m2 : Int) = ((s + len - m2 : Nat) : Int) := by have := HWF.out.l1; omega
                have hy2 : (m2 : Int) ≤ 18446744073709551615 := by have := HWF.out.l1; have := HWF.out.lF; have := HF.out; omega
                have hm2 : (last : Int) * (per : Int) = (m2 : Int) := by rw [← HWF.out.e4]; simp
                have hv1 : IntKind.u64.wrap (m2 : Int) = (m2 : Int) := by rw [IntKind.wrap_u64]; omega
                have hv2 : IntKind.u64.wrap ((s : Int) + (len : Int) - (m2 : Int)) = (s : Int) + (len : Int) - (m2 : Int) := by have := HWF.out.l1; have := HWF.out.lF; have := HF.out; rw [IntKind.wrap_u64]; omega
                have hy3 : (0 : Int) ≤ (s : Int) + (len : Int) - (m2 : Int) := by have := HWF.out.l1; omega
                have hv3 : IntKind.u64.wrap ((s + len - m2 : Nat) : Int) = ((s + len - m2 : Nat) : Int) := by rw [← hy1]; exact hv2
                have hne : nb ≠ tb := by have := HAP.out.q5; omega
                have hne2 : tb ≠ nb := fun e => hne e.symm
                have sN := (HP10.out.setN HAP.out (last : Int)).cells
                have sT := (HP10.out.setT HAP.out ((s + len - m2 : Nat) : Int)).cells
                obtain ⟨_, y1, y2, _, _, _, y6, _⟩ := sN
                obtain ⟨v0, _, v2, _, _, v5, _⟩ := sT
                rw [HPER.out] at y2 v2
                have HRN := Lib.hid (show PRel f L w yb nb tb per D count F v (k + 1) ((W10.setCell ⟨nb, 0, none⟩ (.int .u64 last)).setCell ⟨tb, 0, none⟩ (.int .u64 ((s + len - m2 : Nat) : Int))).drew from ⟨last, s + len - m2, s + len, ((HP10.out.setN HAP.out (last : Int)).setT HAP.out _).up (Below.drew (Below.refl _ _)), HVM.out, HAN.out, by have := HWF.out.l1; have := HWF.out.e4; omega⟩)
                go_upto_region 19 with (fail)
                go_region
                all_goals
                  clear z0 z1 z2 z3 z4 z5 z6 z7 z8 z9 z10 y1 y2 y6 v0 v2 v5 hy1 hy2 hy3 hv1 hv2 hv3 hm2
                  go_wp2
                  go_roundw
                  case rel => exact ⟨k + 1, by omega, by go_num, HRN⟩
                  case measure => simp [intOf]; omega
              · have c5b : decide ((first : Int) + 1 < (last : Int)) = false := decide_eq_false (by omega)
                have C5 := Lib.hid c5
                clear c5 hx3 hx4 hw4
                obtain ⟨z0, z1, z2, z3, z4, z5, z6, z7, z8, z9, z10⟩ := HP9.out.cells
                rw [HPER.out] at z2
                go_upto_region 19 with (fail)
                clear z0 z1 z2 z3 z4 z5 z6 z7 z8 z9 z10
                obtain ⟨z0, z1, z2, z3, z4, z5, z6, z7, z8, z9, z10⟩ := HP9.out.cells
                rw [HPER.out] at z2
                have hy1 : ((s : Int) + (len : Int)) - (m2 : Int) = ((s + len - m2 : Nat) : Int) := by have := HWF.out.l1; omega
                have hy2 : (m2 : Int) ≤ 18446744073709551615 := by have := HWF.out.l1; have := HWF.out.lF; have := HF.out; omega
                have hm2 : (last : Int) * (per : Int) = (m2 : Int) := by rw [← HWF.out.e4]; simp
                have hv1 : IntKind.u64.wrap (m2 : Int) = (m2 : Int) := by rw [IntKind.wrap_u64]; omega
                have hv2 : IntKind.u64.wrap ((s : Int) + (len : Int) - (m2 : Int)) = (s : Int) + (len : Int) - (m2 : Int) := by have := HWF.out.l1; have := HWF.out.lF; have := HF.out; rw [IntKind.wrap_u64]; omega
                have hy3 : (0 : Int) ≤ (s : Int) + (len : Int) - (m2 : Int) := by have := HWF.out.l1; omega
                have hv3 : IntKind.u64.wrap ((s + len - m2 : Nat) : Int) = ((s + len - m2 : Nat) : Int) := by rw [← hy1]; exact hv2
                have hne : nb ≠ tb := by have := HAP.out.q5; omega
                have hne2 : tb ≠ nb := fun e => hne e.symm
                have sN := (HP9.out.setN HAP.out (last : Int)).cells
                have sT := (HP9.out.setT HAP.out ((s + len - m2 : Nat) : Int)).cells
                obtain ⟨_, y1, y2, _, _, _, y6, _⟩ := sN
                obtain ⟨v0, _, v2, _, _, v5, _⟩ := sT
                rw [HPER.out] at y2 v2
                have HRN := Lib.hid (show PRel f L w yb nb tb per D count F v (k + 1) ((W9.setCell ⟨nb, 0, none⟩ (.int .u64 last)).setCell ⟨tb, 0, none⟩ (.int .u64 ((s + len - m2 : Nat) : Int))).drew from ⟨last, s + len - m2, s + len, ((HP9.out.setN HAP.out (last : Int)).setT HAP.out _).up (Below.drew (Below.refl _ _)), HVM.out, HAN.out, by have := HWF.out.l1; have := HWF.out.e4; omega⟩)
                go_upto_region 19 with (fail)
                go_region
                all_goals
                  clear z0 z1 z2 z3 z4 z5 z6 z7 z8 z9 z10 y1 y2 y6 v0 v2 v5 hy1 hy2 hy3 hv1 hv2 hv3 hm2
                  go_wp2
                  go_roundw
                  case rel => exact ⟨k + 1, by omega, by go_num, HRN⟩
                  case measure => simp [intOf]; omega
        · have ht2 : ¬ (0 : Int) < (t : Int) := by omega
          go_upto_region 15 with (fail)
          have HVN := Lib.hid (show (if first = last then visits per D count ((L.map natW).drop (k + 1)) first (t + len) else if t + m1 - s < D then true else visits per D count ((L.map natW).drop (k + 1)) last (s + len - m2)) = v by
            have h := HWF.out.pre (r := (L.map natW).drop (k + 1)) (by omega) (by rw [if_neg (by omega)]; omega)
            rw [HVI.out] at h
            rw [h]
            simp only [if_neg (show ¬ first < first by omega)])
          have HTS := Lib.hid (show first * per + t ≤ s by have := HWF.out.nt; have := HWF.out.bs; omega)
          clear z0 z1 z2 z3 z4 z5 z6 z7 z8 z9 z10
          obtain ⟨z0, z1, z2, z3, z4, z5, z6, z7, z8, z9, z10⟩ := HP5.out.cells
          rw [HPER.out] at z2
          obtain ⟨p0, p1, p2, pz⟩ := HB5.out
          rw [HS.out] at p0
          rw [HLN.out] at p1
          by_cases c3 : first = last
          · have c3i : ((first : Int) == (last : Int)) = true := by rw [c3]; exact beq_self_eq_true _
            have hsum : ((t : Int) + (len : Int)) ≤ 18446744073709551615 := by have := HF.out; have := HWF.out; have := this.lF; have := HWF.out.nt; have := HWF.out.bs; have := HTS.out; omega
            have hnn : (0 : Int) ≤ (t : Int) := by omega
            have hln : (0 : Int) ≤ (len : Int) := by omega
            have HPN := Lib.hid (HP5.out.setT HAP.out ((t : Int) + (len : Int)))
            have HRN := Lib.hid (show PRel f L w yb nb tb per D count F v (k + 1) (W5.setCell ⟨tb, 0, none⟩ (.int .u64 ((t : Int) + (len : Int)))) from ⟨first, t + len, s + len, by have := HPN.out; simpa using this, by rw [← HVN.out, if_pos c3], HAN.out, by have := HWF.out.f1; have := HTS.out; omega⟩)
            have c3h := Lib.hid c3
            clear c3
            go_wp2
            go_roundw
            case rel => exact ⟨k + 1, by omega, by go_num, HRN⟩
            case measure => simp [intOf]; omega
          · have c3i : ((first : Int) == (last : Int)) = false := by rw [beq_eq_false_iff_ne]; omega
            have hfl : first < last := by have := HWF.out.fl; omega
            have hmm := HWF.out.mm hfl
            have hx1 : (0 : Int) ≤ ((t : Int) + (m1 : Int)) - (s : Int) := by have := HWF.out.f2; omega
            have hx2 : ((t : Int) + (m1 : Int)) ≤ 18446744073709551615 := by have := HWF.out.mp hfl; have := HWF.out.me; have := HF.out; have := HTS.out; have := HWF.out.f2; omega
            have hx3 : (first : Int) + 1 ≤ 18446744073709551615 := by have := HWF.out.fc; have := HWF.out.cF; have := HF.out; omega
            have hx4 : (m1 : Int) ≤ 18446744073709551615 := by omega
            have hm1 : ((first : Int) + 1) * (per : Int) = (m1 : Int) := by rw [← HWF.out.e3]; simp
            have hw1 : IntKind.u64.wrap (m1 : Int) = (m1 : Int) := by rw [IntKind.wrap_u64]; omega
            have hw2 : IntKind.u64.wrap (((t : Int) + (m1 : Int))) = ((t : Int) + (m1 : Int)) := by rw [IntKind.wrap_u64]; omega
            have hw3 : IntKind.u64.wrap (((t : Int) + (m1 : Int)) - (s : Int)) = ((t : Int) + (m1 : Int)) - (s : Int) := by rw [IntKind.wrap_u64]; omega
            have hw4 : IntKind.u64.wrap ((first : Int) + 1) = (first : Int) + 1 := by rw [IntKind.wrap_u64]; omega
            have HFL := Lib.hid hfl
            have HMM := Lib.hid hmm
            have C3 := Lib.hid c3
            clear c3 hfl hmm
            by_cases c4 : t + m1 - s < D
            · have hst : v = true := by rw [← HVN.out, if_neg C3.out, if_pos c4]
              have C4 := Lib.hid c4
              clear c4
              go_wp2_with fail
              refine (done_no f L w yb nb tb HAP.out (first : Int) (t : Int) (first : Int) (((t : Int) + (m1 : Int)) - (s : Int)) W5 HP5.out (by rw [HD.out]; have := HWF.out.f2; have := C4.out; omega) (by omega) (by omega)).mono ?_
              rintro e W9 ⟨rfl, hdn, hb9⟩
              have HDN := Lib.hid (show PEnd f w v (.returned (.tuple #[])) W9 from ⟨⟨_, rfl⟩, hb9, .inl ⟨hst, _, hdn⟩⟩)
              clear hdn hb9 hst z0 z1 z2 z3 z4 z5 z6 z7 z8 z9 z10 p0 p1 p2 pz
              go_wp2
              go_end0
              exact HDN.out
            · have C4 := Lib.hid c4
              clear c4
              go_wp2_with fail
              refine (done_go f L w yb nb tb HAP.out (first : Int) (t : Int) (first : Int) (((t : Int) + (m1 : Int)) - (s : Int)) W5 HP5.out (by rw [HD.out]; have := HWF.out.f2; have := C4.out; omega) (by omega) (by omega)).mono ?_
              rintro e W9 ⟨rfl, hp9, _, hk9⟩
              have HP9 := Lib.hid hp9
              have HVM := Lib.hid (show visits per D count ((L.map natW).drop (k + 1)) last (s + len - m2) = v by rw [← HVN.out, if_neg C3.out, if_neg C4.out])
              clear z0 z1 z2 z3 z4 z5 z6 z7 z8 z9 z10 p0 p1 p2 pz hp9 hk9 hx1 hx2 hm1 hw1 hw2 hw3
              by_cases c5 : first + 1 < last
              · have c5i : (first : Int) + 1 < (last : Int) := by omega
                have C5 := Lib.hid c5
                obtain ⟨z0, z1, z2, z3, z4, z5, z6, z7, z8, z9, z10⟩ := HP9.out.cells
                rw [HPER.out] at z2
                go_wp2_with fail
                refine (done_go f L w yb nb tb HAP.out ((first : Int) + 1) 0 ((first : Int) + 1) (per : Int) W9 HP9.out (by rw [HD.out]; have := HDP.out; omega) (by omega) (by have := HWF.out.lc; have := HWF.out.cF; have := HF.out; omega)).mono ?_
                rintro e W10 ⟨rfl, hp10, _, _⟩
                have HP10 := Lib.hid hp10
                clear z0 z1 z2 z3 z4 z5 z6 z7 z8 z9 z10 hp10
                obtain ⟨z0, z1, z2, z3, z4, z5, z6, z7, z8, z9, z10⟩ := HP10.out.cells
                rw [HPER.out] at z2
                have hy1 : ((s : Int) + (len : Int)) - (m2 : Int) = ((s + len - m2 : Nat) : Int) := by have := HWF.out.l1; omega
                have hy2 : (m2 : Int) ≤ 18446744073709551615 := by have := HWF.out.l1; have := HWF.out.lF; have := HF.out; omega
                have hm2 : (last : Int) * (per : Int) = (m2 : Int) := by rw [← HWF.out.e4]; simp
                have hv1 : IntKind.u64.wrap (m2 : Int) = (m2 : Int) := by rw [IntKind.wrap_u64]; omega
                have hv2 : IntKind.u64.wrap ((s : Int) + (len : Int) - (m2 : Int)) = (s : Int) + (len : Int) - (m2 : Int) := by have := HWF.out.l1; have := HWF.out.lF; have := HF.out; rw [IntKind.wrap_u64]; omega
                have hy3 : (0 : Int) ≤ (s : Int) + (len : Int) - (m2 : Int) := by have := HWF.out.l1; omega
                have hv3 : IntKind.u64.wrap ((s + len - m2 : Nat) : Int) = ((s + len - m2 : Nat) : Int) := by rw [← hy1]; exact hv2
                have hne : nb ≠ tb := by have := HAP.out.q5; omega
                have hne2 : tb ≠ nb := fun e => hne e.symm
                have sN := (HP10.out.setN HAP.out (last : Int)).cells
                have sT := (HP10.out.setT HAP.out ((s + len - m2 : Nat) : Int)).cells
                obtain ⟨_, y1, y2, _, _, _, y6, _⟩ := sN
                obtain ⟨v0, _, v2, _, _, v5, _⟩ := sT
                rw [HPER.out] at y2 v2
                have HRN := Lib.hid (show PRel f L w yb nb tb per D count F v (k + 1) ((W10.setCell ⟨nb, 0, none⟩ (.int .u64 last)).setCell ⟨tb, 0, none⟩ (.int .u64 ((s + len - m2 : Nat) : Int))).drew from ⟨last, s + len - m2, s + len, ((HP10.out.setN HAP.out (last : Int)).setT HAP.out _).up (Below.drew (Below.refl _ _)), HVM.out, HAN.out, by have := HWF.out.l1; have := HWF.out.e4; omega⟩)
                go_upto_region 19 with (fail)
                go_region
                all_goals
                  clear z0 z1 z2 z3 z4 z5 z6 z7 z8 z9 z10 y1 y2 y6 v0 v2 v5 hy1 hy2 hy3 hv1 hv2 hv3 hm2
                  go_wp2
                  go_roundw
                  case rel => exact ⟨k + 1, by omega, by go_num, HRN⟩
                  case measure => simp [intOf]; omega
              · have c5b : decide ((first : Int) + 1 < (last : Int)) = false := decide_eq_false (by omega)
                have C5 := Lib.hid c5
                clear c5 hx3 hx4 hw4
                obtain ⟨z0, z1, z2, z3, z4, z5, z6, z7, z8, z9, z10⟩ := HP9.out.cells
                rw [HPER.out] at z2
                go_upto_region 19 with (fail)
                clear z0 z1 z2 z3 z4 z5 z6 z7 z8 z9 z10
                obtain ⟨z0, z1, z2, z3, z4, z5, z6, z7, z8, z9, z10⟩ := HP9.out.cells
                rw [HPER.out] at z2
                have hy1 : ((s : Int) + (len : Int)) - (m2 : Int) = ((s + len - m2 : Nat) : Int) := by have := HWF.out.l1; omega
                have hy2 : (m2 : Int) ≤ 18446744073709551615 := by have := HWF.out.l1; have := HWF.out.lF; have := HF.out; omega
                have hm2 : (last : Int) * (per : Int) = (m2 : Int) := by rw [← HWF.out.e4]; simp
                have hv1 : IntKind.u64.wrap (m2 : Int) = (m2 : Int) := by rw [IntKind.wrap_u64]; omega
                have hv2 : IntKind.u64.wrap ((s : Int) + (len : Int) - (m2 : Int)) = (s : Int) + (len : Int) - (m2 : Int) := by have := HWF.out.l1; have := HWF.out.lF; have := HF.out; rw [IntKind.wrap_u64]; omega
                have hy3 : (0 : Int) ≤ (s : Int) + (len : Int) - (m2 : Int) := by have := HWF.out.l1; omega
                have hv3 : IntKind.u64.wrap ((s + len - m2 : Nat) : Int) = ((s + len - m2 : Nat) : Int) := by rw [← hy1]; exact hv2
                have hne : nb ≠ tb := by have := HAP.out.q5; omega
                have hne2 : tb ≠ nb := fun e => hne e.symm
                have sN := (HP9.out.setN HAP.out (last : Int)).cells
                have sT := (HP9.out.setT HAP.out ((s + len - m2 : Nat) : Int)).cells
                obtain ⟨_, y1, y2, _, _, _, y6, _⟩ := sN
                obtain ⟨v0, _, v2, _, _, v5, _⟩ := sT
                rw [HPER.out] at y2 v2
                have HRN := Lib.hid (show PRel f L w yb nb tb per D count F v (k + 1) ((W9.setCell ⟨nb, 0, none⟩ (.int .u64 last)).setCell ⟨tb, 0, none⟩ (.int .u64 ((s + len - m2 : Nat) : Int))).drew from ⟨last, s + len - m2, s + len, ((HP9.out.setN HAP.out (last : Int)).setT HAP.out _).up (Below.drew (Below.refl _ _)), HVM.out, HAN.out, by have := HWF.out.l1; have := HWF.out.e4; omega⟩)
                go_upto_region 19 with (fail)
                go_region
                all_goals
                  clear z0 z1 z2 z3 z4 z5 z6 z7 z8 z9 z10 y1 y2 y6 v0 v2 v5 hy1 hy2 hy3 hv1 hv2 hv3 hm2
                  go_wp2
                  go_roundw
                  case rel => exact ⟨k + 1, by omega, by go_num, HRN⟩
                  case measure => simp [intOf]; omega
    · obtain rfl : k = L.length := by omega
      obtain ⟨next, t, b, hps, hvis, haf, hnt⟩ := HREL.out
      rw [List.drop_of_length_le (by simp)] at hvis
      rw [visits_nil] at hvis
      obtain ⟨z0, z1, z2, z3, z4, z5, z6, z7, z8, z9, z10⟩ := hps.cells
      have HPK := Lib.hid hps
      have HVI := Lib.hid hvis
      have hcF : count ≤ F := by rw [← HCF.out]; exact Nat.le_mul_of_pos_right _ h0
      have HC := Lib.hid hcF
      clear hps hvis haf hnt HREL hcF
      by_cases hnc : next < count
      · have hnc2 : (next : Int) < (count : Int) := by omega
        by_cases ht : 0 < t
        · have ht2 : (0 : Int) < (t : Int) := by omega
          by_cases htD : t < D
          · have hst : v = true := by rw [← HVI.out]; simp [hnc, ht, htD]
            go_wp2_with fail
            refine (done_no f L w yb nb tb HAP.out (next : Int) (t : Int) (next : Int) (t : Int) wr HPK.out (by rw [HD.out]; omega) (by omega) (by have := HC.out; have := HF.out; omega)).mono ?_
            rintro e W9 ⟨rfl, hdn, hb9⟩
            have HDN := Lib.hid (show PEnd f w v (.returned (.tuple #[])) W9 from ⟨⟨_, rfl⟩, hb9, .inl ⟨hst, _, hdn⟩⟩)
            clear hdn hb9 hst z0 z1 z2 z3 z4 z5 z6 z7 z8 z9 z10
            go_wp2
            go_end0
            exact HDN.out
          · have HTD := Lib.hid htD
            clear htD
            go_wp2_with fail
            refine (done_go f L w yb nb tb HAP.out (next : Int) (t : Int) (next : Int) (t : Int) wr HPK.out (by rw [HD.out]; have := HTD.out; omega) (by omega) (by have := HC.out; have := HF.out; omega)).mono ?_
            rintro e W6 ⟨rfl, hp9, _, _⟩
            have HP6 := Lib.hid hp9
            clear hp9 z0 z1 z2 z3 z4 z5 z6 z7 z8 z9 z10
            obtain ⟨z0, z1, z2, z3, z4, z5, z6, z7, z8, z9, z10⟩ := HP6.out.cells
            by_cases h12 : next + 1 < count
            · have h12i : (next : Int) + 1 < (count : Int) := by omega
              go_upto_region 23 with (fail)
              rcases Nat.eq_zero_or_pos D with hD0 | hD0
              · have hst : v = false := by rw [← HVI.out]; simp [hnc, ht, h12, hD0]
                obtain ⟨fn, tmps, assign, bdy, hy, hRd⟩ := shYield_go 2 f HAP.out.a ((next : Int) + 1) 0 W6 HP6.out.sh (by rw [HD.out]; omega)
                have HBL := Lib.hid (HP6.out.bel)
                have HLL := Lib.hid (Array.getElem?_eq_some_iff.1 HP6.out.sh.L).1
                have HA1 := Lib.hid HAP.out.a
                have HST := Lib.hid hst
                clear hD0 hst
                refine (wpIn_wide (n := 3)).1 ?_
                gi_wp2_with fail
                refine hRd.mono ?_
                rintro e W9 ⟨rfl, hs9, hg9⟩
                have HDN := Lib.hid (show PEnd f w v (.returned (.tuple #[])) W9 from ⟨⟨_, rfl⟩, HBL.out.grown hg9 (by have := HLL.out; have := HA1.out.a1; have := HA1.out.a2; have := HA1.out.a3; have := HA1.out.a4; omega) (fun k e => by cases e; have := HA1.out.a1; have := HA1.out.a2; have := HA1.out.a3; have := HA1.out.a4; omega), .inr ⟨HST.out, hs9⟩⟩)
                clear hs9 hg9 hy hRd z0 z1 z2 z3 z4 z5 z6 z7 z8 z9 z10
                gi_wp2
                go_end0
                exact HDN.out
              · have hst : v = true := by rw [← HVI.out]; simp [hnc, ht, h12, hD0]
                obtain ⟨fn, tmps, assign, bdy, hy, hRd⟩ := shYield_no 2 f HAP.out.a ((next : Int) + 1) 0 W6 HP6.out.sh (by rw [HD.out]; omega)
                have HBL := Lib.hid (HP6.out.bel)
                have HA1 := Lib.hid HAP.out.a
                have HST := Lib.hid hst
                clear hD0 hst
                refine (wpIn_wide (n := 3)).1 ?_
                gi_wp2_with fail
                refine hRd.mono ?_
                rintro e W9 ⟨rfl, hs9, hb9⟩
                have HDN := Lib.hid (show PEnd f w v (.returned (.tuple #[])) W9 from ⟨⟨_, rfl⟩, HBL.out.trans (hb9.mono (by have := HA1.out.a1; omega)), .inl ⟨HST.out, _, hs9⟩⟩)
                clear hs9 hb9 hy hRd z0 z1 z2 z3 z4 z5 z6 z7 z8 z9 z10
                gi_wp2
                go_end0
                exact HDN.out
            · have h12b : decide ((next : Int) + 1 < (count : Int)) = false := decide_eq_false (by omega)
              have hst : v = false := by rw [← HVI.out]; simp [hnc, ht, HTD.out, h12]
              have HDN := Lib.hid (show PEnd f w v (.returned (.tuple #[])) W6 from ⟨⟨_, rfl⟩, HP6.out.bel, .inr ⟨hst, HP6.out.sh⟩⟩)
              clear h12 hst
              go_wp2
              go_end0
              exact HDN.out
        · obtain rfl : t = 0 := by omega
          have HP5 := Lib.hid (show DPs f L w yb nb tb (next : Int) 0 wr by have := HPK.out; simpa using this)
          clear z0 z1 z2 z3 z4 z5 z6 z7 z8 z9 z10
          obtain ⟨z0, z1, z2, z3, z4, z5, z6, z7, z8, z9, z10⟩ := HP5.out.cells
          go_upto_region 23 with (fail)
          rcases Nat.eq_zero_or_pos D with hD0 | hD0
          · have hst : v = false := by rw [← HVI.out]; simp [hnc, hD0]
            obtain ⟨fn, tmps, assign, bdy, hy, hRd⟩ := shYield_go 2 f HAP.out.a ((next : Int)) 0 wr HP5.out.sh (by rw [HD.out]; omega)
            have HBL := Lib.hid (HP5.out.bel)
            have HLL := Lib.hid (Array.getElem?_eq_some_iff.1 HP5.out.sh.L).1
            have HA1 := Lib.hid HAP.out.a
            have HST := Lib.hid hst
            clear hD0 hst
            refine (wpIn_wide (n := 3)).1 ?_
            gi_wp2_with fail
            refine hRd.mono ?_
            rintro e W9 ⟨rfl, hs9, hg9⟩
            have HDN := Lib.hid (show PEnd f w v (.returned (.tuple #[])) W9 from ⟨⟨_, rfl⟩, HBL.out.grown hg9 (by have := HLL.out; have := HA1.out.a1; have := HA1.out.a2; have := HA1.out.a3; have := HA1.out.a4; omega) (fun k e => by cases e; have := HA1.out.a1; have := HA1.out.a2; have := HA1.out.a3; have := HA1.out.a4; omega), .inr ⟨HST.out, hs9⟩⟩)
            clear hs9 hg9 hy hRd z0 z1 z2 z3 z4 z5 z6 z7 z8 z9 z10
            gi_wp2
            go_end0
            exact HDN.out
          · have hst : v = true := by rw [← HVI.out]; simp [hnc, hD0]
            obtain ⟨fn, tmps, assign, bdy, hy, hRd⟩ := shYield_no 2 f HAP.out.a ((next : Int)) 0 wr HP5.out.sh (by rw [HD.out]; omega)
            have HBL := Lib.hid (HP5.out.bel)
            have HA1 := Lib.hid HAP.out.a
            have HST := Lib.hid hst
            clear hD0 hst
            refine (wpIn_wide (n := 3)).1 ?_
            gi_wp2_with fail
            refine hRd.mono ?_
            rintro e W9 ⟨rfl, hs9, hb9⟩
            have HDN := Lib.hid (show PEnd f w v (.returned (.tuple #[])) W9 from ⟨⟨_, rfl⟩, HBL.out.trans (hb9.mono (by have := HA1.out.a1; omega)), .inl ⟨HST.out, _, hs9⟩⟩)
            clear hs9 hb9 hy hRd z0 z1 z2 z3 z4 z5 z6 z7 z8 z9 z10
            gi_wp2
            go_end0
            exact HDN.out
      · have hnb : decide ((next : Int) < (count : Int)) = false := decide_eq_false (by omega)
        have hst : v = false := by rw [← HVI.out]; simp [hnc]
        have HDN := Lib.hid (show PEnd f w v (.returned (.tuple #[])) wr from ⟨⟨_, rfl⟩, HPK.out.bel, .inr ⟨hst, HPK.out.sh⟩⟩)
        clear hst
        go_wp2
        go_end0
        exact HDN.out
end Go.Proofs.YtpedlbjbbcbbkaaGreat
