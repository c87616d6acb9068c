/-
  What walks of range-over-func loops at records share. It speaks of no program.
-/
import Derived.RangeFuncGives
import Derived.RangeFuncBound
import Derived.RangeFuncSeq
import Derived.WalkKit
import Derived.OwnWalkIn
import Derived.TacticsInMore
import Derived.RegionIn
import Derived.LoopNIn
import Derived.LoopIn
import Derived.Maps.AppendAt
import Derived.Shelf.Abstract
import Derived.Test.YtpedlbjbbcbbkaaGreatCore
import Derived.Test.YtpedlbjbbcbbkaaGreatValA
namespace Go.Proofs.YtpedlbjbbcbbkaaGreat
open Go.RowKit Go.Maps Go.Shelf
/-- what an iterator over memory promises to a loop that leaves that memory alone -/
def SeqB {α : Type} (F : Fence) (n : Nat) (P : Program) (g : Nat) (lb : Array Value) (enc : α → Value) (xs : List α) (w : World) : Prop :=
  ∀ (l : Nat) (J : List α → World → Prop) (W : World), Below w.heap.size w W → AbidesFrom W.heap.size J → (∀ pre W1, J pre W1 → Below w.heap.size w W1) →
    (∀ pre x W1, J pre W1 → pre.length < xs.length → YieldAt F (n - 1) P l #[enc x] W1 fun e W' => e = .returned (.bool true) ∧ J (pre ++ [x]) W' ∧ KeepsWalks W1 W') →
    J [] W →
    CallsIn F n P g (#[.func (.yield l) #[] #[]] ++ lb) W fun e W' => (∃ v, e = .returned v) ∧ J xs W'
theorem oR_abides {W W' : World} {row : Option Nat} {base : Nat} {e : TypeId} {size : Nat} {v : Value} {k : Nat} {xs : List Value} (h : W.ownsRow base e size v k xs) (hg : W.grownBy W' row)
    (hrow : ∀ r, row = some r → ∃ o : Obj, W.heap[r]? = some o ∧ o.isWalk = true) : W'.ownsRow base e size v k xs := by
  refine h.kept hg ?_
  rcases h.2 with ⟨rfl, _⟩ | ⟨g, cap, cur, rfl, _, hgb, _⟩
  · exact .inl rfl
  · refine .inr fun e' => ?_
    obtain ⟨o, ho, hw⟩ := hrow g (by simpa [Value.ownBlock] using e'.symm)
    rw [hgb] at ho; cases ho; cases hw
theorem gB_putObj (W : World) (l : Nat) (o : Obj) : W.grownBy (W.putObj l o) (some l) :=
  ⟨rfl, rfl, rfl, by simp, fun k _ hk => World.putObj_heap_other (fun e => hk (by rw [e]))⟩
theorem gB_setCell0 (W : World) (b : Nat) (v : Value) : W.grownBy (W.setCell ⟨b, 0, none⟩ v) (some b) :=
  ⟨rfl, rfl, rfl, (KeepsWalks.setCell W _ v).size, fun k _ hk => Below.heap_setCell _ _ _ k (fun e => hk (by rw [e]))⟩
theorem gB_alloc (W : World) (o : Obj) : W.grownBy (W.alloc o) none := ⟨rfl, rfl, rfl, by simp, fun k hk _ => Below.heap_alloc _ _ k hk⟩
theorem oR_ne {W : World} {base : Nat} {e : TypeId} {size : Nat} {v : Value} {k : Nat} {xs : List Value} (h : W.ownsRow base e size v k xs) {j : Nat} {o : Obj} (hj : W.heap[j]? = some o) (hno : ∀ cur, o ≠ .cells cur e (0, 0)) :
    v.ownBlock = none ∨ v.ownBlock ≠ some j := by
  rcases h.2 with ⟨rfl, _⟩ | ⟨g, cap, cur, rfl, _, hgb, _⟩
  · exact .inl rfl
  · refine .inr fun e' => ?_
    have : g = j := by simpa [Value.ownBlock] using e'
    subst this; rw [hgb] at hj; cases hj; exact hno cur rfl
theorem c_of_box {W : World} {B : Nat} {v : Value} {t : TypeId} (h : W.heap[B]? = some (.cells #[v] t (0, 0))) : W.cell? ⟨B, 0, none⟩ = some v ∧ W.frozen? ⟨B, 0, none⟩ = false := by
  constructor <;> simp [World.cell?, World.frozen?, h]
theorem h_setCell_box {W : World} {B : Nat} {v : Value} {t : TypeId} (v' : Value) (h : W.heap[B]? = some (.cells #[v] t (0, 0))) : (W.setCell ⟨B, 0, none⟩ v').heap[B]? = some (.cells #[v'] t (0, 0)) := by
  obtain ⟨hlt, hk⟩ := Array.getElem?_eq_some_iff.1 h
  show (W.heap.modify B _)[B]? = _
  rw [Array.getElem?_eq_getElem (by rw [Array.size_modify]; exact hlt), Array.getElem_modify_self, hk]
  rfl
theorem oR_not_walk {W : World} {base : Nat} {e : TypeId} {size : Nat} {v : Value} {k : Nat} {xs : List Value} (h : W.ownsRow base e size v k xs) : ∀ (j : Nat) (o : Obj), v.ownBlock = some j → W.heap[j]? = some o → o.isWalk = false := by
  intro j o hj ho
  rcases h.2 with ⟨rfl, _⟩ | ⟨g, cap, cur, rfl, _, hgb, _⟩
  · simp [Value.ownBlock] at hj
  · have : g = j := by simpa [Value.ownBlock] using hj
    subst this; rw [hgb] at ho; cases ho; rfl
end Go.Proofs.YtpedlbjbbcbbkaaGreat
namespace Go.Proofs.YtpedlbjbbcbbkaaGreat
open Go.RowKit Go.Maps Go.Shelf
@[reducible] def ptCells (p : Par) (frame : Int) (A : Option Addr) (n cp : Nat) : Array Value := #[.int .u16 p.id, .string p.name, .int .u64 p.period, .int .u64 p.duration, .int .u64 frame, .slice A n cp]
theorem periods_ok (p : Par) (frame : Int) (A : Option Addr) (n cp : Nat) (w : World) : Calls Tryz.prog 296 #[.agg #[.int .u16 p.id, .string p.name, .int .u64 p.period, .int .u64 p.duration, .int .u64 frame, .slice A n cp]] w
    fun e w' => e = .returned (.func (.func 325) #[] #[.pointer (some ⟨w.heap.size, 0, none⟩)]) ∧ w' = w.alloc (.cells (ptCells p frame A n cp) 258) := by
  go_enter Tryz.func296, Tryz.ntmps296
  go_wp2
  go_ret
  exact ⟨rfl, rfl⟩
def shAssign : Code := Code.seq (Code.region 2 #[{ dst := some 4, op := Op.assign (Operand.tmp 8), type := 22, pos := "demand.go:88", after := #[], guard := none }] false) (Code.region 3 #[{ dst := some 5, op := Op.assign (Operand.tmp 9), type := 22, pos := "demand.go:88", after := #[], guard := none }] false)
def shBody : Code := Code.block 1 (Code.seq (Code.region 4 #[{ dst := some 10, op := Op.move (Operand.tmp 5), type := 22, pos := "demand.go:89", after := #[], guard := none }, { dst := some 11, op := Op.fieldAddr 258 (Operand.tmp 1) 0, type := 0, pos := "demand.go:89", after := #[], guard := none }, { dst := some 12, op := Op.fieldAddr 55 (Operand.tmp 11) 3, type := 0, pos := "demand.go:89", after := #[{ on := 1, ground := Ground.data }], guard := none }, { dst := some 13, op := Op.load 22 (Operand.tmp 12), type := 22, pos := "demand.go:89", after := #[{ on := 2, ground := Ground.data }], guard := none }, { dst := some 14, op := Op.binOp BinOp.lss 22 (Operand.tmp 10) (Operand.tmp 13) 22, type := 4, pos := "demand.go:89", after := #[{ on := 0, ground := Ground.data }, { on := 3, ground := Ground.data }], guard := none }] false)
  (Code.cond (Operand.tmp 14) (Code.seq (Code.region 5 #[{ dst := some 15, op := Op.move (Operand.tmp 4), type := 22, pos := "demand.go:90", after := #[], guard := none }, { dst := none, op := Op.store 22 (Operand.tmp 2) (Operand.tmp 15), type := 0, pos := "demand.go:90", after := #[{ on := 0, ground := Ground.data }, { on := 0, ground := Ground.phase }], guard := none }, { dst := none, op := Op.store 4 (Operand.tmp 3) (Operand.const (Value.bool true)), type := 0, pos := "demand.go:90", after := #[{ on := 1, ground := Ground.chain }, { on := 0, ground := Ground.phase }, { on := 1, ground := Ground.phase }], guard := none }] false) Code.ret) Code.skip))
/-- where the loop of short stands: the partition, its box, the two results, the iterator's box, the deferred calls -/
structure ShFr where
  fn : FuncId
  p : Par
  frame : Int
  A : Option Addr
  n : Nat
  cp : Nat
  ps : Nat
  r2 : Nat
  r3 : Nat
  pq : Nat
  D : Nat
  l : Nat
def ShFr.lp (f : ShFr) (st : LoopState) (pend : Option Code) : Loop :=
  { state := st, pending := pend, fn := f.fn, tmps := #[.agg (ptCells f.p f.frame f.A f.n f.cp), .pointer (some ⟨f.ps, 0, none⟩), .pointer (some ⟨f.r2, 0, none⟩), .pointer (some ⟨f.r3, 0, none⟩), undef, undef, .agg (ptCells f.p f.frame f.A f.n f.cp), .func (.func 325) #[] #[.pointer (some ⟨f.pq, 0, none⟩)], undef, undef, undef, undef, undef, undef, undef, undef], params := #[8, 9], assign := shAssign, body := shBody, defers := f.D }
structure ShFr.apart (f : ShFr) : Prop where
  a1 : f.ps < f.r2
  a2 : f.r2 < f.r3
  a3 : f.r3 < f.D
  a4 : f.D < f.l
structure ShSt (f : ShFr) (W : World) : Prop where
  L : W.heap[f.l]? = some (.loop (f.lp .ready none))
  K : W.heap[f.D]? = some (.deferred (some []))
  P : Blk W f.ps 258 (ptCells f.p f.frame f.A f.n f.cp)
  R2 : Blk W f.r2 22 #[.int .u64 0]
  R3 : Blk W f.r3 4 #[.bool false]
structure ShDn (f : ShFr) (k : Int) (W : World) : Prop where
  L : W.heap[f.l]? = some (.loop (f.lp .done (some .ret)))
  K : W.heap[f.D]? = some (.deferred (some []))
  R2 : Blk W f.r2 22 #[.int .u64 k]
  R3 : Blk W f.r3 4 #[.bool true]
theorem ShSt.other {f : ShFr} {W V : World} (h : ShSt f W) (hk : ∀ b, b ≤ f.l → V.heap[b]? = W.heap[b]?) (ha : f.apart) : ShSt f V := by
  obtain ⟨a1, a2, a3, a4⟩ := ha
  exact ⟨(hk _ (by omega)).trans h.L, (hk _ (by omega)).trans h.K, (hk _ (by omega)).trans h.P, (hk _ (by omega)).trans h.R2, (hk _ (by omega)).trans h.R3⟩
set_option maxRecDepth 100000 in
set_option maxHeartbeats 4000000 in
theorem shYield_go (m : Nat) (f : ShFr) (ha : f.apart) (k n : Int) (W : World) (h : ShSt f W) (hn : f.p.duration ≤ n) :
    YieldAt Fence.wide m Tryz.prog f.l #[.int .u64 k, .int .u64 n] W fun e W' => e = .returned (.bool true) ∧ ShSt f W' ∧ W.grownBy W' (some f.l) := by
  obtain ⟨a1, a2, a3, a4⟩ := ha
  refine ⟨f.fn, #[.agg (ptCells f.p f.frame f.A f.n f.cp), .pointer (some ⟨f.ps, 0, none⟩), .pointer (some ⟨f.r2, 0, none⟩), .pointer (some ⟨f.r3, 0, none⟩), undef, undef, .agg (ptCells f.p f.frame f.A f.n f.cp), .func (.func 325) #[] #[.pointer (some ⟨f.pq, 0, none⟩)], .int .u64 k, .int .u64 n, undef, undef, undef, undef, undef, undef], shAssign, shBody, by simpa [ShFr.lp] using run_yield (P := Tryz.prog) (args := #[.int .u64 k, .int .u64 n]) h.L rfl, roundIn_of_wpIn trivial ?_⟩
  have hbr := run_beginRound (P := Tryz.prog) h.L rfl
  obtain ⟨W3, hW3⟩ : ∃ W3, W.putObj f.l (.loop { f.lp .ready none with state := .busy }) = W3 := ⟨_, rfl⟩
  rw [hW3] at hbr
  have hg3 : W.grownBy W3 (some f.l) := by rw [← hW3]; exact gB_putObj _ _ _
  have hL3 : W3.heap[f.l]? = some (.loop { f.lp .ready none with state := .busy }) := by rw [← hW3]; exact World.putObj_heap_same (Array.getElem?_eq_some_iff.1 h.L).1
  have old : ∀ b, b ≠ f.l → W3.heap[b]? = W.heap[b]? := fun b hb => by rw [← hW3]; exact World.putObj_heap_other hb
  have hP3 : Blk W3 f.ps 258 (ptCells f.p f.frame f.A f.n f.cp) := (old _ (by omega)).trans h.P
  have c3 := hP3.cell 3
  have hpl := hP3.lt
  simp at c3
  have HOLD := Lib.hid old
  have H := Lib.hid h
  have hnd : decide (n < f.p.duration) = false := decide_eq_false (by omega)
  clear hW3 h hP3 old
  unfold shAssign
  gi_wp2_with ((rw [Oper.semAt_eq _ _ _ (fun c h => by cases h)]; go_simp; try go_bits))
  unfold shBody
  gi_wp2_with ((rw [Oper.semAt_eq _ _ _ (fun c h => by cases h)]; go_simp; try go_bits))
  refine ⟨_, _, run_endRound none hL3, rfl, ?_, ?_⟩
  · exact ⟨World.putObj_heap_same (Array.getElem?_eq_some_iff.1 hL3).1, (World.putObj_heap_other (by omega)).trans ((HOLD.out _ (by omega)).trans H.out.K), (World.putObj_heap_other (by omega)).trans ((HOLD.out _ (by omega)).trans H.out.P), (World.putObj_heap_other (by omega)).trans ((HOLD.out _ (by omega)).trans H.out.R2), (World.putObj_heap_other (by omega)).trans ((HOLD.out _ (by omega)).trans H.out.R3)⟩
  · exact hg3.trans (gB_putObj _ _ _)
set_option maxRecDepth 100000 in
set_option maxHeartbeats 4000000 in
theorem shYield_no (m : Nat) (f : ShFr) (ha : f.apart) (k n : Int) (W : World) (h : ShSt f W) (hn : n < f.p.duration) :
    YieldAt Fence.wide m Tryz.prog f.l #[.int .u64 k, .int .u64 n] W fun e W' => e = .returned (.bool false) ∧ ShDn f k W' ∧ Below f.r2 W W' := by
  obtain ⟨a1, a2, a3, a4⟩ := ha
  refine ⟨f.fn, #[.agg (ptCells f.p f.frame f.A f.n f.cp), .pointer (some ⟨f.ps, 0, none⟩), .pointer (some ⟨f.r2, 0, none⟩), .pointer (some ⟨f.r3, 0, none⟩), undef, undef, .agg (ptCells f.p f.frame f.A f.n f.cp), .func (.func 325) #[] #[.pointer (some ⟨f.pq, 0, none⟩)], .int .u64 k, .int .u64 n, undef, undef, undef, undef, undef, undef], shAssign, shBody, by simpa [ShFr.lp] using run_yield (P := Tryz.prog) (args := #[.int .u64 k, .int .u64 n]) h.L rfl, roundIn_of_wpIn trivial ?_⟩
  have hbr := run_beginRound (P := Tryz.prog) h.L rfl
  obtain ⟨W3, hW3⟩ : ∃ W3, W.putObj f.l (.loop { f.lp .ready none with state := .busy }) = W3 := ⟨_, rfl⟩
  rw [hW3] at hbr
  have hg3 : W.grownBy W3 (some f.l) := by rw [← hW3]; exact gB_putObj _ _ _
  have hL3 : W3.heap[f.l]? = some (.loop { f.lp .ready none with state := .busy }) := by rw [← hW3]; exact World.putObj_heap_same (Array.getElem?_eq_some_iff.1 h.L).1
  have old : ∀ b, b ≠ f.l → W3.heap[b]? = W.heap[b]? := fun b hb => by rw [← hW3]; exact World.putObj_heap_other hb
  have hP3 : Blk W3 f.ps 258 (ptCells f.p f.frame f.A f.n f.cp) := (old _ (by omega)).trans h.P
  have hR2 : Blk W3 f.r2 22 #[.int .u64 0] := (old _ (by omega)).trans h.R2
  have hR3 : Blk W3 f.r3 4 #[.bool false] := (old _ (by omega)).trans h.R3
  have hK3 : W3.heap[f.D]? = some (.deferred (some [])) := (old _ (by omega)).trans h.K
  have c3 := hP3.cell 3
  have c20 := hR2.cell 0
  have c30 := hR3.cell 0
  have f20 := hR2.frozen 0
  have f30 := hR3.frozen 0
  have hpl := hP3.lt
  simp at c3 c20 c30
  have HR2 := Lib.hid hR2
  have HR3 := Lib.hid hR3
  have HK3 := Lib.hid hK3
  have HG3 := Lib.hid hg3
  have H := Lib.hid h
  have hL5 : ((W3.setCell ⟨f.r2, 0, none⟩ (.int .u64 k)).setCell ⟨f.r3, 0, none⟩ (.bool true)).heap[f.l]? = some (.loop { f.lp .ready none with state := .busy }) :=
    (Below.heap_setCell _ _ _ _ (by show f.l ≠ f.r3; omega)).trans ((Below.heap_setCell _ _ _ _ (by show f.l ≠ f.r2; omega)).trans hL3)
  have HL5 := Lib.hid hL5
  clear hW3 h hP3 hR2 hR3 hK3 old hg3 hL3 hL5
  unfold shAssign
  gi_wp2_with ((rw [Oper.semAt_eq _ _ _ (fun c h => by cases h)]; go_simp; try go_bits))
  unfold shBody
  gi_wp2_with ((rw [Oper.semAt_eq _ _ _ (fun c h => by cases h)]; go_simp; try go_bits))
  refine ⟨_, _, run_endRound (some .ret) HL5.out, rfl, ⟨World.putObj_heap_same (Array.getElem?_eq_some_iff.1 HL5.out).1, ?_, ?_, ?_⟩, ?_⟩
  · exact (World.putObj_heap_other (by omega)).trans ((Below.heap_setCell _ _ _ _ (by show f.D ≠ f.r3; omega)).trans ((Below.heap_setCell _ _ _ _ (by show f.D ≠ f.r2; omega)).trans HK3.out))
  · exact (World.putObj_heap_other (by omega)).trans (((HR2.out.set_ 0 (.int .u64 k)).far (by show f.r2 ≠ f.r3; omega) _).trans rfl)
  · exact (World.putObj_heap_other (by omega)).trans ((HR3.out.far (by show f.r3 ≠ f.r2; omega) _).set_ 0 (.bool true))
  · have hlt := (Array.getElem?_eq_some_iff.1 H.out.L).1
    have hb0 : Below f.r2 W W3 := (Below.refl _ _).grown HG3.out (by omega) (fun k e => by cases e; omega)
    have hb1 := (Below.setCell hb0 (p := ⟨f.r2, 0, none⟩) (Nat.le_refl _) (.int .u64 k)).setCell (p := ⟨f.r3, 0, none⟩) (by show f.r2 ≤ f.r3; omega) (.bool true)
    exact hb1.grown (gB_putObj _ _ _) (Nat.le_trans (by omega) hb1.size) (fun k e => by cases e; omega)
end Go.Proofs.YtpedlbjbbcbbkaaGreat
namespace Go.Proofs.YtpedlbjbbcbbkaaGreat
open Go.RowKit Go.Maps Go.Shelf
/-- where the iterator stands: the loop that it serves, the partition's box, its own boxes -/
structure DPs (f : ShFr) (L : List Win) (w : World) (yb nb tb : Nat) (next t : Int) (W : World) : Prop where
  sh : ShSt f W
  PQ : Blk W f.pq 258 (ptCells f.p f.frame f.A f.n f.cp)
  YB : Blk W yb 273 #[.func (.yield f.l) #[] #[]]
  NB : Blk W nb 22 #[.int .u64 next]
  TB : Blk W tb 22 #[.int .u64 t]
  bel : Below f.ps w W
structure PApart (f : ShFr) (yb nb tb : Nat) : Prop where
  a : f.apart
  q1 : f.r3 < f.pq
  q2 : f.pq < f.D
  q3 : f.l < yb
  q4 : yb < nb
  q5 : nb < tb
set_option maxRecDepth 100000 in
set_option maxHeartbeats 4000000 in
theorem done_go (f : ShFr) (L : List Win) (w : World) (yb nb tb : Nat) (ha : PApart f yb nb tb) (next t k n : Int) (W : World) (h : DPs f L w yb nb tb next t W) (hn : f.p.duration ≤ n) (hk0 : 0 ≤ k) (hk : k + 1 ≤ 18446744073709551615) :
    Calls Tryz.prog 326 #[.int .u64 k, .int .u64 n, .pointer (some ⟨nb, 0, none⟩), .pointer (some ⟨tb, 0, none⟩), .pointer (some ⟨yb, 0, none⟩)] W fun e W' => e = .returned (.bool false) ∧ DPs f L w yb nb tb (k + 1) 0 W' ∧ W.heap.size ≤ W'.heap.size ∧ ∀ b, tb < b → b < W.heap.size → W'.heap[b]? = W.heap[b]? := by
  obtain ⟨⟨a1, a2, a3, a4⟩, q1, q2, q3, q4, q5⟩ := ha
  obtain ⟨W1, hW1⟩ : ∃ W1, (W.setCell ⟨nb, 0, none⟩ (.int .u64 (k + 1))).setCell ⟨tb, 0, none⟩ (.int .u64 0) = W1 := ⟨_, rfl⟩
  have old : ∀ b, b ≠ nb → b ≠ tb → W1.heap[b]? = W.heap[b]? := fun b h1 h2 => by rw [← hW1]; exact (Below.heap_setCell _ _ _ _ (by show b ≠ tb; exact h2)).trans (Below.heap_setCell _ _ _ _ (by show b ≠ nb; exact h1))
  have hsz : W1.heap.size = W.heap.size := by rw [← hW1]; simp
  have hsh : ShSt f W1 := h.sh.other (fun b hb => old b (by omega) (by omega)) ⟨a1, a2, a3, a4⟩
  have hnb : Blk W1 nb 22 #[.int .u64 (k + 1)] := by rw [← hW1]; exact (h.NB.set_ 0 (.int .u64 (k + 1))).far (by show nb ≠ tb; omega) _
  have htb : Blk W1 tb 22 #[.int .u64 0] := by rw [← hW1]; exact (h.TB.far (by show tb ≠ nb; omega) _).set_ 0 (.int .u64 0)
  have hyb : Blk W1 yb 273 #[.func (.yield f.l) #[] #[]] := (old _ (by omega) (by omega)).trans h.YB
  have hpq : Blk W1 f.pq 258 (ptCells f.p f.frame f.A f.n f.cp) := (old _ (by omega) (by omega)).trans h.PQ
  have hbel : Below f.ps w W1 := by rw [← hW1]; exact (h.bel.setCell (p := ⟨nb, 0, none⟩) (by show f.ps ≤ nb; omega) _).setCell (p := ⟨tb, 0, none⟩) (by show f.ps ≤ tb; omega) _
  obtain ⟨fn, tmps, assign, body, hy, hRd⟩ := shYield_go 2 f ⟨a1, a2, a3, a4⟩ k n W1 hsh hn
  have c0 := h.NB.cell 0
  have c1 := h.TB.cell 0
  have c2 := h.YB.cell 0
  rw [← hW1] at hy hRd
  have f0 := h.NB.frozen 0
  have f1 := h.TB.frozen 0
  simp at c0 c1 c2
  have HW := Lib.hid hW1
  have HOLD := Lib.hid old
  have HNB := Lib.hid hnb
  have HTB := Lib.hid htb
  have HYB := Lib.hid hyb
  have HPQ := Lib.hid hpq
  have HBEL := Lib.hid hbel
  have HSZ := Lib.hid hsz
  have HL := Lib.hid (Array.getElem?_eq_some_iff.1 h.sh.L).1
  clear hW1 old hsz hsh hnb htb hyb hpq hbel h
  refine (callsIn_wide (n := 3)).1 ?_
  refine callsIn_of_wp Tryz.func326 rfl trivial ?_ rfl
  simp only [Tryz.ntmps326, List.size_toArray, List.length_cons, List.length_nil, Nat.reduceAdd, Nat.reduceSub, Array.replicate_succ, Array.replicate_zero, List.push_toArray, List.append_toArray, List.nil_append, List.cons_append]
  gi_wp2_with fail
  refine hRd.mono ?_
  rintro e W3 ⟨rfl, hs3, hg3⟩
  rw [HW.out] at hg3
  have HG := Lib.hid hg3
  have HS := Lib.hid hs3
  clear hg3 hs3 hy hRd c0 c1 c2 f0 f1
  gi_wp2
  go_ret
  have hl := HL.out
  have hz := HSZ.out
  have kp : ∀ b, b ≠ f.l → b < W.heap.size → W3.heap[b]? = W1.heap[b]? := fun b hb hlt => HG.out.block b (by omega) (fun e => hb (by cases e; rfl))
  have lt1 := HYB.out.lt
  have lt2 := HNB.out.lt
  have lt3 := HTB.out.lt
  have lt4 := HPQ.out.lt
  refine ⟨rfl, ⟨HS.out, (kp _ (by omega) (by omega)).trans HPQ.out, (kp _ (by omega) (by omega)).trans HYB.out, (kp _ (by omega) (by omega)).trans HNB.out, (kp _ (by omega) (by omega)).trans HTB.out, HBEL.out.grown HG.out (by omega) (fun k e => by cases e; omega)⟩, by have := HG.out.size; omega, fun b hb hlt => (kp b (by omega) hlt).trans (HOLD.out b (by omega) (by omega))⟩
set_option maxRecDepth 100000 in
set_option maxHeartbeats 4000000 in
theorem done_no (f : ShFr) (L : List Win) (w : World) (yb nb tb : Nat) (ha : PApart f yb nb tb) (next t k n : Int) (W : World) (h : DPs f L w yb nb tb next t W) (hn : n < f.p.duration) (hk0 : 0 ≤ k) (hk : k + 1 ≤ 18446744073709551615) :
    Calls Tryz.prog 326 #[.int .u64 k, .int .u64 n, .pointer (some ⟨nb, 0, none⟩), .pointer (some ⟨tb, 0, none⟩), .pointer (some ⟨yb, 0, none⟩)] W fun e W' => e = .returned (.bool true) ∧ ShDn f k W' ∧ Below f.ps w W' := by
  obtain ⟨⟨a1, a2, a3, a4⟩, q1, q2, q3, q4, q5⟩ := ha
  obtain ⟨W1, hW1⟩ : ∃ W1, (W.setCell ⟨nb, 0, none⟩ (.int .u64 (k + 1))).setCell ⟨tb, 0, none⟩ (.int .u64 0) = W1 := ⟨_, rfl⟩
  have old : ∀ b, b ≠ nb → b ≠ tb → W1.heap[b]? = W.heap[b]? := fun b h1 h2 => by rw [← hW1]; exact (Below.heap_setCell _ _ _ _ (by show b ≠ tb; exact h2)).trans (Below.heap_setCell _ _ _ _ (by show b ≠ nb; exact h1))
  have hsz : W1.heap.size = W.heap.size := by rw [← hW1]; simp
  have hsh : ShSt f W1 := h.sh.other (fun b hb => old b (by omega) (by omega)) ⟨a1, a2, a3, a4⟩
  have hnb : Blk W1 nb 22 #[.int .u64 (k + 1)] := by rw [← hW1]; exact (h.NB.set_ 0 (.int .u64 (k + 1))).far (by show nb ≠ tb; omega) _
  have htb : Blk W1 tb 22 #[.int .u64 0] := by rw [← hW1]; exact (h.TB.far (by show tb ≠ nb; omega) _).set_ 0 (.int .u64 0)
  have hyb : Blk W1 yb 273 #[.func (.yield f.l) #[] #[]] := (old _ (by omega) (by omega)).trans h.YB
  have hpq : Blk W1 f.pq 258 (ptCells f.p f.frame f.A f.n f.cp) := (old _ (by omega) (by omega)).trans h.PQ
  have hbel : Below f.ps w W1 := by rw [← hW1]; exact (h.bel.setCell (p := ⟨nb, 0, none⟩) (by show f.ps ≤ nb; omega) _).setCell (p := ⟨tb, 0, none⟩) (by show f.ps ≤ tb; omega) _
  obtain ⟨fn, tmps, assign, body, hy, hRd⟩ := shYield_no 2 f ⟨a1, a2, a3, a4⟩ k n W1 hsh hn
  have c0 := h.NB.cell 0
  have c1 := h.TB.cell 0
  have c2 := h.YB.cell 0
  rw [← hW1] at hy hRd
  have f0 := h.NB.frozen 0
  have f1 := h.TB.frozen 0
  simp at c0 c1 c2
  have HW := Lib.hid hW1
  have HBEL := Lib.hid hbel
  clear hW1 old hsz hsh hnb htb hyb hpq hbel h
  refine (callsIn_wide (n := 3)).1 ?_
  refine callsIn_of_wp Tryz.func326 rfl trivial ?_ rfl
  simp only [Tryz.ntmps326, List.size_toArray, List.length_cons, List.length_nil, Nat.reduceAdd, Nat.reduceSub, Array.replicate_succ, Array.replicate_zero, List.push_toArray, List.append_toArray, List.nil_append, List.cons_append]
  gi_wp2_with fail
  refine hRd.mono ?_
  rintro e W3 ⟨rfl, hs3, hb3⟩
  rw [HW.out] at hb3
  have HB := Lib.hid (HBEL.out.trans (hb3.mono (by omega)))
  have HS := Lib.hid hs3
  clear hb3 hs3 hy hRd c0 c1 c2 f0 f1
  gi_wp2
  go_ret
  exact ⟨rfl, HS.out, HB.out⟩
end Go.Proofs.YtpedlbjbbcbbkaaGreat
