/-
  How an argument of type Config is opened: its value, its records as plain data, and its bulk. No condition.
-/
import Derived.Test.YtldchpmilknlmaaGreatRows
import Derived.Test.YtldchpmilknlmaaGreatCfg
import Derived.ProofKit
import Derived.OpenShut
import Derived.JoinedCond
import Derived.Deep.Slices
namespace Go.Proofs.YtldchpmilknlmaaGreat
open Go.RowKit Go.ChangeShapes Go.WideShapes Go.ChangeAt Go.Deep
instance : Inhabited Par := ⟨⟨0, .empty, 0, 0⟩⟩
instance : Inhabited Win := ⟨⟨0, 0, 0⟩⟩
instance : Inhabited Reg := ⟨⟨0, 0, 0, 0, false⟩⟩
instance : Inhabited Prt := ⟨⟨0, 0, .empty, false, false, 0⟩⟩
instance : Inhabited Chn := ⟨⟨0, 0, []⟩⟩
theorem bulk_one {H : Type} (d : DataW H) : 1 ≤ Rows.uptoBulk d := by
  cases d with
  | lit l => cases l <;> simp [Rows.uptoBulk]
  | nil => simp [Rows.uptoBulk]
  | ptr d => simp [Rows.uptoBulk]
  | slice elems spare => simp [Rows.uptoBulk]
  | agg parts => simp [Rows.uptoBulk]
  | iface t d => simp [Rows.uptoBulk]
  | map entries => simp [Rows.uptoBulk]
  | held h => simp [Rows.uptoBulk]
theorem bulk_app {H : Type} (l r : List (DataW H)) : Rows.uptoBulkAll (l ++ r) = Rows.uptoBulkAll l + Rows.uptoBulkAll r := by
  induction l with
  | nil => simp [Rows.uptoBulkAll]
  | cons x l ih => simp only [List.cons_append, Rows.uptoBulkAll, ih]; omega
theorem len3 {α : Type} {l : List α} (h : l.length = 3) : ∃ a b c, l = [a, b, c] := by
  match l, h with
  | [a, b, c], _ => exact ⟨a, b, c, rfl⟩
theorem len4 {α : Type} {l : List α} (h : l.length = 4) : ∃ a b c d, l = [a, b, c, d] := by
  match l, h with
  | [a, b, c, d], _ => exact ⟨a, b, c, d, rfl⟩
theorem len5 {α : Type} {l : List α} (h : l.length = 5) : ∃ a b c d e, l = [a, b, c, d, e] := by
  match l, h with
  | [a, b, c, d, e], _ => exact ⟨a, b, c, d, e, rfl⟩
theorem len6 {α : Type} {l : List α} (h : l.length = 6) : ∃ a b c d e f, l = [a, b, c, d, e, f] := by
  match l, h with
  | [a, b, c, d, e, f], _ => exact ⟨a, b, c, d, e, f, rfl⟩
def sumBy {α : Type} (g : α → Nat) (l : List α) : Nat := (l.map g).sum
/-- rows of cells, one for each element -/
def RowsOf {α : Type} (rel : α → List Value → Prop) : List α → List Value → Prop
  | [], cs => cs = []
  | x :: r, cs => ∃ c0 c1, cs = c0 ++ c1 ∧ rel x c0 ∧ RowsOf rel r c1
theorem rowsOf_flat {α : Type} {f : α → List Value} : ∀ {l : List α} {cs : List Value}, RowsOf (fun x c => c = f x) l cs → cs = l.flatMap f
  | [], _, h => h
  | x :: r, _, ⟨c0, c1, e, h1, h2⟩ => by rw [e, h1, rowsOf_flat h2, List.flatMap_cons]
theorem rowsOf_chns {w : World} {B : Nat} : ∀ {l : List Chn} {cs : List Value}, RowsOf (ChnC w B) l cs → ChnsC w B l cs
  | [], _, h => h
  | _ :: _, _, ⟨c0, c1, e, h1, h2⟩ => ⟨c0, c1, e, h1, rowsOf_chns h2⟩
section
variable {H : Type} {enc : TypeId × Value → H} {P : Program} {w : World} {base : Nat} {spare : Nat → Bool} {held : Bool}
theorem open_elems {α : Type} [Inhabited α] {rel : α → List Value → Prop} {ok : α → Prop} {g : α → Nat} {sz n : Nat} {e : TypeId} {a : Addr}
    (hC : P.cellsOf e = sz) (hel : ∀ n cs (y : DataW H × List MemPlace), DataW.trod enc P w base spare held n e cs = some y → ∃ x : α, rel x cs ∧ ok x ∧ g x + 1 ≤ Rows.uptoBulk y.1) :
    ∀ (elems : List (DataW H × List MemPlace)) (k : Nat), (∀ i, i < elems.length → (w.cells? base (a.add ((k + i) * sz)) sz).bind (DataW.trod enc P w base spare held n e) = elems[i]?) →
      ∃ (l : List α) (cs : List Value), l.length = elems.length ∧ RowsOf rel l cs ∧ cs.length = elems.length * sz ∧ (∀ x ∈ l, ok x) ∧ sumBy g l + l.length ≤ Rows.uptoBulkAll (elems.map (·.1)) ∧
        ∀ j u, cs[j]? = some u → w.cell? (a.add (k * sz + j)) = some u
  | [], k, _ => ⟨[], [], rfl, rfl, by simp, by simp, by simp [sumBy, Rows.uptoBulkAll], by simp⟩
  | y :: r, k, h => by
    have h0 := h 0 (by simp)
    rw [Nat.add_zero] at h0
    obtain ⟨c0, hc0, ht0⟩ := Option.bind_eq_some_iff.1 (h0.trans (by simp : (y :: r)[0]? = some y))
    obtain ⟨x, hrel, hok, hg⟩ := hel n c0 y ht0
    obtain ⟨_, hl0, hat⟩ := World.cells?_some hc0
    obtain ⟨l, cs, h1, h2, h3, h4, h5, h6⟩ := open_elems (a := a) hC hel r (k + 1) (fun i hi => by
      have := h (i + 1) (by simpa using hi)
      rw [show k + 1 + i = k + (i + 1) from by omega, this]
      simp)
    refine ⟨x :: l, c0 ++ cs, by simp [h1], ⟨c0, cs, rfl, hrel, h2⟩, by simp [hl0, h3, Nat.succ_mul]; omega, ?_, ?_, ?_⟩
    · intro z hz
      rcases List.mem_cons.1 hz with rfl | hz
      · exact hok
      · exact h4 z hz
    · simp only [sumBy, List.map_cons, List.sum_cons, List.length_cons, Rows.uptoBulkAll] at h5 ⊢
      omega
    · intro j u hu
      rcases Nat.lt_or_ge j sz with hj | hj
      · rw [List.getElem?_append_left (by omega)] at hu
        have := hat j hj
        rw [Go.Deep.add_add] at this
        rw [this]; exact hu
      · rw [List.getElem?_append_right (by omega), hl0] at hu
        have := h6 (j - sz) u hu
        rwa [show (k + 1) * sz + (j - sz) = k * sz + j from by rw [Nat.succ_mul]; omega] at this
theorem open_list {α : Type} [Inhabited α] {rel : α → List Value → Prop} {ok : α → Prop} {g : α → Nat} {sz : Nat} {t e : TypeId} {fuel : Nat} {cs : List Value} {x : DataW H × List MemPlace}
    (ht : P.underlying t = some (.slice e)) (hC : P.cellsOf e = sz) (hsz : 0 < sz)
    (hel : ∀ n cs (y : DataW H × List MemPlace), DataW.trod enc P w base spare held n e cs = some y → ∃ x : α, rel x cs ∧ ok x ∧ g x + 1 ≤ Rows.uptoBulk y.1) (h : DataW.trod enc P w base spare held fuel t cs = some x) :
    ∃ (A : Option Addr) (c : Nat) (l : List α) (rows : List Value), cs = [.slice A l.length c] ∧ l.length ≤ c ∧ c ≤ maxLen ∧ RowsOf rel l rows ∧ Rd w w.heap.size sz A l.length rows ∧ (∀ x ∈ l, ok x) ∧ sumBy g l + l.length + 1 ≤ Rows.uptoBulk x.1 := by
  rcases DataW.trod_slice ht h with ⟨rfl, rfl⟩ | ⟨a, len, cap, elems, rest, n, _, rfl, rfl, _, hl, hm, hlen, hel', _, _⟩
  · exact ⟨none, 0, [], [], rfl, Nat.le_refl _, Nat.zero_le _, rfl, Rd.nil, by simp, by simp [sumBy, Rows.uptoBulk]⟩
  · rw [hC] at hel'
    obtain ⟨l, rows, h1, h2, h3, h4, h5, h6⟩ := open_elems (a := a) hC hel elems 0 (fun i hi => by rw [Nat.zero_add]; exact hel' i (by omega))
    refine ⟨some a, cap, l, rows, by rw [h1, hlen], by omega, hm, h2, ⟨by rw [h3, h1], fun hn => ?_⟩, h4, ?_⟩
    · have hpos : 0 < rows.length := by rw [h3, ← h1]; exact Nat.mul_pos hn hsz
      have hc0 := h6 0 _ (List.getElem?_eq_getElem hpos)
      rw [Nat.zero_mul, Nat.zero_add] at hc0
      have hsp := cell_spot hc0
      have ha0 : a.add 0 = a := by simp [Addr.add]
      rw [ha0] at hsp hc0
      refine ⟨a.block, a.off, by rw [← hsp], cell_lt hc0, fun j u hu => ?_⟩
      have := h6 j u hu
      rw [Nat.zero_mul, Nat.zero_add, hsp, addr_add] at this
      exact this
    · simp only [Rows.uptoBulk]
      omega
end
section
variable {H : Type} {enc : TypeId × Value → H} {w : World} {base : Nat} {spare : Nat → Bool} {held : Bool}
theorem cellsU16 : Tryz.prog.cellsOf 34 = 1 := by kernel_rfl
theorem cellsU64 : Tryz.prog.cellsOf 22 = 1 := by kernel_rfl
theorem cellsU32 : Tryz.prog.cellsOf 41 = 1 := by kernel_rfl
theorem cellsU8 : Tryz.prog.cellsOf 5 = 1 := by kernel_rfl
theorem cellsStr : Tryz.prog.cellsOf 9 = 1 := by kernel_rfl
theorem cellsBool : Tryz.prog.cellsOf 4 = 1 := by kernel_rfl
theorem sizeStr (s : ByteArray) : s.data.toList.length = s.size := by rw [Array.length_toList]; rfl
theorem cellsPar : Tryz.prog.cellsOf 36 = 4 := by kernel_rfl
theorem open_par {n : Nat} {cs : List Value} {y : DataW H × List MemPlace} (h : DataW.trod enc Tryz.prog w base spare held n 36 cs = some y) : ∃ x : Par, cs = x.cells ∧ x.ok ∧ (fun x => x.name.size) x + 1 ≤ Rows.uptoBulk y.1 := by
  obtain ⟨xs, m, _, hx, hl, hlen, hf⟩ := DataW.trod_struct Tryz.underlying36 h
  rw [cellsPar] at hl
  obtain ⟨c0, c1, c2, c3, rfl⟩ := len4 hl
  obtain ⟨y0, y1, y2, y3, rfl⟩ := len4 (hlen.trans rfl)
  have h0 := hf 0 _ rfl
  simp [cellsU16] at h0
  obtain ⟨v0, e0, d0, w0⟩ := DataW.trod_int Tryz.underlying34 h0
  simp at e0
  subst e0 d0
  have h1 := hf 1 _ rfl
  simp [cellsStr] at h1
  obtain ⟨v1, e1, d1, w1⟩ := DataW.trod_string Tryz.underlying9 h1
  simp at e1
  subst e1 d1
  have h2 := hf 2 _ rfl
  simp [cellsU64] at h2
  obtain ⟨v2, e2, d2, w2⟩ := DataW.trod_int Tryz.underlying22 h2
  simp at e2
  subst e2 d2
  have h3 := hf 3 _ rfl
  simp [cellsU64] at h3
  obtain ⟨v3, e3, d3, w3⟩ := DataW.trod_int Tryz.underlying22 h3
  simp at e3
  subst e3 d3
  subst hx
  refine ⟨⟨v0, v1, v2, v3⟩, rfl, ⟨w0, w1, w2, w3⟩, ?_⟩
  simp [Rows.uptoBulk, Rows.uptoBulkAll]
  omega
theorem cellsWin : Tryz.prog.cellsOf 38 = 3 := by kernel_rfl
theorem open_win {n : Nat} {cs : List Value} {y : DataW H × List MemPlace} (h : DataW.trod enc Tryz.prog w base spare held n 38 cs = some y) : ∃ x : Win, cs = x.cells ∧ x.ok ∧ (fun _ => 0) x + 1 ≤ Rows.uptoBulk y.1 := by
  obtain ⟨xs, m, _, hx, hl, hlen, hf⟩ := DataW.trod_struct Tryz.underlying38 h
  rw [cellsWin] at hl
  obtain ⟨c0, c1, c2, rfl⟩ := len3 hl
  obtain ⟨y0, y1, y2, rfl⟩ := len3 (hlen.trans rfl)
  have h0 := hf 0 _ rfl
  simp [cellsU64] at h0
  obtain ⟨v0, e0, d0, w0⟩ := DataW.trod_int Tryz.underlying22 h0
  simp at e0
  subst e0 d0
  have h1 := hf 1 _ rfl
  simp [cellsU64] at h1
  obtain ⟨v1, e1, d1, w1⟩ := DataW.trod_int Tryz.underlying22 h1
  simp at e1
  subst e1 d1
  have h2 := hf 2 _ rfl
  simp [cellsU16] at h2
  obtain ⟨v2, e2, d2, w2⟩ := DataW.trod_int Tryz.underlying34 h2
  simp at e2
  subst e2 d2
  subst hx
  refine ⟨⟨v0, v1, v2⟩, rfl, ⟨w0, w1, w2⟩, ?_⟩
  simp [Rows.uptoBulk, Rows.uptoBulkAll]
  
theorem cellsReg : Tryz.prog.cellsOf 40 = 5 := by kernel_rfl
theorem open_reg {n : Nat} {cs : List Value} {y : DataW H × List MemPlace} (h : DataW.trod enc Tryz.prog w base spare held n 40 cs = some y) : ∃ x : Reg, cs = x.cells ∧ x.ok ∧ (fun _ => 0) x + 1 ≤ Rows.uptoBulk y.1 := by
  obtain ⟨xs, m, _, hx, hl, hlen, hf⟩ := DataW.trod_struct Tryz.underlying40 h
  rw [cellsReg] at hl
  obtain ⟨c0, c1, c2, c3, c4, rfl⟩ := len5 hl
  obtain ⟨y0, y1, y2, y3, y4, rfl⟩ := len5 (hlen.trans rfl)
  have h0 := hf 0 _ rfl
  simp [cellsU64] at h0
  obtain ⟨v0, e0, d0, w0⟩ := DataW.trod_int Tryz.underlying22 h0
  simp at e0
  subst e0 d0
  have h1 := hf 1 _ rfl
  simp [cellsU64] at h1
  obtain ⟨v1, e1, d1, w1⟩ := DataW.trod_int Tryz.underlying22 h1
  simp at e1
  subst e1 d1
  have h2 := hf 2 _ rfl
  simp [cellsU16] at h2
  obtain ⟨v2, e2, d2, w2⟩ := DataW.trod_int Tryz.underlying34 h2
  simp at e2
  subst e2 d2
  have h3 := hf 3 _ rfl
  simp [cellsU8] at h3
  obtain ⟨v3, e3, d3, w3⟩ := DataW.trod_int Tryz.underlying5 h3
  simp at e3
  subst e3 d3
  have h4 := hf 4 _ rfl
  simp [cellsBool] at h4
  obtain ⟨v4, e4, d4⟩ := DataW.trod_bool Tryz.underlying4 h4
  simp at e4
  subst e4 d4
  subst hx
  refine ⟨⟨v0, v1, v2, v3, v4⟩, rfl, ⟨w0, w1, w2, w3⟩, ?_⟩
  simp [Rows.uptoBulk, Rows.uptoBulkAll]
  
theorem cellsPrt : Tryz.prog.cellsOf 43 = 6 := by kernel_rfl
theorem open_prt {n : Nat} {cs : List Value} {y : DataW H × List MemPlace} (h : DataW.trod enc Tryz.prog w base spare held n 43 cs = some y) : ∃ x : Prt, cs = x.cells ∧ x.ok ∧ (fun x => x.name.size) x + 1 ≤ Rows.uptoBulk y.1 := by
  obtain ⟨xs, m, _, hx, hl, hlen, hf⟩ := DataW.trod_struct Tryz.underlying43 h
  rw [cellsPrt] at hl
  obtain ⟨c0, c1, c2, c3, c4, c5, rfl⟩ := len6 hl
  obtain ⟨y0, y1, y2, y3, y4, y5, rfl⟩ := len6 (hlen.trans rfl)
  have h0 := hf 0 _ rfl
  simp [cellsU16] at h0
  obtain ⟨v0, e0, d0, w0⟩ := DataW.trod_int Tryz.underlying34 h0
  simp at e0
  subst e0 d0
  have h1 := hf 1 _ rfl
  simp [cellsU16] at h1
  obtain ⟨v1, e1, d1, w1⟩ := DataW.trod_int Tryz.underlying34 h1
  simp at e1
  subst e1 d1
  have h2 := hf 2 _ rfl
  simp [cellsStr] at h2
  obtain ⟨v2, e2, d2, w2⟩ := DataW.trod_string Tryz.underlying9 h2
  simp at e2
  subst e2 d2
  have h3 := hf 3 _ rfl
  simp [cellsBool] at h3
  obtain ⟨v3, e3, d3⟩ := DataW.trod_bool Tryz.underlying4 h3
  simp at e3
  subst e3 d3
  have h4 := hf 4 _ rfl
  simp [cellsBool] at h4
  obtain ⟨v4, e4, d4⟩ := DataW.trod_bool Tryz.underlying4 h4
  simp at e4
  subst e4 d4
  have h5 := hf 5 _ rfl
  simp [cellsU32] at h5
  obtain ⟨v5, e5, d5, w5⟩ := DataW.trod_int Tryz.underlying41 h5
  simp at e5
  subst e5 d5
  subst hx
  refine ⟨⟨v0, v1, v2, v3, v4, v5⟩, rfl, ⟨w0, w1, w2, w5⟩, ?_⟩
  simp [Rows.uptoBulk, Rows.uptoBulkAll]
  omega
theorem open_u16s {n : Nat} {cs : List Value} {y : DataW H × List MemPlace} (h : DataW.trod enc Tryz.prog w base spare held n 44 cs = some y) :
    ∃ (A : Option Addr) (c : Nat) (l : List Int), cs = [.slice A l.length c] ∧ l.length ≤ c ∧ c ≤ maxLen ∧ Rd w w.heap.size 1 A l.length (l.map (Value.int .u16)) ∧ (∀ x ∈ l, wU16 x) ∧ l.length + 1 ≤ Rows.uptoBulk y.1 := by
  obtain ⟨A, c, l, rows, h1, h2, h3, h4, h5, h6, h7⟩ := open_list (α := Int) (rel := fun x c => c = [Value.int .u16 x]) (ok := wU16) (g := fun _ => 0) Tryz.underlying44 cellsU16 (by omega) (fun n cs y hy => by
    obtain ⟨v, e, d, hw⟩ := DataW.trod_int Tryz.underlying34 hy
    exact ⟨v, e, hw, by subst d; simp [Rows.uptoBulk]⟩) h
  have hr := rowsOf_flat h4
  rw [← List.map_eq_flatMap] at hr
  refine ⟨A, c, l, h1, h2, h3, by rw [hr] at h5; simpa using h5, h6, by omega⟩
theorem cellsSl : Tryz.prog.cellsOf 44 = 1 := by kernel_rfl
theorem cellsChn : Tryz.prog.cellsOf 46 = 3 := by kernel_rfl
theorem open_chn {n : Nat} {cs : List Value} {y : DataW H × List MemPlace} (h : DataW.trod enc Tryz.prog w base spare held n 46 cs = some y) : ∃ x : Chn, ChnC w w.heap.size x cs ∧ x.ok ∧ x.dests.length + 1 ≤ Rows.uptoBulk y.1 := by
  obtain ⟨xs, m, _, hx, hl, hlen, hf⟩ := DataW.trod_struct Tryz.underlying46 h
  rw [cellsChn] at hl
  obtain ⟨c0, c1, c2, rfl⟩ := len3 hl
  obtain ⟨y0, y1, y2, rfl⟩ := len3 (hlen.trans rfl)
  have h0 := hf 0 _ rfl
  simp [cellsU16] at h0
  obtain ⟨v0, e0, d0, w0⟩ := DataW.trod_int Tryz.underlying34 h0
  have h1 := hf 1 _ rfl
  simp [cellsU16] at h1
  obtain ⟨v1, e1, d1, w1⟩ := DataW.trod_int Tryz.underlying34 h1
  have h2 := hf 2 _ rfl
  simp [cellsSl] at h2
  obtain ⟨A, c, l, e2, q1, q2, q3, q4, q5⟩ := open_u16s h2
  simp at e0 e1 e2
  subst e0 e1 e2 d0 d1 hx
  refine ⟨⟨v0, v1, l⟩, ⟨A, c, rfl, q1, q2, q3⟩, ⟨w0, w1, q4⟩, ?_⟩
  simp [Rows.uptoBulk, Rows.uptoBulkAll]
  omega
theorem sumBy_mem {α : Type} (g : α → Nat) : ∀ {l : List α} {x : α}, x ∈ l → g x ≤ sumBy g l
  | y :: r, x, h => by
    simp only [sumBy, List.map_cons, List.sum_cons]
    rcases List.mem_cons.1 h with rfl | h
    · omega
    · have := sumBy_mem g h
      simp only [sumBy] at this
      omega
theorem cellsSPartition : Tryz.prog.cellsOf 23 = 1 := by kernel_rfl
theorem cellsSWindow : Tryz.prog.cellsOf 24 = 1 := by kernel_rfl
theorem cellsSRegion : Tryz.prog.cellsOf 25 = 1 := by kernel_rfl
theorem cellsSPort : Tryz.prog.cellsOf 26 = 1 := by kernel_rfl
theorem cellsSChannel : Tryz.prog.cellsOf 27 = 1 := by kernel_rfl
theorem cellsCfg : Tryz.prog.cellsOf 29 = 6 := by kernel_rfl
theorem open_cfg {n : Nat} {cs : List Value} {y : DataW H × List MemPlace} (h : DataW.trod enc Tryz.prog w base spare held n 29 cs = some y) :
    ∃ (c : Cfg) (A1 A2 A3 A4 A5 : Option Addr) (c1 c2 c3 c4 c5 : Nat), cs = [.int .u64 c.frame, .slice A1 c.parts.length c1, .slice A2 c.wins.length c2, .slice A3 c.regs.length c3, .slice A4 c.ports.length c4, .slice A5 c.chans.length c5] ∧
      CfgR w w.heap.size c A1 A2 A3 A4 A5 c1 c2 c3 c4 c5 ∧ c.ok ∧ c.total ≤ Rows.uptoBulk y.1 ∧ (∀ p ∈ c.parts, p.name.size ≤ Rows.uptoBulk y.1) ∧ (∀ p ∈ c.ports, p.name.size ≤ Rows.uptoBulk y.1) := by
  obtain ⟨xs, m, _, hx, hl, hlen, hf⟩ := DataW.trod_struct Tryz.underlying29 h
  rw [cellsCfg] at hl
  obtain ⟨c0, c1, c2, c3, c4, c5, rfl⟩ := len6 hl
  obtain ⟨y0, y1, y2, y3, y4, y5, rfl⟩ := len6 (hlen.trans rfl)
  have h0 := hf 0 _ rfl
  simp [cellsU64] at h0
  obtain ⟨v0, e0, d0, w0⟩ := DataW.trod_int Tryz.underlying22 h0
  have h1 := hf 1 _ rfl
  simp [cellsSPartition] at h1
  obtain ⟨A1, p1, l1, r1, e1, a1, b1, k1, rd1, o1, g1⟩ := open_list (rel := fun (x : Par) c => c = x.cells) (ok := Par.ok) Tryz.underlying23 cellsPar (by omega) (fun n cs y hy => open_par hy) h1
  have h2 := hf 2 _ rfl
  simp [cellsSWindow] at h2
  obtain ⟨A2, p2, l2, r2, e2, a2, b2, k2, rd2, o2, g2⟩ := open_list (rel := fun (x : Win) c => c = x.cells) (ok := Win.ok) Tryz.underlying24 cellsWin (by omega) (fun n cs y hy => open_win hy) h2
  have h3 := hf 3 _ rfl
  simp [cellsSRegion] at h3
  obtain ⟨A3, p3, l3, r3, e3, a3, b3, k3, rd3, o3, g3⟩ := open_list (rel := fun (x : Reg) c => c = x.cells) (ok := Reg.ok) Tryz.underlying25 cellsReg (by omega) (fun n cs y hy => open_reg hy) h3
  have h4 := hf 4 _ rfl
  simp [cellsSPort] at h4
  obtain ⟨A4, p4, l4, r4, e4, a4, b4, k4, rd4, o4, g4⟩ := open_list (rel := fun (x : Prt) c => c = x.cells) (ok := Prt.ok) Tryz.underlying26 cellsPrt (by omega) (fun n cs y hy => open_prt hy) h4
  have h5 := hf 5 _ rfl
  simp [cellsSChannel] at h5
  obtain ⟨A5, p5, l5, r5, e5, a5, b5, k5, rd5, o5, g5⟩ := open_list (rel := ChnC w w.heap.size) (ok := Chn.ok) (g := fun x => x.dests.length) Tryz.underlying27 cellsChn (by omega) (fun n cs y hy => open_chn hy) h5
  rw [rowsOf_flat k1] at rd1
  rw [rowsOf_flat k2] at rd2
  rw [rowsOf_flat k3] at rd3
  rw [rowsOf_flat k4] at rd4
  simp at e0 e1 e2 e3 e4 e5
  subst e0 e1 e2 e3 e4 e5 d0 hx
  have hb : Rows.uptoBulk (DataW.agg (List.map (·.1) [(DataW.lit (.int .u64 v0), ([] : List MemPlace)), y1, y2, y3, y4, y5])) = 1 + (Rows.uptoBulk y1.1 + (Rows.uptoBulk y2.1 + (Rows.uptoBulk y3.1 + (Rows.uptoBulk y4.1 + (Rows.uptoBulk y5.1 + 0))))) + 1 := by
    simp [Rows.uptoBulk, Rows.uptoBulkAll]
  refine ⟨⟨v0, l1, l2, l3, l4, l5⟩, A1, A2, A3, A4, A5, p1, p2, p3, p4, p5, rfl, ⟨rd1, rd2, rd3, rd4, ⟨r5, rowsOf_chns k5, rd5⟩, ⟨a1, b1⟩, ⟨a2, b2⟩, ⟨a3, b3⟩, ⟨a4, b4⟩, ⟨a5, b5⟩⟩, ⟨w0, o1, o2, o3, o4, o5⟩, ?_, fun p hp => ?_, fun p hp => ?_⟩
  · rw [hb]
    have e : sumBy (fun x : Chn => x.dests.length) l5 = sumDests l5 := rfl
    simp only [Cfg.total]
    omega
  · rw [hb]
    have : p.name.size ≤ sumBy (fun x : Par => x.name.size) l1 := sumBy_mem (fun x : Par => x.name.size) hp
    omega
  · rw [hb]
    have : p.name.size ≤ sumBy (fun x : Prt => x.name.size) l4 := sumBy_mem (fun x : Prt => x.name.size) hp
    omega
end
end Go.Proofs.YtldchpmilknlmaaGreat
