/-
  What conf.Merge keeps in memory while it runs: the configuration under way, its five rows, and the copied destinations. No condition.
-/
import Derived.Test.YtldchpmilknlmaaGreatAppend
import Derived.Test.YtldchpmilknlmaaGreatUniq2
import Derived.Test.YtldchpmilknlmaaGreatOpen
namespace Go.Proofs.YtldchpmilknlmaaGreat
open Go.RowKit
def Cfg.cat (a b : Cfg) : Cfg := ⟨a.frame, a.parts ++ b.parts, a.wins ++ b.wins, a.regs ++ b.regs, a.ports ++ b.ports, a.chans ++ b.chans⟩
def catAll (F : Int) (l : List Cfg) : Cfg := l.foldl Cfg.cat ⟨F, [], [], [], [], []⟩
def sumTot (l : List Cfg) : Nat := (l.map Cfg.total).sum
theorem cat_total (a b : Cfg) : (a.cat b).total = a.total + b.total := by
  simp only [Cfg.total, Cfg.cat, List.length_append, sumDests, List.map_append, List.sum_append]
  omega
/-- a channel whose destinations lie in memory of the call's own -/
def ChnT (w : World) (x : Chn) (cs : List Value) : Prop := ∃ v, cs = [.int .u16 x.id, .int .u16 x.source, v] ∧ w.ownsRow 0 34 1 v x.dests.length (x.dests.map (Value.int .u16))
theorem ChnT.toC {w : World} {x : Chn} {cs : List Value} (h : ChnT w x cs) : ChnC w w.heap.size x cs := by
  obtain ⟨v, rfl, ho⟩ := h
  obtain ⟨A, c, rfl, h1, h2, h3⟩ := own_form ho
  exact ⟨A, c, rfl, h1, h2, h3⟩
theorem rows_map {α : Type} {r r' : α → List Value → Prop} (h : ∀ x c, r x c → r' x c) : ∀ {l : List α} {cs : List Value}, RowsOf r l cs → RowsOf r' l cs
  | [], _, e => e
  | _ :: _, _, ⟨c0, c1, e, h1, h2⟩ => ⟨c0, c1, e, h _ _ h1, rows_map h h2⟩
theorem rows_app {α : Type} {r : α → List Value → Prop} : ∀ {l l' : List α} {cs cs' : List Value}, RowsOf r l cs → RowsOf r l' cs' → RowsOf r (l ++ l') (cs ++ cs')
  | [], _, _, _, h, h' => by subst h; simpa using h'
  | _ :: _, _, _, _, ⟨c0, c1, e, h1, h2⟩, h' => ⟨c0, _, by rw [e, List.append_assoc], h1, rows_app h2 h'⟩
theorem rows_one {α : Type} {r : α → List Value → Prop} {x : α} {c : List Value} (h : r x c) : RowsOf r [x] c := ⟨c, [], by simp, h, rfl⟩
theorem rows_at {α : Type} {r : α → List Value → Prop} {sz : Nat} (hl : ∀ x c, r x c → c.length = sz) : ∀ {l : List α} {cs : List Value}, RowsOf r l cs → ∀ {k : Nat} {x : α}, l[k]? = some x → ∃ c0, r x c0 ∧ ∀ j, j < sz → cs[k * sz + j]? = c0[j]?
  | [], _, _, k, x, hk => by simp at hk
  | y :: l, _, ⟨c0, c1, e, h1, h2⟩, 0, x, hk => by
    simp at hk; subst hk; subst e
    exact ⟨c0, h1, fun j hj => by rw [Nat.zero_mul, Nat.zero_add, List.getElem?_append_left (by rw [hl _ _ h1]; exact hj)]⟩
  | y :: l, _, ⟨c0, c1, e, h1, h2⟩, k + 1, x, hk => by
    subst e
    obtain ⟨d, hd, hj⟩ := rows_at hl h2 (k := k) (x := x) (by simpa using hk)
    exact ⟨d, hd, fun j hlt => by rw [List.getElem?_append_right (by rw [hl _ _ h1, Nat.succ_mul]; omega), hl _ _ h1, show (k + 1) * sz + j - sz = k * sz + j from by rw [Nat.succ_mul]; omega]; exact hj j hlt⟩
theorem rows_chns {w : World} {B : Nat} : ∀ {l : List Chn} {cs : List Value}, RowsOf (ChnC w B) l cs → ChnsC w B l cs
  | [], _, h => h
  | _ :: _, _, ⟨c0, c1, e, h1, h2⟩ => ⟨c0, c1, e, h1, rows_chns h2⟩
theorem own_far {w : World} {base : Nat} {e t : TypeId} {size n : Nat} {v : Value} {xs : List Value} {cs : Array Value} (h : w.ownsRow base e size v n xs) {p : Addr} (hp : Blk w p.block t cs) (hne : t ≠ e) (u : Value) : (w.setCell p u).ownsRow base e size v n xs :=
  by
  refine ⟨h.1, ?_⟩
  rcases h.2 with h2 | ⟨g, cap, cur, rfl, hb, hh, r⟩
  · exact .inl h2
  · refine .inr ⟨g, cap, cur, rfl, hb, (Below.heap_setCell w p u g ?_).trans hh, r⟩
    rintro rfl
    unfold Blk at hp
    rw [hp] at hh
    injection hh with hh
    injection hh with _ hh
    exact hne hh
theorem ChnT.off {w w' : World} {ty : TypeId} {x : Chn} {cs : List Value} (h : ChnT w x cs) (ho : Off ty w w') (hne : 34 ≠ ty) : ChnT w' x cs := by
  obtain ⟨v, e, h1⟩ := h
  exact ⟨v, e, own_off h1 ho hne⟩
theorem ChnT.far {w : World} {x : Chn} {cs : List Value} {t : TypeId} {bs : Array Value} (h : ChnT w x cs) {p : Addr} (hp : Blk w p.block t bs) (hne : t ≠ 34) (u : Value) : ChnT (w.setCell p u) x cs := by
  obtain ⟨v, e, h1⟩ := h
  exact ⟨v, e, own_far h1 hp hne u⟩
theorem ChnT.below {w w' : World} {x : Chn} {cs : List Value} (h : ChnT w x cs) (hb : Below w.heap.size w w') : ChnT w' x cs := by
  obtain ⟨v, e, h1⟩ := h
  exact ⟨v, e, own_below h1 hb⟩
structure MrgSt (w wr : World) (F : Int) (acc : Cfg) (v1 v2 v3 v4 v5 : Value) (rows : List Value) : Prop where
  hz : w.heap.size + 1 < wr.heap.size
  bel : Below w.heap.size w wr
  res : Blk wr w.heap.size 29 #[.int .u64 0, .slice none 0 0, .slice none 0 0, .slice none 0 0, .slice none 0 0, .slice none 0 0]
  out : Blk wr (w.heap.size + 1) 29 #[.int .u64 F, v1, v2, v3, v4, v5]
  o1 : wr.ownsRow (w.heap.size + 2) 36 4 v1 acc.parts.length (acc.parts.flatMap Par.cells)
  o2 : wr.ownsRow (w.heap.size + 2) 38 3 v2 acc.wins.length (acc.wins.flatMap Win.cells)
  o3 : wr.ownsRow (w.heap.size + 2) 40 5 v3 acc.regs.length (acc.regs.flatMap Reg.cells)
  o4 : wr.ownsRow (w.heap.size + 2) 43 6 v4 acc.ports.length (acc.ports.flatMap Prt.cells)
  o5 : wr.ownsRow (w.heap.size + 2) 46 3 v5 acc.chans.length rows
  ch : RowsOf (ChnT wr) acc.chans rows
section
variable {w W W' : World} {F : Int} {acc : Cfg} {v1 v2 v3 v4 v5 : Value} {rows : List Value}
theorem MrgSt.later (h : MrgSt w W F acc v1 v2 v3 v4 v5 rows) (hb : Below W.heap.size W W') : MrgSt w W' F acc v1 v2 v3 v4 v5 rows := by
  have hz := h.hz
  have hs := hb.size
  exact ⟨by omega, h.bel.trans (hb.mono h.bel.size), h.res.below hb h.res.lt, h.out.below hb h.out.lt, own_below h.o1 hb, own_below h.o2 hb, own_below h.o3 hb, own_below h.o4 hb, own_below h.o5 hb, rows_map (fun _ _ hx => ChnT.below hx hb) h.ch⟩
theorem below_rowG {base : Nat} {e : TypeId} {size n : Nat} {v : Value} {xs : List Value} {B : Nat} {a : World} (h : Below B a W) (ho : W.ownsRow base e size v n xs) (hg : W.grownBy W' v.ownBlock) (h1 : B ≤ base) (h2 : B ≤ W.heap.size) : Below B a W' :=
  h.grown hg h2 fun k hk => by have := (ho.lt k hk).1; omega
theorem MrgSt.app1 (h : MrgSt w W F acc v1 v2 v3 v4 v5 rows) {v' : Value} {ps : List Par} (hown : W'.ownsRow (w.heap.size + 2) 36 4 v' (acc.parts.length + ps.length) (acc.parts.flatMap Par.cells ++ ps.flatMap Par.cells)) (hg : W.grownBy W' v1.ownBlock) :
    MrgSt w (W'.setCell ⟨w.heap.size + 1, 1, none⟩ v') F { acc with parts := acc.parts ++ ps } v' v2 v3 v4 v5 rows := by
  have hz := h.hz
  have hs := hg.size
  have ho := Off.of_own h.o1 hg
  have hout := h.out.off ho (by decide)
  have hb := below_rowG h.bel h.o1 hg (by omega) h.bel.size
  exact ⟨by simp [World.setCell]; omega, hb.setCell (by show w.heap.size ≤ w.heap.size + 1; omega) _, (h.res.off ho (by decide)).far (by show w.heap.size ≠ w.heap.size + 1; omega) _, by have := hout.set_ 1 v'; simpa using this,
    (by simpa [List.flatMap_append] using own_set hown (p := ⟨w.heap.size + 1, 1, none⟩) (by show w.heap.size + 1 < _; omega) v'),
    own_set (own_off h.o2 ho (by decide)) (p := ⟨w.heap.size + 1, 1, none⟩) (by show w.heap.size + 1 < _; omega) _,
    own_set (own_off h.o3 ho (by decide)) (p := ⟨w.heap.size + 1, 1, none⟩) (by show w.heap.size + 1 < _; omega) _,
    own_set (own_off h.o4 ho (by decide)) (p := ⟨w.heap.size + 1, 1, none⟩) (by show w.heap.size + 1 < _; omega) _,
    own_set (own_off h.o5 ho (by decide)) (p := ⟨w.heap.size + 1, 1, none⟩) (by show w.heap.size + 1 < _; omega) _,
    rows_map (fun _ _ hx => ChnT.far (ChnT.off hx ho (by decide)) (p := ⟨w.heap.size + 1, 1, none⟩) hout (by decide) _) h.ch⟩
theorem MrgSt.app2 (h : MrgSt w W F acc v1 v2 v3 v4 v5 rows) {v' : Value} {ps : List Win} (hown : W'.ownsRow (w.heap.size + 2) 38 3 v' (acc.wins.length + ps.length) (acc.wins.flatMap Win.cells ++ ps.flatMap Win.cells)) (hg : W.grownBy W' v2.ownBlock) :
    MrgSt w (W'.setCell ⟨w.heap.size + 1, 2, none⟩ v') F { acc with wins := acc.wins ++ ps } v1 v' v3 v4 v5 rows := by
  have hz := h.hz
  have hs := hg.size
  have ho := Off.of_own h.o2 hg
  have hout := h.out.off ho (by decide)
  have hb := below_rowG h.bel h.o2 hg (by omega) h.bel.size
  exact ⟨by simp [World.setCell]; omega, hb.setCell (by show w.heap.size ≤ w.heap.size + 1; omega) _, (h.res.off ho (by decide)).far (by show w.heap.size ≠ w.heap.size + 1; omega) _, by have := hout.set_ 2 v'; simpa using this,
    own_set (own_off h.o1 ho (by decide)) (p := ⟨w.heap.size + 1, 2, none⟩) (by show w.heap.size + 1 < _; omega) _,
    (by simpa [List.flatMap_append] using own_set hown (p := ⟨w.heap.size + 1, 2, none⟩) (by show w.heap.size + 1 < _; omega) v'),
    own_set (own_off h.o3 ho (by decide)) (p := ⟨w.heap.size + 1, 2, none⟩) (by show w.heap.size + 1 < _; omega) _,
    own_set (own_off h.o4 ho (by decide)) (p := ⟨w.heap.size + 1, 2, none⟩) (by show w.heap.size + 1 < _; omega) _,
    own_set (own_off h.o5 ho (by decide)) (p := ⟨w.heap.size + 1, 2, none⟩) (by show w.heap.size + 1 < _; omega) _,
    rows_map (fun _ _ hx => ChnT.far (ChnT.off hx ho (by decide)) (p := ⟨w.heap.size + 1, 2, none⟩) hout (by decide) _) h.ch⟩
theorem MrgSt.app3 (h : MrgSt w W F acc v1 v2 v3 v4 v5 rows) {v' : Value} {ps : List Reg} (hown : W'.ownsRow (w.heap.size + 2) 40 5 v' (acc.regs.length + ps.length) (acc.regs.flatMap Reg.cells ++ ps.flatMap Reg.cells)) (hg : W.grownBy W' v3.ownBlock) :
    MrgSt w (W'.setCell ⟨w.heap.size + 1, 3, none⟩ v') F { acc with regs := acc.regs ++ ps } v1 v2 v' v4 v5 rows := by
  have hz := h.hz
  have hs := hg.size
  have ho := Off.of_own h.o3 hg
  have hout := h.out.off ho (by decide)
  have hb := below_rowG h.bel h.o3 hg (by omega) h.bel.size
  exact ⟨by simp [World.setCell]; omega, hb.setCell (by show w.heap.size ≤ w.heap.size + 1; omega) _, (h.res.off ho (by decide)).far (by show w.heap.size ≠ w.heap.size + 1; omega) _, by have := hout.set_ 3 v'; simpa using this,
    own_set (own_off h.o1 ho (by decide)) (p := ⟨w.heap.size + 1, 3, none⟩) (by show w.heap.size + 1 < _; omega) _,
    own_set (own_off h.o2 ho (by decide)) (p := ⟨w.heap.size + 1, 3, none⟩) (by show w.heap.size + 1 < _; omega) _,
    (by simpa [List.flatMap_append] using own_set hown (p := ⟨w.heap.size + 1, 3, none⟩) (by show w.heap.size + 1 < _; omega) v'),
    own_set (own_off h.o4 ho (by decide)) (p := ⟨w.heap.size + 1, 3, none⟩) (by show w.heap.size + 1 < _; omega) _,
    own_set (own_off h.o5 ho (by decide)) (p := ⟨w.heap.size + 1, 3, none⟩) (by show w.heap.size + 1 < _; omega) _,
    rows_map (fun _ _ hx => ChnT.far (ChnT.off hx ho (by decide)) (p := ⟨w.heap.size + 1, 3, none⟩) hout (by decide) _) h.ch⟩
theorem MrgSt.app4 (h : MrgSt w W F acc v1 v2 v3 v4 v5 rows) {v' : Value} {ps : List Prt} (hown : W'.ownsRow (w.heap.size + 2) 43 6 v' (acc.ports.length + ps.length) (acc.ports.flatMap Prt.cells ++ ps.flatMap Prt.cells)) (hg : W.grownBy W' v4.ownBlock) :
    MrgSt w (W'.setCell ⟨w.heap.size + 1, 4, none⟩ v') F { acc with ports := acc.ports ++ ps } v1 v2 v3 v' v5 rows := by
  have hz := h.hz
  have hs := hg.size
  have ho := Off.of_own h.o4 hg
  have hout := h.out.off ho (by decide)
  have hb := below_rowG h.bel h.o4 hg (by omega) h.bel.size
  exact ⟨by simp [World.setCell]; omega, hb.setCell (by show w.heap.size ≤ w.heap.size + 1; omega) _, (h.res.off ho (by decide)).far (by show w.heap.size ≠ w.heap.size + 1; omega) _, by have := hout.set_ 4 v'; simpa using this,
    own_set (own_off h.o1 ho (by decide)) (p := ⟨w.heap.size + 1, 4, none⟩) (by show w.heap.size + 1 < _; omega) _,
    own_set (own_off h.o2 ho (by decide)) (p := ⟨w.heap.size + 1, 4, none⟩) (by show w.heap.size + 1 < _; omega) _,
    own_set (own_off h.o3 ho (by decide)) (p := ⟨w.heap.size + 1, 4, none⟩) (by show w.heap.size + 1 < _; omega) _,
    (by simpa [List.flatMap_append] using own_set hown (p := ⟨w.heap.size + 1, 4, none⟩) (by show w.heap.size + 1 < _; omega) v'),
    own_set (own_off h.o5 ho (by decide)) (p := ⟨w.heap.size + 1, 4, none⟩) (by show w.heap.size + 1 < _; omega) _,
    rows_map (fun _ _ hx => ChnT.far (ChnT.off hx ho (by decide)) (p := ⟨w.heap.size + 1, 4, none⟩) hout (by decide) _) h.ch⟩
theorem MrgSt.app5 (h : MrgSt w W F acc v1 v2 v3 v4 v5 rows) {v' : Value} {x : Chn} {c0 : List Value} (hx : ChnT W x c0) (hown : W'.ownsRow (w.heap.size + 2) 46 3 v' (acc.chans.length + 1) (rows ++ c0)) (hg : W.grownBy W' v5.ownBlock) :
    MrgSt w (W'.setCell ⟨w.heap.size + 1, 5, none⟩ v') F { acc with chans := acc.chans ++ [x] } v1 v2 v3 v4 v' (rows ++ c0) := by
  have hz := h.hz
  have hs := hg.size
  have ho := Off.of_own h.o5 hg
  have hout := h.out.off ho (by decide)
  have hb := below_rowG h.bel h.o5 hg (by omega) h.bel.size
  exact ⟨by simp [World.setCell]; omega, hb.setCell (by show w.heap.size ≤ w.heap.size + 1; omega) _, (h.res.off ho (by decide)).far (by show w.heap.size ≠ w.heap.size + 1; omega) _, by have := hout.set_ 5 v'; simpa using this,
    own_set (own_off h.o1 ho (by decide)) (p := ⟨w.heap.size + 1, 5, none⟩) (by show w.heap.size + 1 < _; omega) _,
    own_set (own_off h.o2 ho (by decide)) (p := ⟨w.heap.size + 1, 5, none⟩) (by show w.heap.size + 1 < _; omega) _,
    own_set (own_off h.o3 ho (by decide)) (p := ⟨w.heap.size + 1, 5, none⟩) (by show w.heap.size + 1 < _; omega) _,
    own_set (own_off h.o4 ho (by decide)) (p := ⟨w.heap.size + 1, 5, none⟩) (by show w.heap.size + 1 < _; omega) _,
    (by simpa using own_set hown (p := ⟨w.heap.size + 1, 5, none⟩) (by show w.heap.size + 1 < _; omega) v'),
    rows_app (rows_map (fun _ _ hx => ChnT.far (ChnT.off hx ho (by decide)) (p := ⟨w.heap.size + 1, 5, none⟩) hout (by decide) _) h.ch) (rows_one (ChnT.far (ChnT.off hx ho (by decide)) (p := ⟨w.heap.size + 1, 5, none⟩) hout (by decide) _))⟩
end
end Go.Proofs.YtldchpmilknlmaaGreat
