/-
  The records of a configuration as plain data, and how a value reads as one. It speaks of no program; no condition.
-/
import Derived.Test.YtldchpmilknlmaaGreatBase
namespace Go.Proofs.YtldchpmilknlmaaGreat
open Go.RowKit

structure Par where
  id : Int
  name : ByteArray
  period : Int
  duration : Int
structure Win where
  start : Int
  len : Int
  part : Int
structure Reg where
  base : Int
  size : Int
  part : Int
  rights : Int
  shared : Bool
structure Prt where
  id : Int
  part : Int
  name : ByteArray
  output : Bool
  queuing : Bool
  size : Int
structure Chn where
  id : Int
  source : Int
  dests : List Int
structure Cfg where
  frame : Int
  parts : List Par
  wins : List Win
  regs : List Reg
  ports : List Prt
  chans : List Chn
def Par.cells (p : Par) : List Value := [.int .u16 p.id, .string p.name, .int .u64 p.period, .int .u64 p.duration]
def Win.cells (p : Win) : List Value := [.int .u64 p.start, .int .u64 p.len, .int .u16 p.part]
def Reg.cells (p : Reg) : List Value := [.int .u64 p.base, .int .u64 p.size, .int .u16 p.part, .int .u8 p.rights, .bool p.shared]
def Prt.cells (p : Prt) : List Value := [.int .u16 p.id, .int .u16 p.part, .string p.name, .bool p.output, .bool p.queuing, .int .u32 p.size]
def wU16 (n : Int) : Prop := (Lit.int .u16 n).wf = true
def wU8 (n : Int) : Prop := (Lit.int .u8 n).wf = true
def wU32 (n : Int) : Prop := (Lit.int .u32 n).wf = true
def wU64 (n : Int) : Prop := (Lit.int .u64 n).wf = true
structure Par.ok (p : Par) : Prop where
  id : wU16 p.id
  name : p.name.size ≤ maxLen
  period : wU64 p.period
  duration : wU64 p.duration
structure Win.ok (p : Win) : Prop where
  start : wU64 p.start
  len : wU64 p.len
  part : wU16 p.part
structure Reg.ok (p : Reg) : Prop where
  base : wU64 p.base
  size : wU64 p.size
  part : wU16 p.part
  rights : wU8 p.rights
structure Prt.ok (p : Prt) : Prop where
  id : wU16 p.id
  part : wU16 p.part
  name : p.name.size ≤ maxLen
  size : wU32 p.size
structure Chn.ok (p : Chn) : Prop where
  id : wU16 p.id
  source : wU16 p.source
  dests : ∀ d ∈ p.dests, wU16 d
/-- a slice value's cells: the address, the length, the capacity -/
def SlV (w : World) (B sz : Nat) (v : Value) (n : Nat) (xs : List Value) : Prop := ∃ A c, v = .slice A n c ∧ n ≤ c ∧ c ≤ maxLen ∧ Rd w B sz A n xs
/-- a channel's three cells -/
def ChnC (w : World) (B : Nat) (x : Chn) (cs : List Value) : Prop := ∃ A c, cs = [.int .u16 x.id, .int .u16 x.source, .slice A x.dests.length c] ∧ x.dests.length ≤ c ∧ c ≤ maxLen ∧ Rd w B 1 A x.dests.length (x.dests.map (Value.int .u16))
/-- channels one behind the other -/
def ChnsC (w : World) (B : Nat) : List Chn → List Value → Prop
  | [], cs => cs = []
  | x :: r, cs => ∃ c0 c1, cs = c0 ++ c1 ∧ ChnC w B x c0 ∧ ChnsC w B r c1
structure CfgR (w : World) (B : Nat) (c : Cfg) (A1 A2 A3 A4 A5 : Option Addr) (c1 c2 c3 c4 c5 : Nat) : Prop where
  parts : Rd w B 4 A1 c.parts.length (c.parts.flatMap Par.cells)
  wins : Rd w B 3 A2 c.wins.length (c.wins.flatMap Win.cells)
  regs : Rd w B 5 A3 c.regs.length (c.regs.flatMap Reg.cells)
  ports : Rd w B 6 A4 c.ports.length (c.ports.flatMap Prt.cells)
  chans : ∃ cs, ChnsC w B c.chans cs ∧ Rd w B 3 A5 c.chans.length cs
  cap1 : c.parts.length ≤ c1 ∧ c1 ≤ maxLen
  cap2 : c.wins.length ≤ c2 ∧ c2 ≤ maxLen
  cap3 : c.regs.length ≤ c3 ∧ c3 ≤ maxLen
  cap4 : c.ports.length ≤ c4 ∧ c4 ≤ maxLen
  cap5 : c.chans.length ≤ c5 ∧ c5 ≤ maxLen
structure Cfg.ok (c : Cfg) : Prop where
  frame : wU64 c.frame
  parts : ∀ p ∈ c.parts, p.ok
  wins : ∀ p ∈ c.wins, p.ok
  regs : ∀ p ∈ c.regs, p.ok
  ports : ∀ p ∈ c.ports, p.ok
  chans : ∀ p ∈ c.chans, p.ok
@[reducible] def cfgV (frame : Int) (A1 A2 A3 A4 A5 : Option Addr) (n1 n2 n3 n4 n5 c1 c2 c3 c4 c5 : Nat) : Value :=
  .agg #[.int .u64 frame, .slice A1 n1 c1, .slice A2 n2 c2, .slice A3 n3 c3, .slice A4 n4 c4, .slice A5 n5 c5]
/-- all lengths together are small -/
def sumDests (l : List Chn) : Nat := (l.map (·.dests.length)).sum
def Cfg.total (c : Cfg) : Nat := c.parts.length + c.wins.length + c.regs.length + c.ports.length + c.chans.length + sumDests c.chans
def BIG : Nat := 1048576
structure Cfg.small (c : Cfg) : Prop where
  total : c.total ≤ BIG
  pnames : ∀ p ∈ c.parts, p.name.size ≤ BIG
  tnames : ∀ p ∈ c.ports, p.name.size ≤ BIG

theorem ChnC.len {w : World} {B : Nat} {x : Chn} {cs : List Value} (h : ChnC w B x cs) : cs.length = 3 := by
  obtain ⟨A, c, rfl, _⟩ := h
  rfl
theorem ChnC.keep {w w' : World} {B : Nat} {x : Chn} {cs : List Value} (h : ChnC w B x cs) (hk : ∀ b o, b < B → w'.cell? ⟨b, o, none⟩ = w.cell? ⟨b, o, none⟩) : ChnC w' B x cs := by
  obtain ⟨A, c, e, h1, h2, h3⟩ := h
  exact ⟨A, c, e, h1, h2, h3.keep hk⟩
theorem ChnC.more {w : World} {B B' : Nat} {x : Chn} {cs : List Value} (h : ChnC w B x cs) (hB : B ≤ B') : ChnC w B' x cs := by
  obtain ⟨A, c, e, h1, h2, h3⟩ := h
  exact ⟨A, c, e, h1, h2, h3.more hB⟩
theorem ChnsC.keep {w w' : World} {B : Nat} (hk : ∀ b o, b < B → w'.cell? ⟨b, o, none⟩ = w.cell? ⟨b, o, none⟩) : ∀ {l : List Chn} {cs : List Value}, ChnsC w B l cs → ChnsC w' B l cs
  | [], _, h => h
  | _ :: _, _, ⟨c0, c1, e, h1, h2⟩ => ⟨c0, c1, e, h1.keep hk, ChnsC.keep hk h2⟩
theorem ChnsC.more {w : World} {B B' : Nat} (hB : B ≤ B') : ∀ {l : List Chn} {cs : List Value}, ChnsC w B l cs → ChnsC w B' l cs
  | [], _, h => h
  | _ :: _, _, ⟨c0, c1, e, h1, h2⟩ => ⟨c0, c1, e, h1.more hB, ChnsC.more hB h2⟩
theorem ChnsC.len {w : World} {B : Nat} : ∀ {l : List Chn} {cs : List Value}, ChnsC w B l cs → cs.length = l.length * 3
  | [], _, h => by subst h; rfl
  | _ :: _, _, ⟨c0, c1, e, h1, h2⟩ => by subst e; rw [List.length_append, h1.len, ChnsC.len h2, List.length_cons]; omega
theorem ChnsC.at_ {w : World} {B : Nat} : ∀ {l : List Chn} {cs : List Value}, ChnsC w B l cs → ∀ {k : Nat} {x : Chn}, l[k]? = some x → ∃ c0, ChnC w B x c0 ∧ ∀ j, j < 3 → cs[k * 3 + j]? = c0[j]?
  | [], _, _, k, x, hk => by simp at hk
  | y :: r, _, ⟨c0, c1, e, h1, h2⟩, 0, x, hk => by
    simp at hk; subst hk; subst e
    exact ⟨c0, h1, fun j hj => by rw [Nat.zero_mul, Nat.zero_add, List.getElem?_append_left (by rw [h1.len]; exact hj)]⟩
  | y :: r, _, ⟨c0, c1, e, h1, h2⟩, k + 1, x, hk => by
    subst e
    obtain ⟨d, hd, hj⟩ := ChnsC.at_ h2 (k := k) (x := x) (by simpa using hk)
    exact ⟨d, hd, fun j hlt => by rw [List.getElem?_append_right (by rw [h1.len]; omega), h1.len, show (k + 1) * 3 + j - 3 = k * 3 + j from by omega]; exact hj j hlt⟩
theorem ChnsC.app {w : World} {B : Nat} : ∀ {l l' : List Chn} {cs cs' : List Value}, ChnsC w B l cs → ChnsC w B l' cs' → ChnsC w B (l ++ l') (cs ++ cs')
  | [], _, _, _, h, h' => by subst h; simpa using h'
  | _ :: _, _, _, _, ⟨c0, c1, e, h1, h2⟩, h' => ⟨c0, _, by rw [e, List.append_assoc], h1, ChnsC.app h2 h'⟩

section
variable {w w' : World} {B B' : Nat} {A : Option Addr} {k : Nat}
theorem par_at {l : List Par} {x : Par} (h : Rd w B 4 A l.length (l.flatMap Par.cells)) (hk : l[k]? = some x) :
    ∃ b o, A = some ⟨b, o, none⟩ ∧ b < B ∧ w.cell? ⟨b, o + k * 4, none⟩ = some (.int .u16 x.id) ∧ w.cell? ⟨b, o + k * 4 + 1, none⟩ = some (.string x.name) ∧ w.cell? ⟨b, o + k * 4 + 2, none⟩ = some (.int .u64 x.period) ∧ w.cell? ⟨b, o + k * 4 + 3, none⟩ = some (.int .u64 x.duration) := by
  obtain ⟨b, o, e, hb, hc⟩ := Rd.get (f := Par.cells) (sz := 4) (fun _ => rfl) h hk
  exact ⟨b, o, e, hb, hc 0 _ rfl, hc 1 _ rfl, hc 2 _ rfl, hc 3 _ rfl⟩
theorem win_at {l : List Win} {x : Win} (h : Rd w B 3 A l.length (l.flatMap Win.cells)) (hk : l[k]? = some x) :
    ∃ b o, A = some ⟨b, o, none⟩ ∧ b < B ∧ w.cell? ⟨b, o + k * 3, none⟩ = some (.int .u64 x.start) ∧ w.cell? ⟨b, o + k * 3 + 1, none⟩ = some (.int .u64 x.len) ∧ w.cell? ⟨b, o + k * 3 + 2, none⟩ = some (.int .u16 x.part) := by
  obtain ⟨b, o, e, hb, hc⟩ := Rd.get (f := Win.cells) (sz := 3) (fun _ => rfl) h hk
  exact ⟨b, o, e, hb, hc 0 _ rfl, hc 1 _ rfl, hc 2 _ rfl⟩
theorem reg_at {l : List Reg} {x : Reg} (h : Rd w B 5 A l.length (l.flatMap Reg.cells)) (hk : l[k]? = some x) :
    ∃ b o, A = some ⟨b, o, none⟩ ∧ b < B ∧ w.cell? ⟨b, o + k * 5, none⟩ = some (.int .u64 x.base) ∧ w.cell? ⟨b, o + k * 5 + 1, none⟩ = some (.int .u64 x.size) ∧ w.cell? ⟨b, o + k * 5 + 2, none⟩ = some (.int .u16 x.part) ∧
      w.cell? ⟨b, o + k * 5 + 3, none⟩ = some (.int .u8 x.rights) ∧ w.cell? ⟨b, o + k * 5 + 4, none⟩ = some (.bool x.shared) := by
  obtain ⟨b, o, e, hb, hc⟩ := Rd.get (f := Reg.cells) (sz := 5) (fun _ => rfl) h hk
  exact ⟨b, o, e, hb, hc 0 _ rfl, hc 1 _ rfl, hc 2 _ rfl, hc 3 _ rfl, hc 4 _ rfl⟩
theorem prt_at {l : List Prt} {x : Prt} (h : Rd w B 6 A l.length (l.flatMap Prt.cells)) (hk : l[k]? = some x) :
    ∃ b o, A = some ⟨b, o, none⟩ ∧ b < B ∧ w.cell? ⟨b, o + k * 6, none⟩ = some (.int .u16 x.id) ∧ w.cell? ⟨b, o + k * 6 + 1, none⟩ = some (.int .u16 x.part) ∧ w.cell? ⟨b, o + k * 6 + 2, none⟩ = some (.string x.name) ∧
      w.cell? ⟨b, o + k * 6 + 3, none⟩ = some (.bool x.output) ∧ w.cell? ⟨b, o + k * 6 + 4, none⟩ = some (.bool x.queuing) ∧ w.cell? ⟨b, o + k * 6 + 5, none⟩ = some (.int .u32 x.size) := by
  obtain ⟨b, o, e, hb, hc⟩ := Rd.get (f := Prt.cells) (sz := 6) (fun _ => rfl) h hk
  exact ⟨b, o, e, hb, hc 0 _ rfl, hc 1 _ rfl, hc 2 _ rfl, hc 3 _ rfl, hc 4 _ rfl, hc 5 _ rfl⟩
theorem chn_at {l : List Chn} {x : Chn} {cs : List Value} (h : ChnsC w B l cs) (hr : Rd w B 3 A l.length cs) (hk : l[k]? = some x) :
    ∃ b o, A = some ⟨b, o, none⟩ ∧ b < B ∧ w.cell? ⟨b, o + k * 3, none⟩ = some (.int .u16 x.id) ∧ w.cell? ⟨b, o + k * 3 + 1, none⟩ = some (.int .u16 x.source) ∧
      ∃ D d, w.cell? ⟨b, o + k * 3 + 2, none⟩ = some (.slice D x.dests.length d) ∧ x.dests.length ≤ d ∧ d ≤ maxLen ∧ Rd w B 1 D x.dests.length (x.dests.map (Value.int .u16)) := by
  obtain ⟨c0, ⟨D, d, rfl, h1, h2, h3⟩, hj⟩ := h.at_ hk
  have hlt : k < l.length := (List.getElem?_eq_some_iff.1 hk).1
  obtain ⟨b, o, e, hb, hc⟩ := hr.2 (by omega)
  refine ⟨b, o, e, hb, ?_, ?_, D, d, ?_, h1, h2, h3⟩
  · have := hc (k * 3) _ (hj 0 (by omega)); exact this
  · have := hc (k * 3 + 1) _ (hj 1 (by omega)); rwa [← Nat.add_assoc] at this
  · have := hc (k * 3 + 2) _ (hj 2 (by omega)); rwa [← Nat.add_assoc] at this
/-- a channel's three cells, at whatever world keeps the cells of the row -/
theorem chn_at0 {w0 : World} {l : List Chn} {x : Chn} {cs : List Value} (h : ChnsC w0 B' l cs) (hr : Rd w B 3 A l.length cs) (hk : l[k]? = some x) :
    ∃ b o, A = some ⟨b, o, none⟩ ∧ b < B ∧ w.cell? ⟨b, o + k * 3, none⟩ = some (.int .u16 x.id) ∧ w.cell? ⟨b, o + k * 3 + 1, none⟩ = some (.int .u16 x.source) ∧
      ∃ D d, w.cell? ⟨b, o + k * 3 + 2, none⟩ = some (.slice D x.dests.length d) ∧ x.dests.length ≤ d ∧ d ≤ maxLen ∧ Rd w0 B' 1 D x.dests.length (x.dests.map (Value.int .u16)) := by
  obtain ⟨c0, ⟨D, d, rfl, h1, h2, h3⟩, hj⟩ := h.at_ hk
  have hlt : k < l.length := (List.getElem?_eq_some_iff.1 hk).1
  obtain ⟨b, o, e, hb, hc⟩ := hr.2 (by omega)
  refine ⟨b, o, e, hb, ?_, ?_, D, d, ?_, h1, h2, h3⟩
  · have := hc (k * 3) _ (hj 0 (by omega)); exact this
  · have := hc (k * 3 + 1) _ (hj 1 (by omega)); rwa [← Nat.add_assoc] at this
  · have := hc (k * 3 + 2) _ (hj 2 (by omega)); rwa [← Nat.add_assoc] at this
theorem int_at {l : List Int} {q : IntKind} {x : Int} (h : Rd w B 1 A l.length (l.map (Value.int q))) (hk : l[k]? = some x) : ∃ b o, A = some ⟨b, o, none⟩ ∧ b < B ∧ w.cell? ⟨b, o + k, none⟩ = some (.int q x) := by
  have hlt : k < l.length := (List.getElem?_eq_some_iff.1 hk).1
  obtain ⟨b, o, e, hb, hc⟩ := h.2 (by omega)
  exact ⟨b, o, e, hb, hc k _ (by simp [hk])⟩
end
theorem CfgR.keep {w w' : World} {B : Nat} {c : Cfg} {A1 A2 A3 A4 A5 : Option Addr} {c1 c2 c3 c4 c5 : Nat} (h : CfgR w B c A1 A2 A3 A4 A5 c1 c2 c3 c4 c5) (hk : ∀ b o, b < B → w'.cell? ⟨b, o, none⟩ = w.cell? ⟨b, o, none⟩) : CfgR w' B c A1 A2 A3 A4 A5 c1 c2 c3 c4 c5 := by
  obtain ⟨h1, h2, h3, h4, ⟨cs, h5, h6⟩, r1, r2, r3, r4, r5⟩ := h
  exact ⟨h1.keep hk, h2.keep hk, h3.keep hk, h4.keep hk, ⟨cs, h5.keep hk, h6.keep hk⟩, r1, r2, r3, r4, r5⟩
theorem CfgR.more {w : World} {B B' : Nat} {c : Cfg} {A1 A2 A3 A4 A5 : Option Addr} {c1 c2 c3 c4 c5 : Nat} (h : CfgR w B c A1 A2 A3 A4 A5 c1 c2 c3 c4 c5) (hB : B ≤ B') : CfgR w B' c A1 A2 A3 A4 A5 c1 c2 c3 c4 c5 := by
  obtain ⟨h1, h2, h3, h4, ⟨cs, h5, h6⟩, r1, r2, r3, r4, r5⟩ := h
  exact ⟨h1.more hB, h2.more hB, h3.more hB, h4.more hB, ⟨cs, h5.more hB, h6.more hB⟩, r1, r2, r3, r4, r5⟩
theorem CfgR.below {w w' : World} {B : Nat} {c : Cfg} {A1 A2 A3 A4 A5 : Option Addr} {c1 c2 c3 c4 c5 : Nat} (h : CfgR w B c A1 A2 A3 A4 A5 c1 c2 c3 c4 c5) (hb : Below B w w') : CfgR w' B c A1 A2 A3 A4 A5 c1 c2 c3 c4 c5 := h.keep fun _ _ hp => hb.cell hp
theorem CfgR.alloc {w : World} {B : Nat} {c : Cfg} {A1 A2 A3 A4 A5 : Option Addr} {c1 c2 c3 c4 c5 : Nat} (h : CfgR w B c A1 A2 A3 A4 A5 c1 c2 c3 c4 c5) (hB : B ≤ w.heap.size) (o : Obj) : CfgR (w.alloc o) B c A1 A2 A3 A4 A5 c1 c2 c3 c4 c5 :=
  h.keep fun b _ hp => World.cell?_alloc_lt w o _ (by show b < _; omega)
theorem CfgR.up {w w' : World} {c : Cfg} {A1 A2 A3 A4 A5 : Option Addr} {c1 c2 c3 c4 c5 : Nat} (h : CfgR w w.heap.size c A1 A2 A3 A4 A5 c1 c2 c3 c4 c5) (hb : Below w.heap.size w w') : CfgR w' w'.heap.size c A1 A2 A3 A4 A5 c1 c2 c3 c4 c5 := (h.below hb).more hb.size
theorem take_next {α : Type} {l : List α} {k : Nat} {x : α} (h : l[k]? = some x) : l.take (k + 1) = l.take k ++ [x] := by
  obtain ⟨hlt, e⟩ := List.getElem?_eq_some_iff.1 h
  rw [List.take_succ_eq_append_getElem hlt, e]
theorem sumDests_take (l : List Chn) (k : Nat) : sumDests (l.take k) ≤ sumDests l := by
  have : sumDests l = sumDests (l.take k) + sumDests (l.drop k) := by
    unfold sumDests
    rw [← List.sum_append, ← List.map_append, List.take_append_drop]
  omega
theorem sumDests_next {l : List Chn} {k : Nat} {x : Chn} (h : l[k]? = some x) : sumDests (l.take (k + 1)) = sumDests (l.take k) + x.dests.length := by
  rw [take_next h]
  simp [sumDests]
theorem drop_cons {α : Type} {l : List α} {k : Nat} {x : α} (h : l[k]? = some x) : l.drop k = x :: l.drop (k + 1) := by
  obtain ⟨hlt, e⟩ := List.getElem?_eq_some_iff.1 h
  rw [List.drop_eq_getElem_cons hlt, e]
theorem get_lt {α : Type} {l : List α} {k : Nat} (h : k < l.length) : ∃ x, l[k]? = some x := ⟨_, List.getElem?_eq_getElem h⟩
end Go.Proofs.YtldchpmilknlmaaGreat
