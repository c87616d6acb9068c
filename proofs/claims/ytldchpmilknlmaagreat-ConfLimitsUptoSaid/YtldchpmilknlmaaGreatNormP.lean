/-
  The order of records, as a plain law: lists of numbers (the keys) compared one after the other; a sorted row of records is the one normal form. It speaks of no program.
-/
import Derived.Lib.Bytealg
import Derived.Lib.Small
import Derived.Test.YtldchpmilknlmaaGreatCmp5
namespace Go.Proofs.YtldchpmilknlmaaGreat
open Go.RowKit
theorem ci_cases (x y : Int) : (x < y ∧ Lib.compareInt x y = -1) ∨ (x = y ∧ Lib.compareInt x y = 0) ∨ (y < x ∧ Lib.compareInt x y = 1) := by
  rcases (show x < y ∨ x = y ∨ y < x by omega) with h | h | h
  · exact .inl ⟨h, ci_lt h⟩
  · subst h; exact .inr (.inl ⟨rfl, ci_eq _⟩)
  · exact .inr (.inr ⟨h, ci_gt h⟩)
theorem cmpL_refl : ∀ l : List Int, cmpL l l = 0
  | [] => rfl
  | x :: r => by unfold cmpL; rw [ci_eq, if_pos rfl]; exact cmpL_refl r
theorem cmpL_zero : ∀ {l m : List Int}, cmpL l m = 0 → l = m
  | [], [], _ => rfl
  | [], _ :: _, h => by simp [cmpL] at h
  | _ :: _, [], h => by simp [cmpL] at h
  | x :: r, y :: s, h => by
    unfold cmpL at h
    rcases ci_cases x y with ⟨_, e⟩ | ⟨h1, e⟩ | ⟨_, e⟩
    · rw [e] at h; simp at h
    · rw [e, if_pos rfl] at h; rw [h1, cmpL_zero h]
    · rw [e] at h; simp at h
theorem cmpL_neg : ∀ l m : List Int, cmpL m l = - cmpL l m
  | [], [] => rfl
  | [], _ :: _ => rfl
  | _ :: _, [] => rfl
  | x :: r, y :: s => by
    unfold cmpL
    rcases ci_cases x y with ⟨h1, e⟩ | ⟨h1, e⟩ | ⟨h1, e⟩
    · rw [e, ci_gt h1]; rfl
    · subst h1; rw [e, if_pos rfl, if_pos rfl]; exact cmpL_neg r s
    · rw [e, ci_lt h1]; rfl
theorem cmpL_trans : ∀ {a b c : List Int}, cmpL a b ≤ 0 → cmpL b c ≤ 0 → cmpL a c ≤ 0
  | [], _, [], _, _ => by simp [cmpL]
  | [], _, _ :: _, _, _ => by simp [cmpL]
  | _ :: _, [], _, h, _ => by simp [cmpL] at h
  | _ :: _, _ :: _, [], _, h => by simp [cmpL] at h
  | x :: r, y :: s, z :: t, h1, h2 => by
    unfold cmpL at h1 h2 ⊢
    rcases ci_cases x y with ⟨k1, e1⟩ | ⟨k1, e1⟩ | ⟨k1, e1⟩
    · rcases ci_cases y z with ⟨k2, e2⟩ | ⟨k2, e2⟩ | ⟨k2, e2⟩
      · rw [ci_lt (show x < z by omega)]; simp
      · rw [ci_lt (show x < z by omega)]; simp
      · rw [e2] at h2; simp at h2
    · rcases ci_cases y z with ⟨k2, e2⟩ | ⟨k2, e2⟩ | ⟨k2, e2⟩
      · rw [ci_lt (show x < z by omega)]; simp
      · subst k1 k2
        rw [e1, if_pos rfl] at h1
        rw [e2, if_pos rfl] at h2
        rw [ci_eq, if_pos rfl]
        exact cmpL_trans h1 h2
      · rw [e2] at h2; simp at h2
    · rw [e1] at h1; simp at h1
/-- a name as numbers, with 0 at the end -/
def textL (s : List UInt8) : List Int := s.map (fun b => (b.toNat : Int) + 1) ++ [0]
theorem u8_lt {a b : UInt8} : a < b ↔ (a.toNat : Int) + 1 < (b.toNat : Int) + 1 := by rw [UInt8.lt_iff_toNat_lt]; omega
theorem u8_eq {a b : UInt8} (h1 : ¬ a < b) (h2 : ¬ b < a) : a = b := by
  rw [UInt8.lt_iff_toNat_lt] at h1 h2
  exact UInt8.toNat_inj.1 (by omega)
theorem cmpL_cons (x y : Int) (r s : List Int) : cmpL (x :: r) (y :: s) = if Lib.compareInt x y = 0 then cmpL r s else Lib.compareInt x y := rfl
theorem cmpL_text : ∀ (s t : List UInt8) (r q : List Int), cmpL (textL s ++ r) (textL t ++ q) = if Lib.compareBytes s t = 0 then cmpL r q else Lib.compareBytes s t
  | [], [], r, q => by
    show cmpL (0 :: r) (0 :: q) = if (0 : Int) = 0 then cmpL r q else 0
    rw [cmpL_cons, ci_eq]
  | [], b :: t, r, q => by
    show cmpL (0 :: r) (((b.toNat : Int) + 1) :: (textL t ++ q)) = if (-1 : Int) = 0 then cmpL r q else -1
    rw [cmpL_cons, ci_lt (by omega)]
    rfl
  | a :: s, [], r, q => by
    show cmpL (((a.toNat : Int) + 1) :: (textL s ++ r)) (0 :: q) = if (1 : Int) = 0 then cmpL r q else 1
    rw [cmpL_cons, ci_gt (by omega)]
    rfl
  | a :: s, b :: t, r, q => by
    show cmpL (((a.toNat : Int) + 1) :: (textL s ++ r)) (((b.toNat : Int) + 1) :: (textL t ++ q)) = _
    rw [cmpL_cons]
    by_cases h1 : a < b
    · have hc : Lib.compareBytes (a :: s) (b :: t) = -1 := by rw [Lib.compareBytes, if_pos h1]
      rw [ci_lt (u8_lt.1 h1), hc]; rfl
    · by_cases h2 : b < a
      · have hc : Lib.compareBytes (a :: s) (b :: t) = 1 := by rw [Lib.compareBytes, if_neg h1, if_pos h2]
        rw [ci_gt (u8_lt.1 h2), hc]; rfl
      · have := u8_eq h1 h2
        subst this
        have hc : Lib.compareBytes (a :: s) (a :: t) = Lib.compareBytes s t := by rw [Lib.compareBytes, if_neg h1, if_neg h1]
        rw [ci_eq, if_pos rfl, hc]
        exact cmpL_text s t r q
def bitI (b : Bool) : Int := if b then 1 else 0
theorem flag_bit (a b : Bool) : flagI a b = Lib.compareInt (bitI a) (bitI b) := by cases a <;> cases b <;> rfl
theorem orL_cons (x : Int) (r : List Int) : orL (x :: r) = if x = 0 then orL r else x := rfl
theorem cmpL_one (x y : Int) : cmpL [x] [y] = orL [Lib.compareInt x y] := rfl
def keyPar (p : Par) : List Int := p.id :: (textL p.name.data.toList ++ [p.period, p.duration])
def keyWin (p : Win) : List Int := [p.start, p.len, p.part]
def keyReg (p : Reg) : List Int := [p.base, p.size, p.part, p.rights, bitI p.shared]
def keyPrt (p : Prt) : List Int := p.id :: p.part :: (textL p.name.data.toList ++ [bitI p.output, bitI p.queuing, p.size])
def keyChn (p : Chn) : List Int := p.id :: p.source :: p.dests
theorem cmpPar_key (x y : Par) : cmpPar x y = cmpL (keyPar x) (keyPar y) := by
  unfold cmpPar keyPar
  rw [cmpL_cons, cmpL_text, orL_cons, orL_cons]
  rfl
theorem cmpWin_key (x y : Win) : cmpWin x y = cmpL (keyWin x) (keyWin y) := rfl
theorem cmpReg_key (x y : Reg) : cmpReg x y = cmpL (keyReg x) (keyReg y) := by
  unfold cmpReg keyReg
  rw [flag_bit]
  rfl
theorem cmpPrt_key (x y : Prt) : cmpPrt x y = cmpL (keyPrt x) (keyPrt y) := by
  unfold cmpPrt keyPrt
  rw [flag_bit, flag_bit, cmpL_cons, cmpL_cons, cmpL_text, orL_cons, orL_cons, orL_cons]
  rfl
theorem cmpChn_key (x y : Chn) : cmpChn x y = cmpL (keyChn x) (keyChn y) := by
  unfold cmpChn keyChn
  rw [cmpL_cons, cmpL_cons, orL_cons, orL_cons, orL_cons]
  by_cases h : cmpL x.dests y.dests = 0
  · rw [if_pos h, h]; rfl
  · rw [if_neg h]
theorem bitI_inj {a b : Bool} (h : bitI a = bitI b) : a = b := by revert h; cases a <;> cases b <;> simp [bitI]
theorem text_inj : ∀ {s t : List UInt8} {r q : List Int}, textL s ++ r = textL t ++ q → s = t ∧ r = q
  | [], [], r, q, h => ⟨rfl, by simpa [textL] using h⟩
  | [], b :: t, r, q, h => by simp [textL] at h; omega
  | a :: s, [], r, q, h => by simp [textL] at h; omega
  | a :: s, b :: t, r, q, h => by
    have h1 : ((a.toNat : Int) + 1) :: (textL s ++ r) = ((b.toNat : Int) + 1) :: (textL t ++ q) := h
    injection h1 with h1 h2
    obtain ⟨e1, e2⟩ := text_inj h2
    have : a = b := UInt8.toNat_inj.1 (by omega)
    exact ⟨by rw [this, e1], e2⟩
theorem name_inj {a b : ByteArray} (h : a.data.toList = b.data.toList) : a = b := by
  cases a; cases b
  congr
  exact Array.toList_inj.1 h
theorem keyPar_inj {x y : Par} (h : keyPar x = keyPar y) : x = y := by
  obtain ⟨a, b, c, d⟩ := x
  obtain ⟨a', b', c', d'⟩ := y
  unfold keyPar at h
  injection h with h1 h2
  obtain ⟨e1, e2⟩ := text_inj h2
  have e3 := name_inj e1
  simp only [List.cons.injEq, and_true] at h1 e2 e3
  rw [h1, e3, e2.1, e2.2]
theorem keyWin_inj {x y : Win} (h : keyWin x = keyWin y) : x = y := by
  obtain ⟨a, b, c⟩ := x
  obtain ⟨a', b', c'⟩ := y
  simpa [keyWin] using h
theorem keyReg_inj {x y : Reg} (h : keyReg x = keyReg y) : x = y := by
  obtain ⟨a, b, c, d, e⟩ := x
  obtain ⟨a', b', c', d', e'⟩ := y
  simp only [keyReg, List.cons.injEq, and_true] at h
  obtain ⟨h1, h2, h3, h4, h5⟩ := h
  rw [h1, h2, h3, h4, bitI_inj h5]
theorem keyPrt_inj {x y : Prt} (h : keyPrt x = keyPrt y) : x = y := by
  obtain ⟨a, b, c, d, e, f⟩ := x
  obtain ⟨a', b', c', d', e', f'⟩ := y
  unfold keyPrt at h
  injection h with h1 h2
  injection h2 with h2 h3
  obtain ⟨e1, e2⟩ := text_inj h3
  have e3 := name_inj e1
  simp only [List.cons.injEq, and_true] at h1 h2 e2 e3
  rw [h1, h2, e3, bitI_inj e2.1, bitI_inj e2.2.1, e2.2.2]
theorem keyChn_inj {x y : Chn} (h : keyChn x = keyChn y) : x = y := by
  obtain ⟨a, b, c⟩ := x
  obtain ⟨a', b', c'⟩ := y
  simpa [keyChn] using h
section
variable {α : Type} (key : α → List Int)
/-- ascending by keys -/
def Asc (l : List α) : Prop := l.Pairwise fun x y => cmpL (key x) (key y) ≤ 0
def normK (l : List α) : List α := l.mergeSort (fun x y => decide (cmpL (key x) (key y) ≤ 0))
theorem normK_asc (l : List α) : Asc key (normK key l) := by
  have := List.pairwise_mergeSort (le := fun x y : α => decide (cmpL (key x) (key y) ≤ 0)) (fun a b c h1 h2 => by simp at *; exact cmpL_trans h1 h2) (fun a b => by
    have := cmpL_neg (key a) (key b)
    simp; omega) l
  exact this.imp fun h => by simpa using h
theorem normK_perm (l : List α) : (normK key l).Perm l := List.mergeSort_perm _ _
theorem asc_unique (hinj : ∀ x y, key x = key y → x = y) : ∀ {l m : List α}, l.Perm m → Asc key l → Asc key m → l = m
  | [], m, hp, _, _ => hp.nil_eq
  | x :: r, [], hp, _, _ => hp.eq_nil
  | x :: r, y :: s, hp, h1, h2 => by
    have a1 := List.pairwise_cons.1 h1
    have a2 := List.pairwise_cons.1 h2
    have hxy : x = y := by
      have m1 : x ∈ y :: s := hp.mem_iff.1 (by simp)
      have m2 : y ∈ x :: r := hp.mem_iff.2 (by simp)
      rcases List.mem_cons.1 m1 with e | m1
      · exact e
      · rcases List.mem_cons.1 m2 with e | m2
        · exact e.symm
        · have q1 := a1.1 y m2
          have q2 := a2.1 x m1
          have := cmpL_neg (key x) (key y)
          exact hinj _ _ (cmpL_zero (by omega))
    subst hxy
    rw [asc_unique hinj (List.perm_cons x |>.1 hp) a1.2 a2.2]
theorem normK_unique (hinj : ∀ x y, key x = key y → x = y) {l m : List α} (hp : m.Perm l) (h : Asc key m) : m = normK key l :=
  asc_unique key hinj (hp.trans (normK_perm key l).symm) h (normK_asc key l)
end
/-- destinations in order -/
def sortD (x : Chn) : Chn := { x with dests := x.dests.mergeSort (fun a b => decide (a ≤ b)) }
def Cfg.norm (c : Cfg) : Cfg := ⟨c.frame, normK keyPar c.parts, normK keyWin c.wins, normK keyReg c.regs, normK keyPrt c.ports, normK keyChn (c.chans.map sortD)⟩
end Go.Proofs.YtldchpmilknlmaaGreat
