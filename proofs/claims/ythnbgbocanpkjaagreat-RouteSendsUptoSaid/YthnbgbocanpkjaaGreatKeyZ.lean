/-
  less of the reference of layer 5, walked: one list of numbers comes before another one.
-/
import Derived.BigQuiet
import Derived.Test.YthnbgbocanpkjaaGreatNormP
import Derived.Test.YthnbgbocanpkjaaGreatCore
import Derived.Deep.RegionHeld3
import Derived.OpenShut
import Derived.Deep.AppendLies
import Derived.Test.YthnbgbocanpkjaaGreatSameW
namespace Go.Proofs.YthnbgbocanpkjaaGreat
open Go.RowKit
attribute [local go_sem] ext_cell
def lessL (l m : List Int) : Bool := decide (cmpL l m < 0)
theorem less_lt {l m : List Int} {k : Nat} {x y : Int} (hs : cmpL l m = cmpL (l.drop k) (m.drop k)) (hx : l[k]? = some x) (hy : m[k]? = some y) (h : x < y) : lessL l m = true := by
  unfold lessL
  rw [hs, drop_cons hx, drop_cons hy, cmpL_cons, ci_lt h]
  rfl
theorem less_gt {l m : List Int} {k : Nat} {x y : Int} (hs : cmpL l m = cmpL (l.drop k) (m.drop k)) (hx : l[k]? = some x) (hy : m[k]? = some y) (h : y < x) : lessL l m = false := by
  unfold lessL
  rw [hs, drop_cons hx, drop_cons hy, cmpL_cons, ci_gt h]
  rfl
theorem less_next {l m : List Int} {k : Nat} {x : Int} (hs : cmpL l m = cmpL (l.drop k) (m.drop k)) (hx : l[k]? = some x) (hy : m[k]? = some x) : cmpL l m = cmpL (l.drop (k + 1)) (m.drop (k + 1)) := by
  rw [hs, drop_cons hx, drop_cons hy, cmpL_cons, ci_eq, if_pos rfl]
theorem less_end {l m : List Int} {k : Nat} (hs : cmpL l m = cmpL (l.drop k) (m.drop k)) (hk : k ≤ l.length) (hj : k ≤ m.length) (h : k = l.length ∨ k = m.length) : lessL l m = decide (l.length < m.length) := by
  unfold lessL
  rw [hs]
  by_cases h1 : k = l.length
  · rw [List.drop_of_length_le (l := l) (by omega)]
    by_cases h2 : k = m.length
    · rw [List.drop_of_length_le (l := m) (by omega)]
      rw [decide_eq_false (show ¬ l.length < m.length by omega)]
      rfl
    · obtain ⟨y, hy⟩ := get_lt (l := m) (k := k) (by omega)
      rw [drop_cons hy, decide_eq_true (show l.length < m.length by omega)]
      rfl
  · have h2 : k = m.length := by omega
    rw [List.drop_of_length_le (l := m) (by omega)]
    obtain ⟨y, hy⟩ := get_lt (l := l) (k := k) (by omega)
    rw [drop_cons hy, decide_eq_false (show ¬ l.length < m.length by omega)]
    rfl
end Go.Proofs.YthnbgbocanpkjaaGreat
namespace Go.Proofs.YthnbgbocanpkjaaGreat
open Go.RowKit
attribute [local go_sem] ext_cell
theorem info_u64 : (Tryz.prog.info? 22).map (fun i => (i.zero, i.size, i.bytes)) = some (some (.int .u64 0), 1, 8) := by kernel_rfl
def OwnK (w : World) (base : Nat) (v : Value) (l : List Int) : Prop := w.ownsRow base 22 1 v l.length (l.map (Value.int .u64))
theorem one_new64 (w : World) (a : Int) (t : TypeId) : Rd (w.alloc (.cells #[.int .u64 a] t)) (w.alloc (.cells #[.int .u64 a] t)).heap.size 1 (some ⟨w.heap.size, 0, none⟩) 1 [.int .u64 a] := by
  refine ⟨rfl, fun _ => ⟨_, _, rfl, by simp, fun j u hu => ?_⟩⟩
  have := World.news_of_block (heap_alloc_new w (.cells #[.int .u64 a] t)) j u (by simpa using hu)
  rwa [addr_add] at this
def upB (b : UInt8) : Int := (b.toNat : Int) + 1
theorem textL_eq (s : List UInt8) : textL s = s.map upB ++ [0] := rfl
theorem byte_at {s : ByteArray} {k : Nat} (h : k < s.size) : s.data.toList[k]? = some s[k] := by
  rw [Array.getElem?_toList]
  exact Array.getElem?_eq_getElem h
theorem up_next {s : List UInt8} {k : Nat} {b : UInt8} (h : s[k]? = some b) : (s.take (k + 1)).map upB = (s.take k).map upB ++ [(b.toNat : Int) + 1] := by
  rw [take_next h, List.map_append]; rfl
end Go.Proofs.YthnbgbocanpkjaaGreat
namespace Go.Proofs.YthnbgbocanpkjaaGreat
open Go.RowKit
attribute [local go_sem] ext_cell
theorem own_lit (w : World) (base : Nat) (l : List Int) (hb : base ≤ w.heap.size) (hl : l.length ≤ maxLen) (n : Nat) (hn : n = l.length) (cs : Array Value) (hc : cs = (l.map (Value.int .u64)).toArray) :
    (w.alloc (.cells cs 22)).ownsRow base 22 1 (.slice (some ⟨w.heap.size, 0, none⟩) n n) l.length (l.map (Value.int .u64)) := by
  subst hn hc
  exact ⟨by simp, .inr ⟨w.heap.size, l.length, (l.map (Value.int .u64)).toArray, rfl, hb, heap_alloc_new w _, Nat.le_refl _, hl, by simp, by rw [Nat.mul_one]; rw [List.take_of_length_le (by simp)]⟩⟩
theorem own_lessC {w : World} {b b' : Nat} {e : TypeId} {size n : Nat} {v : Value} {xs : List Value} (h : w.ownsRow b e size v n xs) (hb : b' ≤ b) : w.ownsRow b' e size v n xs := by
  refine ⟨h.1, ?_⟩
  rcases h.2 with h2 | ⟨g, cap, cur, rfl, hg, r⟩
  · exact .inl h2
  · exact .inr ⟨g, cap, cur, rfl, by omega, r⟩
theorem own_drew {w : World} {base : Nat} {e : TypeId} {size n : Nat} {v : Value} {xs : List Value} (h : w.ownsRow base e size v n xs) : w.drew.ownsRow base e size v n xs := h
theorem below_drewK {B : Nat} {a w : World} (h : Below B a w) : Below B a w.drew := ⟨h.os, h.tape, h.output, h.size, h.block⟩
theorem wrap_u16 {n : Int} (h : wU16 n) : IntKind.u64.wrap n = n := by have := Go.bounds_u16 h; rw [IntKind.wrap_u64]; omega
theorem wrap_u8 {n : Int} (h : wU8 n) : IntKind.u64.wrap n = n := by have := Go.bounds_u8 h; rw [IntKind.wrap_u64]; omega
theorem wrap_u32 {n : Int} (h : wU32 n) : IntKind.u64.wrap n = n := by have := Go.bounds_u32 h; rw [IntKind.wrap_u64]; omega
end Go.Proofs.YthnbgbocanpkjaaGreat
namespace Go.Proofs.YthnbgbocanpkjaaGreat
open Go.RowKit
attribute [local go_sem] ext_cell
def chnTo (x : Chn) (k : Nat) : List Int := x.id :: x.source :: x.dests.take k
theorem chnTo_next {x : Chn} {k : Nat} {d : Int} (h : x.dests[k]? = some d) : chnTo x (k + 1) = chnTo x k ++ [d] := by
  unfold chnTo; rw [take_next h]; rfl
theorem chnTo_len {x : Chn} {k : Nat} (h : k ≤ x.dests.length) : (chnTo x k).length = k + 2 := by
  unfold chnTo; simp [List.length_take, Nat.min_eq_left h]
end Go.Proofs.YthnbgbocanpkjaaGreat
namespace Go.Proofs.YthnbgbocanpkjaaGreat
open Go.RowKit
attribute [local go_sem] ext_cell
theorem drew_heapK (w : World) : w.drew.heap = w.heap := rfl
attribute [local simp] drew_heapK
theorem own_alloc {w : World} {base : Nat} {e : TypeId} {size n : Nat} {v : Value} {xs : List Value} (h : w.ownsRow base e size v n xs) (o : Obj) : (w.alloc o).ownsRow base e size v n xs := h.alloc o
theorem own_lit2 (w : World) (base : Nat) (l : List Int) (b n : Nat) (hb : base ≤ w.heap.size) (hbk : w.heap.size = b) (hl : l.length ≤ maxLen) (hn : n = l.length) (cs : Array Value) (hc : cs = (l.map (Value.int .u64)).toArray) :
    (w.alloc (.cells cs 22)).ownsRow base 22 1 (.slice (some ⟨b, 0, none⟩) n n) l.length (l.map (Value.int .u64)) := by
  subst hbk
  exact own_lit w base l hb hl n hn cs hc
theorem own_rd {w : World} {base : Nat} {e : TypeId} {size n m c : Nat} {A : Option Addr} {xs : List Value} (h : w.ownsRow base e size (.slice A m c) n xs) : m = n ∧ Rd w w.heap.size size A n xs := by
  obtain ⟨A', c', e, _, _, hr⟩ := own_form h
  injection e with e1 e2 e3
  subst e1 e2
  exact ⟨rfl, hr⟩
end Go.Proofs.YthnbgbocanpkjaaGreat
namespace Go.Proofs.YthnbgbocanpkjaaGreat
open Go.RowKit
attribute [local go_sem] ext_cell
/-- rows of numbers, each of the call's own -/
def RowsK (w : World) (base : Nat) : List (List Int) → List Value → Prop
  | [], cs => cs = []
  | k :: l, cs => ∃ c r, cs = c :: r ∧ OwnK w base c k ∧ RowsK w base l r
theorem RowsK.len {w : World} {base : Nat} : ∀ {l : List (List Int)} {cs : List Value}, RowsK w base l cs → cs.length = l.length
  | [], _, h => by subst h; rfl
  | _ :: _, _, ⟨_, _, e, _, h⟩ => by subst e; simp [RowsK.len h]
theorem RowsK.snoc {w : World} {base : Nat} {k : List Int} {c : Value} (hc : OwnK w base c k) : ∀ {l : List (List Int)} {cs : List Value}, RowsK w base l cs → RowsK w base (l ++ [k]) (cs ++ [c])
  | [], _, h => by subst h; exact ⟨c, [], rfl, hc, rfl⟩
  | _ :: _, _, ⟨a, r, e, h1, h2⟩ => by subst e; exact ⟨a, r ++ [c], rfl, h1, RowsK.snoc hc h2⟩
theorem RowsK.imp {w w' : World} {base base' : Nat} (hi : ∀ v k, OwnK w base v k → OwnK w' base' v k) : ∀ {l : List (List Int)} {cs : List Value}, RowsK w base l cs → RowsK w' base' l cs
  | [], _, h => h
  | _ :: _, _, ⟨a, r, e, h1, h2⟩ => ⟨a, r, e, hi _ _ h1, RowsK.imp hi h2⟩
theorem RowsK.below {w w' : World} {base : Nat} {l : List (List Int)} {cs : List Value} (h : RowsK w base l cs) (hb : Below w.heap.size w w') : RowsK w' base l cs :=
  h.imp fun _ _ hk => own_below hk hb
theorem RowsK.less {w : World} {base base' : Nat} {l : List (List Int)} {cs : List Value} (h : RowsK w base l cs) (hb : base' ≤ base) : RowsK w base' l cs :=
  h.imp fun _ _ hk => own_lessC hk hb
theorem RowsK.at_ {w : World} {base : Nat} : ∀ {l : List (List Int)} {cs : List Value}, RowsK w base l cs → ∀ {i : Nat} {k : List Int}, l[i]? = some k → ∃ c, cs[i]? = some c ∧ OwnK w base c k
  | [], _, _, i, k, h => by simp at h
  | _ :: _, _, ⟨a, r, e, h1, h2⟩, 0, k, h => by subst e; simp at h; subst h; exact ⟨a, rfl, h1⟩
  | _ :: _, _, ⟨a, r, e, h1, h2⟩, i + 1, k, h => by subst e; simpa using RowsK.at_ h2 (i := i) (k := k) (by simpa using h)
/-- the value of a row of numbers is one cell -/
theorem OwnK.one {w : World} {base : Nat} {v : Value} {k : List Int} (h : OwnK w base v k) : v.oneCell' = true := by
  obtain ⟨A, c, rfl, _⟩ := own_form h
  rfl
theorem OwnK.form {w : World} {base : Nat} {v : Value} {k : List Int} (h : OwnK w base v k) : ∃ A n c, v = .slice A n c := by
  obtain ⟨A, c, rfl, _⟩ := own_form h
  exact ⟨_, _, _, rfl⟩
theorem one_newV (w : World) (v : Value) (t : TypeId) : Rd (w.alloc (.cells #[v] t)) (w.alloc (.cells #[v] t)).heap.size 1 (some ⟨w.heap.size, 0, none⟩) 1 [v] := by
  refine ⟨rfl, fun _ => ⟨_, _, rfl, by simp, fun j u hu => ?_⟩⟩
  have := World.news_of_block (heap_alloc_new w (.cells #[v] t)) j u (by simpa using hu)
  rwa [addr_add] at this
end Go.Proofs.YthnbgbocanpkjaaGreat
namespace Go.Proofs.YthnbgbocanpkjaaGreat
open Go.RowKit
theorem run_sizeOf {P : Program} {e : TypeId} {i : TypeInfo} {sz : Nat} (hi : P.info? e = some i) (hs : i.size = sz) (W : World) : (sizeOf e).run P W = .ok sz W := by
  simp [sizeOf, typeInfo, hi, hs]
/-- xs[:m] -/
theorem slice_pre {P : Program} {t : TypeId} {sz : Nat} (ht : P.underlying t = some (.slice (P.elem t))) (hz : ∀ W, (sizeOf (P.elem t)).run P W = .ok sz W) {w : World} {B : Nat} {A : Option Addr} {n c : Nat} {xs : List Value} (h : Rd w B sz A n xs) (hc : n ≤ c) (m : Nat) (hm : m ≤ n) :
    ∃ A1 c1, (∀ W, (Instr.slice t (.slice A n c) none (some (.int .i64 m)) none).run P W = .ok (.slice A1 m c1) W) ∧ Rd w B sz A1 m (xs.take (m * sz)) ∧ m ≤ c1 ∧ c1 ≤ c := by
  refine ⟨if c = 0 then A else A.map (·.add (0 * sz)), c, fun W => ?_, ⟨?_, fun h0 => ?_⟩, by omega, Nat.le_refl _⟩
  · rw [run_slice_h (P := P) W t A n c ht .i64 m (by omega) (by omega), hz]
    simp [Result.andThen, sliced]
  · rw [List.length_take, h.1]
    exact Nat.min_eq_left (Nat.mul_le_mul_right _ hm)
  · obtain ⟨b, o, rfl, hb, hcell⟩ := h.2 (by omega)
    refine ⟨b, o, ?_, hb, fun j u hu => hcell j u ?_⟩
    · rw [if_neg (by omega)]
      simp [addr_add]
    · rw [List.getElem?_take] at hu
      split at hu
      · exact hu
      · cases hu
/-- xs[m:] -/
theorem slice_suf {P : Program} {t : TypeId} {sz : Nat} (ht : P.underlying t = some (.slice (P.elem t))) (hz : ∀ W, (sizeOf (P.elem t)).run P W = .ok sz W) {w : World} {B : Nat} {A : Option Addr} {n c : Nat} {xs : List Value} (h : Rd w B sz A n xs) (hc : n ≤ c) (m : Nat) (hm : m ≤ n) :
    ∃ A1 c1, (∀ W, (Instr.slice t (.slice A n c) (some (.int .i64 m)) none none).run P W = .ok (.slice A1 (n - m) c1) W) ∧ Rd w B sz A1 (n - m) (xs.drop (m * sz)) ∧ n - m ≤ c1 ∧ c1 ≤ c := by
  refine ⟨if c = m then A else A.map (·.add (m * sz)), c - m, fun W => ?_, ⟨?_, fun h0 => ?_⟩, by omega, by omega⟩
  · rw [run_slice_l (P := P) W t A n c ht .i64 m (by omega) (by omega), hz]
    simp [Result.andThen, sliced]
  · rw [List.length_drop, h.1, Nat.sub_mul]
  · obtain ⟨b, o, rfl, hb, hcell⟩ := h.2 (by omega)
    refine ⟨b, o + m * sz, ?_, hb, fun j u hu => ?_⟩
    · rw [if_neg (by omega)]
      simp [addr_add]
    · rw [List.getElem?_drop] at hu
      have := hcell _ u hu
      rwa [← Nat.add_assoc] at this
/-- xs[l:m] -/
theorem slice_mid {P : Program} {t : TypeId} {sz : Nat} (ht : P.underlying t = some (.slice (P.elem t))) (hz : ∀ W, (sizeOf (P.elem t)).run P W = .ok sz W) {w : World} {B : Nat} {A : Option Addr} {n c : Nat} {xs : List Value} (h : Rd w B sz A n xs) (hc : n ≤ c) (l m : Nat) (hl : l ≤ m) (hm : m ≤ n) :
    ∃ A1 c1, (∀ W, (Instr.slice t (.slice A n c) (some (.int .i64 l)) (some (.int .i64 m)) none).run P W = .ok (.slice A1 (m - l) c1) W) ∧ Rd w B sz A1 (m - l) ((xs.drop (l * sz)).take ((m - l) * sz)) ∧ m - l ≤ c1 ∧ c1 ≤ c := by
  refine ⟨if c = l then A else A.map (·.add (l * sz)), c - l, fun W => ?_, ⟨?_, fun h0 => ?_⟩, by omega, by omega⟩
  · rw [run_slice_lh (P := P) W t A n c ht .i64 .i64 l m (by omega) (by omega) (by omega), hz]
    simp [Result.andThen, sliced]
  · rw [List.length_take, List.length_drop, h.1, ← Nat.sub_mul]
    exact Nat.min_eq_left (Nat.mul_le_mul_right _ (by omega))
  · obtain ⟨b, o, rfl, hb, hcell⟩ := h.2 (by omega)
    refine ⟨b, o + l * sz, ?_, hb, fun j u hu => ?_⟩
    · rw [if_neg (by omega)]
      simp [addr_add]
    · rw [List.getElem?_take] at hu
      split at hu
      · rw [List.getElem?_drop] at hu
        have := hcell _ u hu
        rwa [← Nat.add_assoc] at this
      · cases hu
/-- an insertion into a sorted list -/
theorem ins_pw {α : Type} {R : α → α → Prop} (tr : ∀ a b c, R a b → R b c → R a c) {o : List α} (h : o.Pairwise R) (x : α) (m : Nat) (h1 : ∀ y ∈ o.drop m, R x y) (h2 : m = 0 ∨ ∃ y, o[m - 1]? = some y ∧ R y x) : (o.take m ++ x :: o.drop m).Pairwise R := by
  have hs : o.take m ++ o.drop m = o := List.take_append_drop m o
  rw [← hs] at h
  obtain ⟨p1, p2, p3⟩ := List.pairwise_append.1 h
  refine List.pairwise_append.2 ⟨p1, List.pairwise_cons.2 ⟨h1, p2⟩, fun a ha b hb => ?_⟩
  have hax : R a x := by
    rcases h2 with rfl | ⟨y, hy, hyx⟩
    · simp at ha
    · rcases Nat.eq_zero_or_pos m with rfl | hm
      · simp at ha
      · obtain ⟨i, hi⟩ := List.getElem?_of_mem ha
        rw [List.getElem?_take] at hi
        split at hi
        · rename_i him
          rcases Nat.lt_or_ge i (m - 1) with hlt | hge
          · have hp := List.pairwise_iff_getElem.1 (hs ▸ h)
            obtain ⟨hi1, rfl⟩ := List.getElem?_eq_some_iff.1 hi
            obtain ⟨hy1, rfl⟩ := List.getElem?_eq_some_iff.1 hy
            exact tr _ _ _ (hp i (m - 1) hi1 hy1 hlt) hyx
          · have : i = m - 1 := by omega
            subst this
            rw [hy] at hi
            injection hi with hi
            subst hi
            exact hyx
        · cases hi
  rcases List.mem_cons.1 hb with rfl | hb
  · exact hax
  · exact tr _ _ _ hax (h1 b hb)
theorem ins_perm {α : Type} (o : List α) (x : α) (m : Nat) : (o.take m ++ x :: o.drop m).Perm (x :: o) := by
  have := List.perm_middle (a := x) (l₁ := o.take m) (l₂ := o.drop m)
  rwa [List.take_append_drop] at this
theorem own_litV (w : World) (base : Nat) (E : TypeId) (l : List Value) (b n : Nat) (hb : base ≤ w.heap.size) (hbk : w.heap.size = b) (hl : l.length ≤ maxLen) (hn : n = l.length) (cs : Array Value) (hc : cs = l.toArray) :
    (w.alloc (.cells cs E)).ownsRow base E 1 (.slice (some ⟨b, 0, none⟩) n n) l.length l := by
  subst hbk hn hc
  exact ⟨by simp, .inr ⟨w.heap.size, l.length, l.toArray, rfl, hb, heap_alloc_new w _, Nat.le_refl _, hl, by simp, by rw [Nat.mul_one]; rw [List.take_of_length_le (by simp)]⟩⟩
/-- an append of a slice that reads as a list, at a step of a region that draws its order -/
theorem step_appR {P : Program} (V : World) {w : World} {o : Oper} {a : Act} {K : Act → World → Prop} {Q : Exit → Act → World → Prop} {ys : Nat → Option Bool} (T E : TypeId) (i : TypeInfo) (z : Value) (bytes : Nat) (hT : P.underlying T = some (.slice E)) (hi : P.info? E = some i) (hz0 : i.zero = some z) (hz1 : i.size = 1) (hz2 : i.bytes = bytes) (hzs : z.cells.size = 1)
    (hwt : Region.wanted o ys = true) (s x : Operand) (ho : o.op = .call { callee := .builtin .append, args := #[s, x], argTypes := #[T, T] })
    (xs : List Value) (hown : w.ownsRow V.heap.size E 1 (a.eval s) xs.length xs)
    (B : Nat) (A : Option Addr) (m c : Nat) (news : List Value) (hx : a.eval x = .slice A m c) (hr : Rd w B 1 A m news) (h1 : ∀ u ∈ news, u.oneCell' = true)
    (hlen : (xs.length + m) * bytes ≤ 140737488355328) (hlen2 : xs.length + m ≤ maxLen) (hB : Below V.heap.size V w)
    (h : ∀ v' w', w'.ownsRow V.heap.size E 1 v' (xs ++ news).length (xs ++ news) → w.grownBy w' (a.eval s).ownBlock → Below V.heap.size V w' → K (a.put o.dst v') w') :
    if Region.wanted o ys = true then Oper.wp P o a w K Q else K (a.put o.dst undef) w := by
  rw [if_pos hwt]
  obtain ⟨v', w', hrun, h2, h3⟩ := run_append_rd (P := P) w V.heap.size T o.type E i z 1 bytes hT hi hz0 hz1 hz2 hzs (by decide) (a.eval s) xs.length _ hown B A m c _ hr h1 hlen2 hlen hB.size
  unfold Oper.wp execOp
  simp only [ho, resolve, invoke, builtin, Sem.run_bind, Sem.run_pure, Result.andThen_ok, List.map_toArray, List.map_cons, List.map_nil, hx, hrun]
  have hm : news.length = m := by simpa using hr.1
  exact h _ _ (by rw [List.length_append, hm]; exact h2) h3 (below_own hB h3 hown hB.size)
/-- the same, of a row of the call's own -/
theorem step_appO {P : Program} (V : World) {w : World} {o : Oper} {a : Act} {K : Act → World → Prop} {Q : Exit → Act → World → Prop} {ys : Nat → Option Bool} (T E : TypeId) (i : TypeInfo) (z : Value) (bytes : Nat) (hT : P.underlying T = some (.slice E)) (hi : P.info? E = some i) (hz0 : i.zero = some z) (hz1 : i.size = 1) (hz2 : i.bytes = bytes) (hzs : z.cells.size = 1)
    (hwt : Region.wanted o ys = true) (s x : Operand) (ho : o.op = .call { callee := .builtin .append, args := #[s, x], argTypes := #[T, T] })
    (xs : List Value) (hown : w.ownsRow V.heap.size E 1 (a.eval s) xs.length xs)
    (news : List Value) (hr : w.ownsRow V.heap.size E 1 (a.eval x) news.length news) (h1 : ∀ u ∈ news, u.oneCell' = true)
    (hlen : (xs.length + news.length) * bytes ≤ 140737488355328) (hlen2 : xs.length + news.length ≤ maxLen) (hB : Below V.heap.size V w)
    (h : ∀ v' w', w'.ownsRow V.heap.size E 1 v' (xs ++ news).length (xs ++ news) → w.grownBy w' (a.eval s).ownBlock → Below V.heap.size V w' → K (a.put o.dst v') w') :
    if Region.wanted o ys = true then Oper.wp P o a w K Q else K (a.put o.dst undef) w := by
  obtain ⟨A, c, hx, _, _, hrd⟩ := own_form hr
  exact step_appR V T E i z bytes hT hi hz0 hz1 hz2 hzs hwt s x ho xs hown w.heap.size A news.length c news hx hrd h1 hlen hlen2 hB h
end Go.Proofs.YthnbgbocanpkjaaGreat
namespace Go.Proofs.YthnbgbocanpkjaaGreat
open Go.RowKit
attribute [local go_sem] ext_cell
attribute [local simp] drew_heapK
theorem info_int64 : (Tryz.prog.info? 3).map (fun i => (i.zero, i.size, i.bytes)) = some (some (.int .i64 0), 1, 8) := by kernel_rfl
theorem elem_ints : Tryz.prog.elem 170 = 3 := by kernel_rfl
theorem elem_u16s : Tryz.prog.elem 36 = 34 := by kernel_rfl
/-- rows of numbers that can be read -/
def RowsI (w : World) (B : Nat) : List (List Int) → List Value → Prop
  | [], cs => cs = []
  | k :: l, cs => ∃ D d r, cs = .slice D k.length d :: r ∧ Rd w B 1 D k.length (k.map (Value.int .u64)) ∧ RowsI w B l r
theorem RowsI.below {w w' : World} {B : Nat} (hb : Below B w w') : ∀ {l : List (List Int)} {cs : List Value}, RowsI w B l cs → RowsI w' B l cs
  | [], _, h => h
  | _ :: _, _, ⟨D, d, r, e, h1, h2⟩ => ⟨D, d, r, e, h1.below hb, RowsI.below hb h2⟩
theorem RowsI.more {w : World} {B B' : Nat} (hb : B ≤ B') : ∀ {l : List (List Int)} {cs : List Value}, RowsI w B l cs → RowsI w B' l cs
  | [], _, h => h
  | _ :: _, _, ⟨D, d, r, e, h1, h2⟩ => ⟨D, d, r, e, h1.more hb, RowsI.more hb h2⟩
theorem RowsI.of_own {w : World} {base : Nat} : ∀ {l : List (List Int)} {cs : List Value}, RowsK w base l cs → RowsI w w.heap.size l cs
  | [], _, h => h
  | _ :: _, _, ⟨c, r, e, h1, h2⟩ => by
    obtain ⟨A, d, rfl, _, _, hr⟩ := own_form h1
    exact ⟨A, d, r, e, hr, RowsI.of_own h2⟩
theorem RowsI.at_ {w : World} {B : Nat} : ∀ {l : List (List Int)} {cs : List Value}, RowsI w B l cs → ∀ {i : Nat} {k : List Int}, l[i]? = some k → ∃ D d, cs[i]? = some (.slice D k.length d) ∧ Rd w B 1 D k.length (k.map (Value.int .u64))
  | [], _, _, i, k, h => by simp at h
  | _ :: _, _, ⟨D, d, r, e, h1, h2⟩, 0, k, h => by subst e; simp at h; subst h; exact ⟨D, d, rfl, h1⟩
  | _ :: _, _, ⟨D, d, r, e, h1, h2⟩, i + 1, k, h => by subst e; simpa using RowsI.at_ h2 (i := i) (k := k) (by simpa using h)
def KeysI (w : World) (B : Nat) (l : List (List Int)) (A : Option Addr) : Prop := ∃ cs, RowsI w B l cs ∧ Rd w B 1 A l.length cs
theorem KeysI.below {w w' : World} {B : Nat} {l : List (List Int)} {A : Option Addr} (h : KeysI w B l A) (hb : Below B w w') : KeysI w' B l A := by
  obtain ⟨cs, h1, h2⟩ := h
  exact ⟨cs, h1.below hb, h2.below hb⟩
theorem KeysI.up {w w' : World} {l : List (List Int)} {A : Option Addr} (h : KeysI w w.heap.size l A) (hb : Below w.heap.size w w') : KeysI w' w'.heap.size l A := by
  obtain ⟨cs, h1, h2⟩ := h.below hb
  exact ⟨cs, h1.more hb.size, h2.more hb.size⟩
theorem KeysI.addr {w : World} {B : Nat} {l : List (List Int)} {A : Option Addr} (h : KeysI w B l A) (hl : 0 < l.length) : ∃ b o, A = some ⟨b, o, none⟩ ∧ b < B := by
  obtain ⟨cs, h1, h2⟩ := h
  obtain ⟨b, o, e, hb, _⟩ := h2.2 hl
  exact ⟨b, o, e, hb⟩
theorem KeysI.cell {w : World} {B : Nat} {l : List (List Int)} {b o : Nat} (h : KeysI w B l (some ⟨b, o, none⟩)) {i : Nat} {k : List Int} (hk : l[i]? = some k) : ∃ D d, w.cell? ⟨b, o + i, none⟩ = some (.slice D k.length d) ∧ Rd w B 1 D k.length (k.map (Value.int .u64)) := by
  obtain ⟨cs, h1, h2⟩ := h
  obtain ⟨D, d, hc, hr⟩ := h1.at_ hk
  obtain ⟨b', o', e, _, hcell⟩ := h2.2 (by have := (List.getElem?_eq_some_iff.1 hk).1; omega)
  injection e with e
  injection e with e1 e2
  subst e1 e2
  exact ⟨D, d, hcell _ _ hc, hr⟩
def iV (n : Nat) : Value := .int .i64 n
theorem iV_one (o : List Nat) : ∀ u ∈ o.map iV, u.oneCell' = true := by
  intro u hu
  obtain ⟨z, _, rfl⟩ := List.mem_map.1 hu
  rfl
theorem nat_at {w : World} {B : Nat} {b o : Nat} {l : List Nat} (h : Rd w B 1 (some ⟨b, o, none⟩) l.length (l.map iV)) {k x : Nat} (hk : l[k]? = some x) : w.cell? ⟨b, o + k, none⟩ = some (.int .i64 x) := by
  have hlt : k < l.length := (List.getElem?_eq_some_iff.1 hk).1
  obtain ⟨b', o', e, _, hc⟩ := h.2 (by omega)
  injection e with e
  injection e with e1 e2
  subst e1 e2
  exact hc k _ (by simp [hk, iV])
theorem intF_at {w : World} {B : Nat} {b o : Nat} {q : IntKind} {l : List Int} (h : Rd w B 1 (some ⟨b, o, none⟩) l.length (l.map (Value.int q))) {k : Nat} {x : Int} (hk : l[k]? = some x) : w.cell? ⟨b, o + k, none⟩ = some (.int q x) := by
  obtain ⟨b', o', e, _, hc⟩ := int_at h hk
  injection e with e
  injection e with e1 e2
  subst e1 e2
  exact hc
theorem i16_one (o : List Int) : ∀ u ∈ o.map (Value.int .u16), u.oneCell' = true := by
  intro u hu
  obtain ⟨z, _, rfl⟩ := List.mem_map.1 hu
  rfl
theorem mem_take {α : Type} {l : List α} {m : Nat} {u : α} (h : u ∈ l.take m) : u ∈ l := List.mem_of_mem_take h
def keyAt (l : List (List Int)) (i : Nat) : List Int := l.getD i []
theorem keyAt_eq {l : List (List Int)} {i : Nat} {k : List Int} (h : l[i]? = some k) : keyAt l i = k := by
  unfold keyAt; rw [List.getD_eq_getElem?_getD, h]; rfl
def leAt (l : List (List Int)) (a b : Nat) : Prop := cmpL (keyAt l a) (keyAt l b) ≤ 0
theorem leAt_trans (l : List (List Int)) (a b c : Nat) (h1 : leAt l a b) (h2 : leAt l b c) : leAt l a c := cmpL_trans h1 h2
/-- indices up to k in order of their lists -/
structure OrdTo (l : List (List Int)) (k : Nat) (o : List Nat) : Prop where
  perm : o.Perm (List.range k)
  asc : o.Pairwise (leAt l)
theorem OrdTo.lt {l : List (List Int)} {k : Nat} {o : List Nat} (h : OrdTo l k o) {i : Nat} (hi : i ∈ o) : i < k := by
  simpa using (h.perm.mem_iff.1 hi)
theorem OrdTo.len {l : List (List Int)} {k : Nat} {o : List Nat} (h : OrdTo l k o) : o.length = k := by
  simpa using h.perm.length_eq
theorem OrdTo.zero (l : List (List Int)) : OrdTo l 0 [] := ⟨.refl _, .nil⟩
theorem OrdTo.next {l : List (List Int)} {k : Nat} {o : List Nat} (h : OrdTo l k o) (m : Nat) (h1 : ∀ y ∈ o.drop m, leAt l k y) (h2 : m = 0 ∨ ∃ y, o[m - 1]? = some y ∧ leAt l y k) : OrdTo l (k + 1) (o.take m ++ k :: o.drop m) := by
  refine ⟨(ins_perm o k m).trans ?_, ins_pw (leAt_trans l) h.asc k m h1 h2⟩
  rw [List.range_succ]
  exact (h.perm.cons k).trans (List.perm_append_comm (l₁ := [k]) (l₂ := List.range k))
theorem less_le {l : List (List Int)} {a b : Nat} (h : lessL (keyAt l a) (keyAt l b) = true) : leAt l a b := by
  unfold lessL at h; unfold leAt
  have := of_decide_eq_true h
  omega
theorem not_less_le {l : List (List Int)} {a b : Nat} (h : lessL (keyAt l a) (keyAt l b) = false) : leAt l b a := by
  unfold lessL at h; unfold leAt
  have h1 := of_decide_eq_false h
  have := cmpL_neg (keyAt l a) (keyAt l b)
  omega
/-- numbers up to k in order -/
structure DstTo (l : List Int) (k : Nat) (o : List Int) : Prop where
  perm : o.Perm (l.take k)
  asc : o.Pairwise (· ≤ ·)
theorem DstTo.len {l : List Int} {k : Nat} {o : List Int} (h : DstTo l k o) (hk : k ≤ l.length) : o.length = k := by
  rw [h.perm.length_eq, List.length_take]; omega
theorem DstTo.zero (l : List Int) : DstTo l 0 [] := ⟨by simp, .nil⟩
theorem DstTo.next {l : List Int} {k : Nat} {x : Int} {o : List Int} (h : DstTo l k o) (hx : l[k]? = some x) (m : Nat) (h1 : ∀ y ∈ o.drop m, x ≤ y) (h2 : m = 0 ∨ ∃ y, o[m - 1]? = some y ∧ y ≤ x) : DstTo l (k + 1) (o.take m ++ x :: o.drop m) := by
  refine ⟨(ins_perm o x m).trans ?_, ins_pw (R := fun a b : Int => a ≤ b) (fun _ _ _ h1 h2 => Int.le_trans h1 h2) h.asc x m h1 h2⟩
  rw [take_next hx]
  exact (h.perm.cons x).trans (List.perm_append_comm (l₁ := [x]) (l₂ := l.take k))
theorem DstTo.all {l o : List Int} (h : DstTo l l.length o) : o = l.mergeSort (fun a b => decide (a ≤ b)) := by
  have hp : o.Perm l := by have := h.perm; rwa [List.take_length] at this
  have h1 := List.pairwise_mergeSort (le := fun a b : Int => decide (a ≤ b)) (fun a b c h1 h2 => by simp at *; omega) (fun a b => by simp; omega) l
  exact List.Perm.eq_of_pairwise (fun a b _ _ h1 h2 => Int.le_antisymm h1 h2) h.asc (h1.imp fun h => by simpa using h) (hp.trans (List.mergeSort_perm _ _).symm)
theorem map_insV {α : Type} (f : α → Value) (o : List α) (x : α) (m : Nat) : (o.take m ++ x :: o.drop m).map f = ((([] : List Value) ++ (o.map f).take (m * 1)) ++ [f x]) ++ (o.map f).drop (m * 1) := by
  simp
set_option maxRecDepth 100000 in
set_option maxHeartbeats 8000000 in
theorem rDest05_ok (l : List Int) (A : Option Addr) (c : Nat) (w : World) (hl : l.length ≤ 1048576) (hR : Rd w w.heap.size 1 A l.length (l.map (Value.int .u16))) :
    Calls Tryz.prog 46 #[.slice A l.length c] w fun e w' => ∃ v, e = .returned v ∧ w'.ownsRow w.heap.size 34 1 v l.length ((l.mergeSort (fun a b => decide (a ≤ b))).map (Value.int .u16)) ∧ Below w.heap.size w w' := by
  obtain ⟨i0, hi, hz0, hz1, hz2⟩ := info_parts info_u16
  have HR := Lib.hid hR
  clear hR
  go_enter Tryz.func46, Tryz.ntmps46
  go_wp2
  go_loopw [3, 4] (fun v i wr => ∃ (k : Nat) (o : List Int), k ≤ l.length ∧ i = .int .i64 k ∧ Hid (DstTo l k o) ∧ Hid (wr.ownsRow w.heap.size 34 1 v o.length (o.map (Value.int .u16))) ∧ Hid (Below w.heap.size w wr)) (fun _ i _ => l.length - (intOf i).toNat)
  case atStart => exact ⟨0, [], Nat.zero_le _, rfl, Lib.hid (DstTo.zero l), Lib.hid (World.ownsRow_nil _ _ _ _), Lib.hid (Below.refl _ _)⟩
  case round =>
    obtain ⟨k, o, hk, rfl, HT, HO, HB⟩ := hrel
    have hol := HT.out.len hk
    have HOL := Lib.hid hol
    have hob : o.length ≤ 1048576 := by omega
    obtain ⟨oA, oc, rfl, hoc, hoc2, hrd⟩ := own_form HO.out
    have HRD := Lib.hid hrd
    clear hrd
    by_cases hlt : k < l.length
    · obtain ⟨x, hx⟩ := get_lt hlt
      have HX := Lib.hid hx
      have HLI := Lib.hid (HR.out.up HB.out)
      obtain ⟨b, oo, rfl, hb, _⟩ := HLI.out.2 (by omega)
      have n0 : (0 : Int) ≤ (k : Int) := by omega
      have n1 : (k : Int) < (l.length : Int) := by omega
      have HBK := Lib.hid hb
      clear hx hol hlt hb
      obtain ⟨wo, rfl⟩ : ∃ wo : World, wo = wr := ⟨_, rfl⟩
      go_wp2
      go_loopw [5] (fun i w2 => ∃ m : Nat, m ≤ o.length ∧ i = .int .i64 m ∧ Hid (∀ y ∈ o.drop m, x ≤ y) ∧ Hid (Below wo.heap.size wo w2)) (fun i _ => (intOf i).toNat)
      case atStart => exact ⟨o.length, Nat.le_refl _, rfl, Lib.hid (by simp), Lib.hid (Below.refl _ _)⟩
      case round =>
        obtain ⟨m, hm, rfl, HL, HB2⟩ := hrel
        have HLI2 := Lib.hid (HLI.out.up HB2.out)
        have g1 := intF_at HLI2.out HX.out
        have hbk : b < wr.heap.size := Nat.lt_of_lt_of_le HBK.out HB2.out.size
        have HRD2 := Lib.hid (HRD.out.up HB2.out)
        have m0 : (0 : Int) ≤ (m : Int) := by omega
        rcases Nat.eq_zero_or_pos m with hz | hm0
        · have HLE := Lib.hid (show m = 0 ∨ ∃ y, o[m - 1]? = some y ∧ y ≤ x from .inl hz)
          have hd : decide ((0 : Int) < (m : Int)) = false := by subst hz; rfl
          have hd2 : decide (0 < m) = false := by subst hz; rfl
          clear hz
          go_wp2_with fail
          refine wp_region_ext (by kernel_rfl) (by kernel_rfl) ?_
          repeat (go_big_quiet_step (fail))
          refine wpQuiet_nil ?_
          intro xa
          clear hd hd2
          have HB3 := Lib.hid (Below.then_ HB2.out (ext_below _ xa))
          clear hbk
          clear g1
          generalize ext wr xa = W3 at *
          have g1 := intF_at (HLI.out.up HB3.out) HX.out
          have HKP := Lib.hid (show ∀ U, Below W3.heap.size W3 U → U.cell? ⟨b, oo + k, none⟩ = some (.int .u16 x) from fun U hU => intF_at ((HLI.out.up HB3.out).up hU) HX.out)
          have HRD3 := Lib.hid (HRD.out.up HB3.out)
          obtain ⟨A1, c1, hs1, hp1, _, _⟩ := slice_pre (P := Tryz.prog) (t := 36) (sz := 1) Tryz.underlying36 (run_sizeOf hi hz1) HRD3.out hoc m (by omega)
          obtain ⟨A2, c2, hs2, hp2, _, _⟩ := slice_suf (P := Tryz.prog) (t := 36) (sz := 1) Tryz.underlying36 (run_sizeOf hi hz1) HRD3.out hoc m (by omega)
          have HP := Lib.hid hp1
          have HQ := Lib.hid hp2
          have HO1 := Lib.hid (show ∀ u ∈ (o.map (Value.int .u16)).take (m * 1), u.oneCell' = true from fun u hu => i16_one o u (List.mem_of_mem_take hu))
          have HO2 := Lib.hid (show ∀ u ∈ (o.map (Value.int .u16)).drop (m * 1), u.oneCell' = true from fun u hu => i16_one o u (List.mem_of_mem_drop hu))
          have HBW := Lib.hid (Below.refl W3.heap.size W3)
          clear hp1 hp2
          go_upto_region 8 with (fail)
          go_region_held3 (fun w' => w'.cell? ⟨b, oo + k, none⟩ = some (.int .u16 x))
          (first | (refine HKP.out _ ?_; (repeat (first | with_reducible exact HBW.out | with_reducible exact Below.refl _ _ | with_reducible refine Below.drew ?_ | (with_reducible refine Below.alloc ?_ (by first | (simp; done) | (have hq := HBW.out.size; simp at hq ⊢; omega)) _) | (with_reducible refine Below.setCell ?_ (by first | (simp; done) | (have hq := HBW.out.size; simp at hq ⊢; omega)) _))); done) | go_keep)
          (first
          | (refine step_appR W3 36 34 i0 (.int .u16 0) 2 Tryz.underlying36 hi hz0 hz1 hz2 rfl (by rfl) (.tmp 30) (.tmp 33) (by rfl) [] ?_ W3.heap.size A1 m c1 ((o.map (Value.int .u16)).take (m * 1)) (by rfl) ?_ ?_ ?_ ?_ ?_ ?_; (focus ((repeat (first | (with_reducible refine own_drew ?_) | (exact hq1) | (refine World.ownsRow.kept ?_ hg1 (Or.inr ?_); rotate_left; (intro e; have e2 := Option.some.inj e; first | (exfalso; dsimp only at e2; omega) | (exfalso; have hy := HBW.out.size; simp at hy e2; omega))) | (refine own_litV _ _ _ [] _ _ ?_ ?_ ?_ ?_ _ ?_; (focus (first | (simp; done) | (have hq := HBW.out.size; simp at hq ⊢; omega) | omega; done)); (focus (simp; done)); (focus (simp [maxLen]; done)); (focus (exact rfl)); (focus (exact rfl))) | (with_reducible refine World.ownsRow.alloc ?_ _))); done)); (focus (exact HP.out.below (by (repeat (first | with_reducible exact HBW.out | with_reducible exact Below.refl _ _ | with_reducible refine Below.drew ?_ | (with_reducible refine Below.alloc ?_ (by first | (simp; done) | (have hq := HBW.out.size; simp at hq ⊢; omega)) _) | (with_reducible refine Below.setCell ?_ (by first | (simp; done) | (have hq := HBW.out.size; simp at hq ⊢; omega)) _)))))); (focus (exact HO1.out)); (focus (simp; omega)); (focus (simp [maxLen]; omega)); (focus ((repeat (first | with_reducible exact HBW.out | with_reducible exact Below.refl _ _ | with_reducible refine Below.drew ?_ | (with_reducible refine Below.alloc ?_ (by first | (simp; done) | (have hq := HBW.out.size; simp at hq ⊢; omega)) _) | (with_reducible refine Below.setCell ?_ (by first | (simp; done) | (have hq := HBW.out.size; simp at hq ⊢; omega)) _))); done)); intro v1 w1 hq1 hg1 hbb; have HBW := Lib.hid hbb)
          | (refine step_appO W3 36 34 i0 (.int .u16 0) 2 Tryz.underlying36 hi hz0 hz1 hz2 rfl (by rfl) (.tmp 34) (.tmp 39) (by rfl) ([] ++ (o.map (Value.int .u16)).take (m * 1)) ?_ [.int .u16 x] ?_ ?_ ?_ ?_ ?_ ?_; (focus ((repeat (first | (with_reducible refine own_drew ?_) | (exact hq1) | (refine World.ownsRow.kept ?_ hg1 (Or.inr ?_); rotate_left; (intro e; have e2 := Option.some.inj e; first | (exfalso; dsimp only at e2; omega) | (exfalso; have hy := HBW.out.size; simp at hy e2; omega))) | (refine own_litV _ _ _ [.int .u16 x] _ _ ?_ ?_ ?_ ?_ _ ?_; (focus (first | (simp; done) | (have hq := HBW.out.size; simp at hq ⊢; omega) | omega; done)); (focus (simp; done)); (focus (simp [maxLen]; done)); (focus (exact rfl)); (focus (exact rfl))) | (with_reducible refine World.ownsRow.alloc ?_ _))); done)); (focus ((repeat (first | (with_reducible refine own_drew ?_) | (exact hq1) | (refine World.ownsRow.kept ?_ hg1 (Or.inr ?_); rotate_left; (intro e; have e2 := Option.some.inj e; first | (exfalso; dsimp only at e2; omega) | (exfalso; have hy := HBW.out.size; simp at hy e2; omega))) | (refine own_litV _ _ _ [.int .u16 x] _ _ ?_ ?_ ?_ ?_ _ ?_; (focus (first | (simp; done) | (have hq := HBW.out.size; simp at hq ⊢; omega) | omega; done)); (focus (simp; done)); (focus (simp [maxLen]; done)); (focus (exact rfl)); (focus (exact rfl))) | (with_reducible refine World.ownsRow.alloc ?_ _))); done)); (focus (intro u hu; simp at hu; subst hu; rfl)); (focus (simp; omega)); (focus (simp [maxLen]; omega)); (focus ((repeat (first | with_reducible exact HBW.out | with_reducible exact Below.refl _ _ | with_reducible refine Below.drew ?_ | (with_reducible refine Below.alloc ?_ (by first | (simp; done) | (have hq := HBW.out.size; simp at hq ⊢; omega)) _) | (with_reducible refine Below.setCell ?_ (by first | (simp; done) | (have hq := HBW.out.size; simp at hq ⊢; omega)) _))); done)); intro v2 w2 hq2 hg2 hbb; have HBW := Lib.hid hbb)
          | (refine step_appR W3 36 34 i0 (.int .u16 0) 2 Tryz.underlying36 hi hz0 hz1 hz2 rfl (by rfl) (.tmp 40) (.tmp 43) (by rfl) (([] ++ (o.map (Value.int .u16)).take (m * 1)) ++ [.int .u16 x]) ?_ W3.heap.size A2 (o.length - m) c2 ((o.map (Value.int .u16)).drop (m * 1)) (by rfl) ?_ ?_ ?_ ?_ ?_ ?_; (focus (exact hq2)); (focus (exact HQ.out.below (by (repeat (first | with_reducible exact HBW.out | with_reducible exact Below.refl _ _ | with_reducible refine Below.drew ?_ | (with_reducible refine Below.alloc ?_ (by first | (simp; done) | (have hq := HBW.out.size; simp at hq ⊢; omega)) _) | (with_reducible refine Below.setCell ?_ (by first | (simp; done) | (have hq := HBW.out.size; simp at hq ⊢; omega)) _)))))); (focus (exact HO2.out)); (focus (simp; omega)); (focus (simp [maxLen]; omega)); (focus ((repeat (first | with_reducible exact HBW.out | with_reducible exact Below.refl _ _ | with_reducible refine Below.drew ?_ | (with_reducible refine Below.alloc ?_ (by first | (simp; done) | (have hq := HBW.out.size; simp at hq ⊢; omega)) _) | (with_reducible refine Below.setCell ?_ (by first | (simp; done) | (have hq := HBW.out.size; simp at hq ⊢; omega)) _))); done)); intro v3 w3 hq3 hg3 hbb; have HBW := Lib.hid hbb)
          | fail)
          all_goals
            have HB4 := Lib.hid (Below.then_ HB.out (Below.then_ HB3.out HBW.out))
            have HO4 := Lib.hid (own_lessC hq3 (Nat.le_trans HB.out.size HB3.out.size))
            have HT4 := Lib.hid (HT.out.next HX.out m HL.out HLE.out)
            rw [← map_insV (Value.int .u16) o x m] at HO4
            rw [List.length_map] at HO4
            clear hq3 hq2 hq1 hg1 hg2 hg3
            go_wp2
            go_roundw
            case rel => exact ⟨k + 1, _, by omega, by go_num, HT4, HO4, HB4⟩
            case measure => simp [intOf]; omega
        · obtain ⟨n, hn⟩ : ∃ n, m = n + 1 := ⟨m - 1, by omega⟩
          have HN := Lib.hid hn
          have e1 : IntKind.i64.wrap ((m : Int) - 1) = (n : Int) := by rw [IntKind.wrap_i64]; omega
          have q0 : (0 : Int) ≤ (n : Int) := by omega
          have q1 : (n : Int) < (o.length : Int) := by omega
          have q2 : (0 : Int) < (m : Int) := by omega
          obtain ⟨y, hy⟩ := get_lt (l := o) (k := n) (by omega)
          obtain ⟨b3, o3, rfl, hb3, _⟩ := HRD2.out.2 (by omega)
          have g3 := intF_at HRD2.out hy
          have HY := Lib.hid hy
          clear hn hy
          by_cases hle : y ≤ x
          · have HLE := Lib.hid (show m = 0 ∨ ∃ y, o[m - 1]? = some y ∧ y ≤ x from .inr ⟨y, by rw [HN.out]; exact HY.out, hle⟩)
            have hd : decide (x < y) = false := decide_eq_false (by omega)
            have HLF := Lib.hid hle
            clear hle
            go_wp2_with fail
            refine wp_region_ext (by kernel_rfl) (by kernel_rfl) ?_
            repeat (go_big_quiet_step (fail))
            refine wpQuiet_nil ?_
            intro xa
            clear e1 q0 q1 q2 g3 hb3 hd
            have HB3 := Lib.hid (Below.then_ HB2.out (ext_below _ xa))
            clear hbk
            clear g1
            generalize ext wr xa = W3 at *
            have g1 := intF_at (HLI.out.up HB3.out) HX.out
            have HKP := Lib.hid (show ∀ U, Below W3.heap.size W3 U → U.cell? ⟨b, oo + k, none⟩ = some (.int .u16 x) from fun U hU => intF_at ((HLI.out.up HB3.out).up hU) HX.out)
            have HRD3 := Lib.hid (HRD.out.up HB3.out)
            obtain ⟨A1, c1, hs1, hp1, _, _⟩ := slice_pre (P := Tryz.prog) (t := 36) (sz := 1) Tryz.underlying36 (run_sizeOf hi hz1) HRD3.out hoc m (by omega)
            obtain ⟨A2, c2, hs2, hp2, _, _⟩ := slice_suf (P := Tryz.prog) (t := 36) (sz := 1) Tryz.underlying36 (run_sizeOf hi hz1) HRD3.out hoc m (by omega)
            have HP := Lib.hid hp1
            have HQ := Lib.hid hp2
            have HO1 := Lib.hid (show ∀ u ∈ (o.map (Value.int .u16)).take (m * 1), u.oneCell' = true from fun u hu => i16_one o u (List.mem_of_mem_take hu))
            have HO2 := Lib.hid (show ∀ u ∈ (o.map (Value.int .u16)).drop (m * 1), u.oneCell' = true from fun u hu => i16_one o u (List.mem_of_mem_drop hu))
            have HBW := Lib.hid (Below.refl W3.heap.size W3)
            clear hp1 hp2
            go_upto_region 8 with (fail)
            go_region_held3 (fun w' => w'.cell? ⟨b, oo + k, none⟩ = some (.int .u16 x))
            (first | (refine HKP.out _ ?_; (repeat (first | with_reducible exact HBW.out | with_reducible exact Below.refl _ _ | with_reducible refine Below.drew ?_ | (with_reducible refine Below.alloc ?_ (by first | (simp; done) | (have hq := HBW.out.size; simp at hq ⊢; omega)) _) | (with_reducible refine Below.setCell ?_ (by first | (simp; done) | (have hq := HBW.out.size; simp at hq ⊢; omega)) _))); done) | go_keep)
            (first
            | (refine step_appR W3 36 34 i0 (.int .u16 0) 2 Tryz.underlying36 hi hz0 hz1 hz2 rfl (by rfl) (.tmp 30) (.tmp 33) (by rfl) [] ?_ W3.heap.size A1 m c1 ((o.map (Value.int .u16)).take (m * 1)) (by rfl) ?_ ?_ ?_ ?_ ?_ ?_; (focus ((repeat (first | (with_reducible refine own_drew ?_) | (exact hq1) | (refine World.ownsRow.kept ?_ hg1 (Or.inr ?_); rotate_left; (intro e; have e2 := Option.some.inj e; first | (exfalso; dsimp only at e2; omega) | (exfalso; have hy := HBW.out.size; simp at hy e2; omega))) | (refine own_litV _ _ _ [] _ _ ?_ ?_ ?_ ?_ _ ?_; (focus (first | (simp; done) | (have hq := HBW.out.size; simp at hq ⊢; omega) | omega; done)); (focus (simp; done)); (focus (simp [maxLen]; done)); (focus (exact rfl)); (focus (exact rfl))) | (with_reducible refine World.ownsRow.alloc ?_ _))); done)); (focus (exact HP.out.below (by (repeat (first | with_reducible exact HBW.out | with_reducible exact Below.refl _ _ | with_reducible refine Below.drew ?_ | (with_reducible refine Below.alloc ?_ (by first | (simp; done) | (have hq := HBW.out.size; simp at hq ⊢; omega)) _) | (with_reducible refine Below.setCell ?_ (by first | (simp; done) | (have hq := HBW.out.size; simp at hq ⊢; omega)) _)))))); (focus (exact HO1.out)); (focus (simp; omega)); (focus (simp [maxLen]; omega)); (focus ((repeat (first | with_reducible exact HBW.out | with_reducible exact Below.refl _ _ | with_reducible refine Below.drew ?_ | (with_reducible refine Below.alloc ?_ (by first | (simp; done) | (have hq := HBW.out.size; simp at hq ⊢; omega)) _) | (with_reducible refine Below.setCell ?_ (by first | (simp; done) | (have hq := HBW.out.size; simp at hq ⊢; omega)) _))); done)); intro v1 w1 hq1 hg1 hbb; have HBW := Lib.hid hbb)
            | (refine step_appO W3 36 34 i0 (.int .u16 0) 2 Tryz.underlying36 hi hz0 hz1 hz2 rfl (by rfl) (.tmp 34) (.tmp 39) (by rfl) ([] ++ (o.map (Value.int .u16)).take (m * 1)) ?_ [.int .u16 x] ?_ ?_ ?_ ?_ ?_ ?_; (focus ((repeat (first | (with_reducible refine own_drew ?_) | (exact hq1) | (refine World.ownsRow.kept ?_ hg1 (Or.inr ?_); rotate_left; (intro e; have e2 := Option.some.inj e; first | (exfalso; dsimp only at e2; omega) | (exfalso; have hy := HBW.out.size; simp at hy e2; omega))) | (refine own_litV _ _ _ [.int .u16 x] _ _ ?_ ?_ ?_ ?_ _ ?_; (focus (first | (simp; done) | (have hq := HBW.out.size; simp at hq ⊢; omega) | omega; done)); (focus (simp; done)); (focus (simp [maxLen]; done)); (focus (exact rfl)); (focus (exact rfl))) | (with_reducible refine World.ownsRow.alloc ?_ _))); done)); (focus ((repeat (first | (with_reducible refine own_drew ?_) | (exact hq1) | (refine World.ownsRow.kept ?_ hg1 (Or.inr ?_); rotate_left; (intro e; have e2 := Option.some.inj e; first | (exfalso; dsimp only at e2; omega) | (exfalso; have hy := HBW.out.size; simp at hy e2; omega))) | (refine own_litV _ _ _ [.int .u16 x] _ _ ?_ ?_ ?_ ?_ _ ?_; (focus (first | (simp; done) | (have hq := HBW.out.size; simp at hq ⊢; omega) | omega; done)); (focus (simp; done)); (focus (simp [maxLen]; done)); (focus (exact rfl)); (focus (exact rfl))) | (with_reducible refine World.ownsRow.alloc ?_ _))); done)); (focus (intro u hu; simp at hu; subst hu; rfl)); (focus (simp; omega)); (focus (simp [maxLen]; omega)); (focus ((repeat (first | with_reducible exact HBW.out | with_reducible exact Below.refl _ _ | with_reducible refine Below.drew ?_ | (with_reducible refine Below.alloc ?_ (by first | (simp; done) | (have hq := HBW.out.size; simp at hq ⊢; omega)) _) | (with_reducible refine Below.setCell ?_ (by first | (simp; done) | (have hq := HBW.out.size; simp at hq ⊢; omega)) _))); done)); intro v2 w2 hq2 hg2 hbb; have HBW := Lib.hid hbb)
            | (refine step_appR W3 36 34 i0 (.int .u16 0) 2 Tryz.underlying36 hi hz0 hz1 hz2 rfl (by rfl) (.tmp 40) (.tmp 43) (by rfl) (([] ++ (o.map (Value.int .u16)).take (m * 1)) ++ [.int .u16 x]) ?_ W3.heap.size A2 (o.length - m) c2 ((o.map (Value.int .u16)).drop (m * 1)) (by rfl) ?_ ?_ ?_ ?_ ?_ ?_; (focus (exact hq2)); (focus (exact HQ.out.below (by (repeat (first | with_reducible exact HBW.out | with_reducible exact Below.refl _ _ | with_reducible refine Below.drew ?_ | (with_reducible refine Below.alloc ?_ (by first | (simp; done) | (have hq := HBW.out.size; simp at hq ⊢; omega)) _) | (with_reducible refine Below.setCell ?_ (by first | (simp; done) | (have hq := HBW.out.size; simp at hq ⊢; omega)) _)))))); (focus (exact HO2.out)); (focus (simp; omega)); (focus (simp [maxLen]; omega)); (focus ((repeat (first | with_reducible exact HBW.out | with_reducible exact Below.refl _ _ | with_reducible refine Below.drew ?_ | (with_reducible refine Below.alloc ?_ (by first | (simp; done) | (have hq := HBW.out.size; simp at hq ⊢; omega)) _) | (with_reducible refine Below.setCell ?_ (by first | (simp; done) | (have hq := HBW.out.size; simp at hq ⊢; omega)) _))); done)); intro v3 w3 hq3 hg3 hbb; have HBW := Lib.hid hbb)
            | fail)
            all_goals
              have HB4 := Lib.hid (Below.then_ HB.out (Below.then_ HB3.out HBW.out))
              have HO4 := Lib.hid (own_lessC hq3 (Nat.le_trans HB.out.size HB3.out.size))
              have HT4 := Lib.hid (HT.out.next HX.out m HL.out HLE.out)
              rw [← map_insV (Value.int .u16) o x m] at HO4
              rw [List.length_map] at HO4
              clear hq3 hq2 hq1 hg1 hg2 hg3
              go_wp2
              go_roundw
              case rel => exact ⟨k + 1, _, by omega, by go_num, HT4, HO4, HB4⟩
              case measure => simp [intOf]; omega
          · have HLE := Lib.hid (show ∀ y ∈ o.drop n, x ≤ y from fun u hu => by
              rw [drop_cons HY.out] at hu
              rcases List.mem_cons.1 hu with rfl | hu
              · omega
              · exact HL.out u (by rw [HN.out]; exact hu))
            have hd : decide (x < y) = true := decide_eq_true (by omega)
            have HLF := Lib.hid hle
            clear hle
            go_wp2_with fail
            refine wp_region_ext (by kernel_rfl) (by kernel_rfl) ?_
            repeat (go_big_quiet_step (fail))
            refine wpQuiet_nil ?_
            intro xa
            have HB3 := Lib.hid (Below.then_ HB2.out (ext_below _ xa))
            clear g1 g3 hd
            go_wp2
            go_roundw
            case rel => exact ⟨n, by omega, by first | rfl | (congr 1; omega), HLE, HB3⟩
            case measure => have := HN.out; simp [intOf]; omega
    · obtain rfl : k = l.length := by omega
      have HE := Lib.hid (show wr.ownsRow w.heap.size 34 1 (.slice oA o.length oc) l.length ((l.mergeSort (fun a b => decide (a ≤ b))).map (Value.int .u16)) by
        rw [← HT.out.all, ← HOL.out]
        exact HO.out)
      go_wp2
      go_ret
      exact ⟨_, rfl, HE.out, HB.out⟩
end Go.Proofs.YthnbgbocanpkjaaGreat
namespace Go.Proofs.YthnbgbocanpkjaaGreat
open Go.RowKit
attribute [local go_sem] ext_cell
def keysOf (c : Cfg) : Nat → List (List Int)
  | 1 => c.parts.map keyPar
  | 2 => c.wins.map keyWin
  | 3 => c.regs.map keyReg
  | 4 => c.ports.map keyPrt
  | 5 => c.chans.map keyChn
  | _ => []
theorem map_inj_ {α β : Type} {f : α → β} (hf : ∀ x y, f x = f y → x = y) : ∀ {l m : List α}, l.map f = m.map f → l = m
  | [], [], _ => rfl
  | [], _ :: _, h => by simp at h
  | _ :: _, [], h => by simp at h
  | x :: r, y :: s, h => by
    simp only [List.map_cons, List.cons.injEq] at h
    rw [hf _ _ h.1, map_inj_ hf h.2]
theorem cfg_of_keys {a b : Cfg} (hf : a.frame = b.frame) (h : ∀ s, 1 ≤ s → s < 6 → keysOf a s = keysOf b s) : a = b := by
  have h1 := map_inj_ (fun _ _ => keyPar_inj) (h 1 (by omega) (by omega))
  have h2 := map_inj_ (fun _ _ => keyWin_inj) (h 2 (by omega) (by omega))
  have h3 := map_inj_ (fun _ _ => keyReg_inj) (h 3 (by omega) (by omega))
  have h4 := map_inj_ (fun _ _ => keyPrt_inj) (h 4 (by omega) (by omega))
  have h5 := map_inj_ (fun _ _ => keyChn_inj) (h 5 (by omega) (by omega))
  obtain ⟨f, p, w, r, t, x⟩ := a
  obtain ⟨f', p', w', r', t', x'⟩ := b
  simp only at hf h1 h2 h3 h4 h5
  rw [hf, h1, h2, h3, h4, h5]
theorem textL_len (s : List UInt8) : (textL s).length = s.length + 1 := by unfold textL; simp
theorem keys_len {c : Cfg} (hs : c.small) (s : Nat) : (keysOf c s).length ≤ 1048576 ∧ ∀ k ∈ keysOf c s, k.length ≤ 8388608 := by
  have hb := hs.bd
  have nil : ([] : List (List Int)).length ≤ 1048576 ∧ ∀ k ∈ ([] : List (List Int)), k.length ≤ 8388608 := ⟨by simp, by simp⟩
  match s with
  | 0 => exact nil
  | 1 => exact ⟨by simpa [keysOf] using hb.p, fun k hk => by
      obtain ⟨x, hx, rfl⟩ := List.mem_map.1 hk
      have := hs.pnames x hx
      unfold BIG at this
      simp [keyPar, textL_len]; omega⟩
  | 2 => exact ⟨by simpa [keysOf] using hb.w, fun k hk => by
      obtain ⟨x, hx, rfl⟩ := List.mem_map.1 hk
      simp [keyWin]⟩
  | 3 => exact ⟨by simpa [keysOf] using hb.r, fun k hk => by
      obtain ⟨x, hx, rfl⟩ := List.mem_map.1 hk
      simp [keyReg]⟩
  | 4 => exact ⟨by simpa [keysOf] using hb.t, fun k hk => by
      obtain ⟨x, hx, rfl⟩ := List.mem_map.1 hk
      have := hs.tnames x hx
      unfold BIG at this
      simp [keyPrt, textL_len]; omega⟩
  | 5 => exact ⟨by simpa [keysOf] using hb.x, fun k hk => by
      obtain ⟨x, hx, rfl⟩ := List.mem_map.1 hk
      have := hb.d x hx
      simp [keyChn]; omega⟩
  | _ + 6 => exact nil
theorem less_none {l m : List Int} (h1 : lessL l m = false) (h2 : lessL m l = false) : l = m := by
  unfold lessL at h1 h2
  have a := of_decide_eq_false h1
  have b := of_decide_eq_false h2
  have c := cmpL_neg l m
  exact cmpL_zero (by omega)
theorem less_self (l : List Int) : lessL l l = false := by
  unfold lessL; rw [cmpL_refl]; rfl
theorem keys_ne {a b : Cfg} {s i : Nat} {x y : List Int} {v : Bool} (hv : Hid (eqC a b = v)) (hx : (keysOf a s)[i]? = some x) (hy : (keysOf b s)[i]? = some y) (h : lessL x y = true ∨ lessL y x = true) : v = false :=
  cfg_ne hv.out (by
    rintro rfl
    rw [hx] at hy
    injection hy with e
    subst e
    rw [less_self] at h
    simp at h)
end Go.Proofs.YthnbgbocanpkjaaGreat
