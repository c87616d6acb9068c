/-
  Plain lemmas on the model that every proof of this seat uses: slices that read as lists, maps that read as association lists, worlds that have only grown. They speak of no program; no condition.
-/
import Derived.WalkKit
import Derived.WalkSpells
import Derived.WalkLawsBesides
import Derived.ProofKit
import Derived.Maps.Keyed
import Derived.Deep.AppendLies
import Derived.DeepKeys4
import Derived.Maps.AppendAt
import Derived.Lib.Hide
import Derived.Deep.Slices
import Derived.Deep.QuietTactic
import Derived.BigQuiet
namespace Go.Proofs.YtldchpmilknlmaaGreat
open Go.RowKit
open Go.Maps (Keyed)

/-! ### cells under Below -/
theorem bcell {W w1 : World} (hb : Below W.heap.size W w1) : (∀ b o, b < W.heap.size → w1.cell? ⟨b, o, none⟩ = W.cell? ⟨b, o, none⟩) ∧ (∀ b o, b < W.heap.size → w1.frozen? ⟨b, o, none⟩ = W.frozen? ⟨b, o, none⟩) :=
  ⟨fun b o h => hb.cell (p := ⟨b, o, none⟩) h, fun b o h => hb.frozen (p := ⟨b, o, none⟩) h⟩
theorem ret_int {k : IntKind} {a b : Int} (h : a = b) : Ending.returned (.int k a) = .returned (.int k b) := by rw [h]
theorem ret_bool {a b : Bool} (h : a = b) : Ending.returned (.bool a) = .returned (.bool b) := by rw [h]
theorem addr_block (a : Addr) (n : Nat) : (a.add n).block = a.block := by unfold Addr.add; split <;> rfl
theorem addr_add (b o n : Nat) : (⟨b, o, none⟩ : Addr).add n = ⟨b, o + n, none⟩ := by
  unfold Addr.add
  split
  · subst_vars; rfl
  · rfl
theorem cell_spot {w : World} {a : Addr} {v : Value} (h : w.cell? a = some v) : a = ⟨a.block, a.off, none⟩ := by
  unfold World.cell? at h
  split at h
  · split at h
    · cases h
    · rename_i hs
      obtain ⟨b, o, s⟩ := a
      simp only [Option.isSome_iff_exists] at hs
      cases s with
      | none => rfl
      | some x => exact absurd ⟨x, rfl⟩ hs
  · cases h
theorem cell_lt {w : World} {a : Addr} {v : Value} (h : w.cell? a = some v) : a.block < w.heap.size := World.block_lt_of_cell? w a h

/-! ### a slice that reads as a list of cells -/
def Rd (w : World) (B sz : Nat) (A : Option Addr) (n : Nat) (xs : List Value) : Prop :=
  xs.length = n * sz ∧ (0 < n → ∃ b o, A = some ⟨b, o, none⟩ ∧ b < B ∧ ∀ j u, xs[j]? = some u → w.cell? ⟨b, o + j, none⟩ = some u)
section
variable {w w' : World} {B B' sz n : Nat} {A : Option Addr} {xs : List Value}
theorem Rd.nil : Rd w B sz A 0 [] := ⟨by simp, fun h => absurd h (by omega)⟩
theorem Rd.keep (h : Rd w B sz A n xs) (hk : ∀ b o, b < B → w'.cell? ⟨b, o, none⟩ = w.cell? ⟨b, o, none⟩) : Rd w' B sz A n xs :=
  ⟨h.1, fun hn => by
    obtain ⟨b, o, e, hb, hc⟩ := h.2 hn
    exact ⟨b, o, e, hb, fun j u hu => (hk _ _ hb).trans (hc j u hu)⟩⟩
theorem Rd.more (h : Rd w B sz A n xs) (hB : B ≤ B') : Rd w B' sz A n xs :=
  ⟨h.1, fun hn => by
    obtain ⟨b, o, e, hb, hc⟩ := h.2 hn
    exact ⟨b, o, e, by omega, hc⟩⟩
theorem Rd.below (h : Rd w B sz A n xs) (hb : Below B w w') : Rd w' B sz A n xs := h.keep fun _ _ hp => hb.cell hp
theorem Rd.drew (h : Rd w B sz A n xs) : Rd w.drew B sz A n xs := h
theorem Rd.alloc (h : Rd w B sz A n xs) (hB : B ≤ w.heap.size) (o : Obj) : Rd (w.alloc o) B sz A n xs := h.keep fun b _ hp => World.cell?_alloc_lt w o _ (by show b < _; omega)
theorem Rd.of_own {base : Nat} {e : TypeId} {c : Nat} (h : w.ownsRow base e sz (.slice A n c) n xs) : Rd w w.heap.size sz A n xs := by
  refine ⟨h.1, fun hn => ?_⟩
  obtain ⟨g, cap, hv, _, hlt⟩ := h.form hn
  have hA : A = some ⟨g, 0, none⟩ := by injection hv
  subst hA
  refine ⟨_, _, rfl, hlt, fun j u hu => ?_⟩
  have := h.cells (g := g) rfl j u hu
  rwa [addr_add] at this
end
theorem flat_len {α : Type} (f : α → List Value) (sz : Nat) (hf : ∀ x, (f x).length = sz) : ∀ l : List α, (l.flatMap f).length = l.length * sz
  | [] => by simp
  | x :: r => by rw [List.flatMap_cons, List.length_append, hf, flat_len f sz hf r, List.length_cons, Nat.succ_mul]; omega
theorem flat_at {α : Type} (f : α → List Value) (sz : Nat) (hf : ∀ x, (f x).length = sz) : ∀ (l : List α) (k : Nat) (x : α) (j : Nat), l[k]? = some x → j < sz → (l.flatMap f)[k * sz + j]? = (f x)[j]?
  | [], k, x, j, h, _ => by simp at h
  | y :: r, 0, x, j, h, hj => by
    simp at h; subst h
    rw [List.flatMap_cons, Nat.zero_mul, Nat.zero_add, List.getElem?_append_left (by rw [hf]; exact hj)]
  | y :: r, k + 1, x, j, h, hj => by
    have h' : r[k]? = some x := by simpa using h
    rw [List.flatMap_cons, List.getElem?_append_right (by rw [hf, Nat.succ_mul]; omega), hf, Nat.succ_mul, show k * sz + sz + j - sz = k * sz + j from by omega]
    exact flat_at f sz hf r k x j h' hj
theorem Rd.get {α : Type} {w : World} {B sz : Nat} {A : Option Addr} {l : List α} {f : α → List Value} (hf : ∀ x, (f x).length = sz) (h : Rd w B sz A l.length (l.flatMap f)) {k : Nat} {x : α} (hk : l[k]? = some x) :
    ∃ b o, A = some ⟨b, o, none⟩ ∧ b < B ∧ ∀ j u, (f x)[j]? = some u → w.cell? ⟨b, o + k * sz + j, none⟩ = some u := by
  have hlt : k < l.length := (List.getElem?_eq_some_iff.1 hk).1
  obtain ⟨b, o, e, hb, hc⟩ := h.2 (by omega)
  refine ⟨b, o, e, hb, fun j u hu => ?_⟩
  have hj : j < sz := by rw [← hf x]; exact (List.getElem?_eq_some_iff.1 hu).1
  have := hc (k * sz + j) u (by rw [flat_at f sz hf l k x j hk hj]; exact hu)
  rwa [← Nat.add_assoc] at this

/-! ### a map that reads as a list of pairs, in the order in which its keys came -/
def MapIs {α β : Type} (w : World) (P : Program) (K : TypeId) (key : α → Value) (val : β → Value) (b : Nat) (es : List (α × β)) : Prop :=
  ∃ en clock, w.heap[b]? = some (.map en clock) ∧ en.toList.map (fun e => (e.key, e.val)) = es.map (fun p => (key p.1, val p.2)) ∧ (∀ p ∈ es, ∃ l, keyOf P K (key p.1) = some l)
/-- the value at a key, the first one -/
def getv {α β : Type} [DecidableEq α] : List (α × β) → α → Option β
  | [], _ => none
  | (a, v) :: r, x => if a = x then some v else getv r x
theorem getv_none {α β : Type} [DecidableEq α] {es : List (α × β)} {x : α} : getv es x = none ↔ ∀ p ∈ es, p.1 ≠ x := by
  induction es with
  | nil => simp [getv]
  | cons p r ih =>
    obtain ⟨a, v⟩ := p
    unfold getv
    by_cases h : a = x
    · simp [h]
    · simp [h, ih]
theorem getv_of_nodup {α β : Type} [DecidableEq α] {es : List (α × β)} (hn : (es.map (·.1)).Nodup) {p : α × β} (hp : p ∈ es) : getv es p.1 = some p.2 := by
  induction es with
  | nil => simp at hp
  | cons q r ih =>
    obtain ⟨a, v⟩ := q
    simp only [List.map_cons, List.nodup_cons] at hn
    unfold getv
    rcases List.mem_cons.1 hp with rfl | hr
    · simp
    · have : a ≠ p.1 := fun e => hn.1 (e ▸ List.mem_map.2 ⟨p, hr, rfl⟩)
      rw [if_neg this]
      exact ih hn.2 hr
theorem getv_append {α β : Type} [DecidableEq α] (es : List (α × β)) (a x : α) (v : β) : getv (es ++ [(a, v)]) x = (getv es x).or (if a = x then some v else none) := by
  induction es with
  | nil => by_cases h : a = x <;> simp [getv, h]
  | cons p r ih =>
    obtain ⟨k, u⟩ := p
    by_cases h : k = x <;> simp [getv, h, ih]
section
variable {α β : Type} {w : World} {P : Program} {T K E : TypeId} {key : α → Value} {val : β → Value} {b : Nat} {es : List (α × β)}
theorem MapIs.made (w : World) (P : Program) (K : TypeId) (key : α → Value) (val : β → Value) : MapIs (w.alloc (.map #[] 0)) P K key val w.heap.size ([] : List (α × β)) :=
  ⟨#[], 0, (MapKept.heap_alloc w _).1, rfl, by simp⟩
theorem MapIs.lt (h : MapIs w P K key val b es) : b < w.heap.size := by
  obtain ⟨en, clock, hh, _⟩ := h
  exact (Array.getElem?_eq_some_iff.1 hh).1
theorem MapIs.block {w' : World} (h : MapIs w P K key val b es) (hb : w'.heap[b]? = w.heap[b]?) : MapIs w' P K key val b es := by
  obtain ⟨en, clock, hh, r⟩ := h
  exact ⟨en, clock, hb.trans hh, r⟩
theorem MapIs.below {w' : World} {B : Nat} (h : MapIs w P K key val b es) (hb : Below B w w') (hB : b < B) : MapIs w' P K key val b es := h.block (hb.block b hB)
theorem MapIs.alloc (h : MapIs w P K key val b es) (o : Obj) : MapIs (w.alloc o) P K key val b es := h.block (Below.heap_alloc w o b h.lt)
/-- no cell lies in a map's block -/
theorem MapIs.ne (h : MapIs w P K key val b es) {c o : Nat} {v : Value} (hc : w.cell? ⟨c, o, none⟩ = some v) : c ≠ b := by
  rintro rfl
  obtain ⟨en, clock, hh, _⟩ := h
  simp [World.cell?, hh] at hc
/-- 'v, ok := m[k]' -/
theorem MapIs.look [DecidableEq α] (h : MapIs w P K key val b es) (law : Keyed P K) (hT : P.underlying T = some (.map K E)) {z : Value} (hz : (zeroValue E).run P w = .ok z w) (hinj : ∀ x y, key x = key y → x = y) (hn : (es.map (·.1)).Nodup) {x : α} {l : Lit} (hx : keyOf P K (key x) = some l) :
    (getv es x = none ∧ ∀ c, (Instr.lookup T (.map (some b)) (key x) c).run P w = .ok (if c then .tuple #[z, .bool false] else z) w) ∨
    (∃ v, getv es x = some v ∧ ∀ c, (Instr.lookup T (.map (some b)) (key x) c).run P w = .ok (if c then .tuple #[val v, .bool true] else val v) w) := by
  obtain ⟨en, clock, hh, hes, hk⟩ := h
  have hkeys : ∀ e ∈ en.toList, ∃ l, keyOf P K e.key = some l := fun e he => by
    have : (e.key, e.val) ∈ en.toList.map (fun e => (e.key, e.val)) := List.mem_map.2 ⟨e, he, rfl⟩
    rw [hes] at this
    obtain ⟨p, hp, hpe⟩ := List.mem_map.1 this
    obtain ⟨l, hl⟩ := hk p hp
    injection hpe with h1 _
    exact ⟨l, by rw [← h1]; exact hl⟩
  rcases law.find w hx en.toList hkeys with ⟨h1, h2⟩ | ⟨j, e0, h1, h2, h3⟩
  · refine Or.inl ⟨getv_none.2 fun p hp e => ?_, fun c => by simp [Instr.lookup, run_underlying hT, MapKept.run_getObj_map hh, law.check w _ hx, h1, hz, Result.andThen]⟩
    have : (key p.1, val p.2) ∈ es.map (fun p => (key p.1, val p.2)) := List.mem_map.2 ⟨p, hp, rfl⟩
    rw [← hes] at this
    obtain ⟨e1, he1, hpe⟩ := List.mem_map.1 this
    injection hpe with h4 _
    exact h2 e1 he1 (by rw [h4, e])
  · have hm0 : e0 ∈ en.toList := List.mem_of_getElem? h2
    have : (e0.key, e0.val) ∈ en.toList.map (fun e => (e.key, e.val)) := List.mem_map.2 ⟨e0, hm0, rfl⟩
    rw [hes] at this
    obtain ⟨p, hp, hpe⟩ := List.mem_map.1 this
    injection hpe with h4 h5
    have hpx : p.1 = x := hinj _ _ (by rw [h4, h3])
    refine Or.inr ⟨p.2, hpx ▸ getv_of_nodup hn hp, fun c => by simp [Instr.lookup, run_underlying hT, MapKept.run_getObj_map hh, law.check w _ hx, h1, Result.andThen, h5]⟩
/-- 'm[k] = v', k new -/
theorem MapIs.put [DecidableEq α] (h : MapIs w P K key val b es) (law : Keyed P K) (hT : P.underlying T = some (.map K E)) {x : α} {l : Lit} (hx : keyOf P K (key x) = some l) (hinj : ∀ x y, key x = key y → x = y) (hnew : getv es x = none) (v : β) :
    ∃ w', (Instr.mapUpdate T (.map (some b)) (key x) (val v)).run P w = .ok () w' ∧ MapIs w' P K key val b (es ++ [(x, v)]) ∧ w.grownBy w' (some b) ∧ w'.heap.size = w.heap.size := by
  obtain ⟨en, clock, hh, hes, hk⟩ := h
  have hkeys : ∀ e ∈ en.toList, ∃ l, keyOf P K e.key = some l := fun e he => by
    have : (e.key, e.val) ∈ en.toList.map (fun e => (e.key, e.val)) := List.mem_map.2 ⟨e, he, rfl⟩
    rw [hes] at this
    obtain ⟨p, hp, hpe⟩ := List.mem_map.1 this
    obtain ⟨l, hl⟩ := hk p hp
    injection hpe with h1 _
    exact ⟨l, by rw [← h1]; exact hl⟩
  rcases law.find w hx en.toList hkeys with ⟨h1, h2⟩ | ⟨j, e0, h1, h2, h3⟩
  · refine ⟨ChangeMaps.setBlock w b (.map (en.push ⟨key x, val v, clock⟩) (clock + 1)), ?_, ⟨_, _, ChangeMaps.heap_setBlock_same hh _, ?_, ?_⟩, ⟨rfl, rfl, rfl, by simp [ChangeMaps.setBlock], fun k _ hne => ChangeMaps.heap_setBlock_other hh _ (fun e => hne (by rw [e]))⟩, by simp [ChangeMaps.setBlock]⟩
    · simp [Instr.mapUpdate, run_underlying hT, MapKept.run_getObj_map hh, law.check w false hx, h1, MapKept.run_setObj_map _ hh, Result.andThen, ChangeMaps.setBlock]
    · simp [hes]
    · intro p hp
      rcases List.mem_append.1 hp with hp | hp
      · exact hk p hp
      · simp at hp; subst hp; exact ⟨l, hx⟩
  · exfalso
    have hm0 : e0 ∈ en.toList := List.mem_of_getElem? h2
    have : (e0.key, e0.val) ∈ en.toList.map (fun e => (e.key, e.val)) := List.mem_map.2 ⟨e0, hm0, rfl⟩
    rw [hes] at this
    obtain ⟨p, hp, hpe⟩ := List.mem_map.1 this
    injection hpe with h4 _
    exact getv_none.1 hnew p hp (hinj _ _ (by rw [h4, h3]))
end

/-! ### worlds that have only grown since w: a class for regions that draw their order -/
def Ext (w : World) : Type := { w' : World // Below w.heap.size w w' }
def ext (w : World) (x : Ext w) : World := x.1
instance (w : World) : Nonempty (Ext w) := ⟨⟨w, Below.refl _ _⟩⟩
theorem ext_below (w : World) (x : Ext w) : Below w.heap.size w (ext w x) := x.2
theorem ext_cell (w : World) (x : Ext w) (b o : Nat) (h : b < w.heap.size) : (ext w x).cell? ⟨b, o, none⟩ = w.cell? ⟨b, o, none⟩ := x.2.cell (p := ⟨b, o, none⟩) h
/-- a region that draws its order, whose operations read and whose callees answer with one value, whatever blocks of their own they make: one walk, in the order of the text -/
theorem wp_region_ext {P : Program} {id : Nat} {Q : Exit → Act → World → Prop} {a : Act} {w : World} {l : List Oper} (hm : P.follows .mixedOrders = true) (hB : Region.lexB .any l.toArray = true)
    (h : wpQuiet P l.toArray (fun w' => ∃ x : Ext w, w' = ext w x) (fun a' => ∀ x : Ext w, Q .normal a' (ext w x)) l a) : (Code.region id l.toArray true).wp P Q a w := by
  refine wp_region_quiet (C := fun w' => ∃ x : Ext w, w' = ext w x) hm hB ⟨⟨{ w with drawn := w.drawn + 1 }, ⟨rfl, rfl, rfl, Nat.le_refl _, fun _ _ => rfl⟩⟩, rfl⟩ ?_
  have e : (fun a' => ∀ w', (∃ x : Ext w, w' = ext w x) → Q .normal a' w') = (fun a' => ∀ x : Ext w, Q .normal a' (ext w x)) := by
    funext a'
    apply propext
    exact ⟨fun h x => h _ ⟨x, rfl⟩, fun h w' ⟨x, hx⟩ => hx ▸ h x⟩
  rw [e]
  simpa using h
/-- a call whose answer is one value, whatever has grown: quiet in the class -/
theorem Calls.quiet_ext {P : Program} {f : FuncId} {args : Array Value} {w : World} {x : Ext w} {v : Value}
    (h : Calls P f args (ext w x) fun e w' => e = .returned v ∧ Below (ext w x).heap.size (ext w x) w') : Calls P f args (ext w x) fun e w' => e = .returned v ∧ ∃ y, w' = ext w y :=
  h.mono fun _ w' ⟨he, hb⟩ => ⟨he, ⟨w', x.2.trans (hb.mono x.2.size)⟩, rfl⟩
end Go.Proofs.YtldchpmilknlmaaGreat
