/-
  Route of a router whose rows lie in memory that begins at lo: it needs nothing else of the router. No condition.
-/
import Derived.Test.YthnbgbocanpkjaaGreatRoutF
namespace Go.Proofs.YthnbgbocanpkjaaGreat
open Go.RowKit Go.Lib
theorem rt_look2 {c : Cfg} {W : World} {B m1 : Nat} {L : List CE} (hl : L.map (·.x) = c.norm.chans) (hr : rightB c = true) (hrd : ∀ e ∈ L, e.x.dests.length ≤ e.c ∧ e.c ≤ maxLen ∧ Rd W B 1 e.A e.x.dests.length (e.x.dests.map (Value.int .u16))) (hm : MapIs W Tryz.prog 34 kU vV m1 (rtE L)) {id : Int} (hid : wU16 id) :
    ∃ (D : Option Addr) (d : Nat), (Instr.lookup 73 (.map (some m1)) (.int .u16 id) false).run Tryz.prog W = .ok (.slice D (routeOf c id).length d) W ∧ (routeOf c id).length ≤ d ∧ d ≤ maxLen ∧ Rd W B 1 D (routeOf c id).length ((routeOf c id).map (Value.int .u16)) := by
  obtain ⟨l, hkl⟩ := keyU hid
  have hn : ((rtE L).map (·.1)).Nodup := by
    have := rtE_nodup hl (norm_src hr) L.length
    rwa [List.take_length] at this
  rcases hm.look lawU Tryz.underlying73 (zeroUs _) kU_inj hn hkl with ⟨h1, hr1⟩ | ⟨v, h1, hr1⟩
  · have q := hr1 false
    simp only [Bool.false_eq_true, if_false, kU] at q
    rcases rt_cases hl hr id with ⟨_, h2⟩ | ⟨e, _, h2, _⟩
    · rw [h2]
      exact ⟨none, 0, q, Nat.le_refl _, Nat.zero_le _, Rd.nil⟩
    · rw [h2] at h1; cases h1
  · have q := hr1 false
    simp only [Bool.false_eq_true, if_false, kU] at q
    rcases rt_cases hl hr id with ⟨h2, _⟩ | ⟨e, he, h2, h3⟩
    · rw [h2] at h1; cases h1
    · rw [h2] at h1
      injection h1 with h1
      subst h1
      obtain ⟨k1, k2, k3⟩ := hrd e he
      rw [← h3]
      exact ⟨e.A, e.c, q, k1, k2, k3⟩
set_option maxRecDepth 100000 in
set_option maxHeartbeats 4000000 in
theorem mRouteR_ok (c : Cfg) (hr : RightR c) (hs : c.small) (lo gr : Nat) (id : Int) (hid : wU16 id) (w : World) (h : RtRow w lo gr c.norm) :
    Calls Tryz.prog 25 #[.pointer (some ⟨gr, 0, none⟩), .int .u16 id] w fun e w' => ∃ v, e = .returned v ∧ w'.ownsRow w.heap.size 34 1 v (routeOf c id).length ((routeOf c id).map (Value.int .u16)) ∧ Below w.heap.size w w' := by
  obtain ⟨m1, cs, L, lx, hb, h7, r1, hdn⟩ := h.ex
  obtain ⟨D, d, hq, hd1, hd2, hD⟩ := rt_look2 lx hr.rb (fun e he => by
    have h := own_slice (show w.ownsRow lo 34 1 (.slice e.A e.x.dests.length e.c) e.x.dests.length (e.x.dests.map (Value.int .u16)) from hdn e he)
    exact ⟨h.1.1, h.1.2, h.2⟩) r1 hid
  have y7 := (hb.cell 7).trans h7
  have hl := hb.lt
  have hlen := route_len hs id
  generalize routeOf c id = l at *
  have HD := Lib.hid hD
  have HN := Lib.hid (show D = none → l = [] from fun e => by subst e; exact List.length_eq_zero_iff.1 (rd_none hD))
  clear hD r1 lx hs hr hb h7 hdn h
  go_enter Tryz.func25, Tryz.ntmps25
  go_wp2_with fail
  refine (clone16_ok l D d _ (by omega) HD.out HN.out).mono ?_
  rintro e w1 ⟨v, rfl, ho, hb⟩
  go_wp2
  go_ret
  exact ⟨v, rfl, ho, hb⟩
theorem mRouteRL (c : Cfg) (hr : RightR c) (hs : c.small) (lo gr : Nat) (id : Int) (hid : wU16 id) (w : World) (h : RtRow w lo gr c.norm) (L : List Int) (hL : Hid (routeOf c id = L)) :
    Calls Tryz.prog 25 #[.pointer (some ⟨gr, 0, none⟩), .int .u16 id] w fun e w' => ∃ A a, e = .returned (.slice A L.length a) ∧ w'.ownsRow w.heap.size 34 1 (.slice A L.length a) L.length (L.map (Value.int .u16)) ∧ Below w.heap.size w w' :=
  (mRouteR_ok c hr hs lo gr id hid w h).mono fun e w' ⟨v, he, hv, hb⟩ => by
    rw [hL.out] at hv
    obtain ⟨A, a, rfl, _, _, hrd⟩ := own_form hv
    exact ⟨A, a, he, hv, hb⟩
end Go.Proofs.YthnbgbocanpkjaaGreat
