/-
  slices.SortFunc, SortedFunc, conf.sorted and conf.by at api.Partition, walked: the records in order.
-/
import Derived.BigQuiet
import Derived.Test.YteelncofiodflaaGreatCore
import Derived.Test.YteelncofiodflaaGreatSkZ
import Derived.Test.YteelncofiodflaaGreatSeq5
namespace Go.Proofs.YteelncofiodflaaGreat
open Go.RowKit Go.Shelf Go.Sort
instance srtInhPar:Inhabited Par:=⟨⟨0, .empty,0,0⟩⟩
theorem sortFPar_ok {L:List Par} {A:Option Addr} {c base:Nat} {w:World} (d1 d2:Nat) (hbase:base≤w.heap.size) (hL:L.length≤4194304) (h:w.ownsRow base 49 4 (.slice A L.length c) L.length (L.flatMap Par.cells)) (h1:w.cell? ⟨d1,0,none⟩=some (.func (.func 65) #[] #[])) (h2:w.cell? ⟨d2,0,none⟩=some (.func (.func 64) #[] #[])) (l1:d1 <base) (l2:d2 <base):
  Calls Tryz.prog 148 #[.slice A L.length c, .func (.func 104) #[] #[.pointer (some ⟨d1,0,none⟩), .pointer (some ⟨d2,0,none⟩)]] w fun e w'=>e= .returned (.tuple #[])∧w'.ownsRow base 49 4 (.slice A L.length c) L.length ((normK keyPar L).flatMap Par.cells)∧Below base w w':=by
 rcases h.2 with ⟨e0,h3⟩ |⟨g,cap,cur,e1,hb,hh,_⟩
 ·obtain rfl:L= []:=List.eq_nil_of_length_eq_zero h3
  refine (AnyF.slices_SortFunc_none Tryz.laySFPar A c _ w).mono ?_
  rintro e w' ⟨rfl,rfl⟩
  exact ⟨rfl,by simpa [normK] using h,Below.refl _ _⟩
 ·injection e1 with e1 _ e2
  subst e1;subst e2
  have hlt:g <w.heap.size:=(Array.getElem?_eq_some_iff.1 hh).1
  have eg: ∀args w,(callFunc 104 args).run Tryz.prog w= .ok (.enter 104 args) w:=enters_of Tryz.func104 (by kernel_rfl) rfl
  have hcmp:CmpLays Tryz.prog 104 #[.pointer (some ⟨d1,0,none⟩), .pointer (some ⟨d2,0,none⟩)] Par.cells 4 cmpPar g 0 L.toArray.size w:=fun m os dk hs x y=>by
   have hbl:Below base w (sortWorldK Par.cells 4 w g 0 m dk os):=belowK_sorted (Below.refl _ _) hbase hb
   exact closPar_ok x y d1 d2 _ ((hbl.cell (p:=⟨d1,0,none⟩) l1).trans h1) ((hbl.cell (p:=⟨d2,0,none⟩) l2).trans h2) (Nat.lt_of_lt_of_le l1 (Nat.le_trans hbase hbl.size)) (Nat.lt_of_lt_of_le l2 (Nat.le_trans hbase hbl.size))
  have h1c: ∀x:Par, ∀v ∈ Par.cells x,v.oneCell'=true:=fun x v hv=>by simp [Par.cells] at hv;rcases hv with rfl |rfl |rfl |rfl<;>rfl
  have hcon:=AnyQ.slices_SortFunc Tryz.laySFPar 4 (fun w=>by kernel_rfl) (fun w=>by kernel_rfl) Par.cells (fun _=>rfl) h1c cmpPar (swo_key cmpPar_key) 104 #[.pointer (some ⟨d1,0,none⟩), .pointer (some ⟨d2,0,none⟩)] g 0 c L.toArray w eg hcmp (holdsK_own (enc:=Par.cells) (k:=4) (fun _=>rfl) rfl h) hlt (by simp;omega)
  refine Calls.mono (show Calls Tryz.prog 148 #[.slice (some ⟨g,0,none⟩) L.toArray.size c, .func (.func 104) #[] #[.pointer (some ⟨d1,0,none⟩), .pointer (some ⟨d2,0,none⟩)]] w _ from hcon) ?_
  rintro e w' ⟨rfl,d',n,os,hp,hsd,rfl⟩
  have hpl:=permIn_listC (d:=L.toArray) (by exact hp)
  have hsz:d'.size=L.length:=hp.1
  have he:d'.toList=normK keyPar L:=normK_unique keyPar (fun _ _=>keyPar_inj) (by simpa using hpl) (asc_sorted cmpPar_key hsz (by simpa using hsd))
  refine ⟨rfl, ?_,belowK_sorted (Below.refl _ _) hbase hb⟩
  have:=ownK_sorted (enc:=Par.cells) (k:=4) (m:=n) (os:=os) (fun _=>rfl) h hsz
  rwa [he] at this
set_option maxRecDepth 100000 in
set_option maxHeartbeats 2000000 in
theorem srtdPar_ok (d1 d2 Bm:Nat) (L:List Par) (A:Option Addr) (c:Nat) (w:World) (hL:L.length≤4194304) (hBm:Bm <w.heap.size) (hm:w.cell? ⟨Bm,0,none⟩=some (.slice A L.length c)) (hR:Rd w w.heap.size 4 A L.length (L.flatMap Par.cells)) (h1:w.cell? ⟨d1,0,none⟩=some (.func (.func 65) #[] #[])) (h2:w.cell? ⟨d2,0,none⟩=some (.func (.func 64) #[] #[])) (l1:d1 <w.heap.size) (l2:d2 <w.heap.size):
  Calls Tryz.prog 102 #[.func (.func 149) #[] #[.pointer (some ⟨Bm,0,none⟩)], .func (.func 104) #[] #[.pointer (some ⟨d1,0,none⟩), .pointer (some ⟨d2,0,none⟩)]] w fun e w'=> ∃v,e= .returned v∧w'.ownsRow w.heap.size 49 4 v L.length ((normK keyPar L).flatMap Par.cells)∧Below w.heap.size w w':=by
 have H1:=Lib.hid h1
 have H2:=Lib.hid h2
 go_enter Tryz.func102,Tryz.ntmps102
 go_wp2_with fail
 refine (collPar_ok Bm L A c w hL hBm hm hR).mono ?_
 rintro e w1 ⟨v,rfl,ho,hb⟩
 obtain ⟨RA,rc,rfl,_⟩:=own_form ho
 have HO:=Lib.hid ho
 have HB1:=Lib.hid hb
 clear ho hb h1 h2 hm hR
 go_wp2_with fail
 refine (sortFPar_ok (base:=w.heap.size) d1 d2 HB1.out.size hL HO.out ((HB1.out.cell (p:=⟨d1,0,none⟩) l1).trans H1.out) ((HB1.out.cell (p:=⟨d2,0,none⟩) l2).trans H2.out) l1 l2).mono ?_
 rintro e w2 ⟨rfl,ho2,hb2⟩
 have HO2:=Lib.hid ho2
 have HB2:=Lib.hid (HB1.out.trans hb2)
 clear ho2 hb2
 go_wp2
 go_ret
 exact ⟨_,rfl,HO2.out,HB2.out⟩
set_option maxRecDepth 100000 in
set_option maxHeartbeats 2000000 in
theorem confPar_ok (d1 d2:Nat) (L:List Par) (A:Option Addr) (c:Nat) (w:World) (hL:L.length≤4194304) (hR:Rd w w.heap.size 4 A L.length (L.flatMap Par.cells)) (h1:w.cell? ⟨d1,0,none⟩=some (.func (.func 65) #[] #[])) (h2:w.cell? ⟨d2,0,none⟩=some (.func (.func 64) #[] #[])) (l1:d1 <w.heap.size) (l2:d2 <w.heap.size):
  Calls Tryz.prog 62 #[.slice A L.length c, .func (.func 104) #[] #[.pointer (some ⟨d1,0,none⟩), .pointer (some ⟨d2,0,none⟩)]] w fun e w'=> ∃v,e= .returned v∧w'.ownsRow w.heap.size 49 4 v L.length ((normK keyPar L).flatMap Par.cells)∧Below w.heap.size w w':=by
 have H1:=Lib.hid h1
 have H2:=Lib.hid h2
 have HR:=Lib.hid hR
 clear h1 h2 hR
 go_enter Tryz.func62,Tryz.ntmps62
 go_wp2_with fail
 refine (valsPar_ok A L.length c w).mono ?_
 rintro e w1 ⟨rfl,hw1⟩
 have hb:Below w.heap.size w w1:=by rw [hw1];exact below_one _ _
 have hm:w1.cell? ⟨w.heap.size,0,none⟩=some (.slice A L.length c):=by rw [hw1];simp
 have hz:w1.heap.size=w.heap.size+1:=by rw [hw1];simp
 have HB1:=Lib.hid hb
 have HM:=Lib.hid hm
 clear hw1 hb hm
 go_wp2_with fail
 refine (srtdPar_ok d1 d2 w.heap.size L A c w1 hL (by omega) HM.out (HR.out.up HB1.out) ((HB1.out.cell (p:=⟨d1,0,none⟩) l1).trans H1.out) ((HB1.out.cell (p:=⟨d2,0,none⟩) l2).trans H2.out) (by omega) (by omega)).mono ?_
 rintro e w2 ⟨v,rfl,ho,hb2⟩
 have HO2:=Lib.hid (own_lessM ho (show w.heap.size≤w1.heap.size by omega))
 have HB2:=Lib.hid (Below.then_ HB1.out hb2)
 clear ho hb2
 go_wp2
 go_ret
 exact ⟨_,rfl,HO2.out,HB2.out⟩
structure ByPar (w:World) (d:Nat):Prop where
 h1:w.cell? ⟨d+1,0,none⟩=some (.func (.func 65) #[] #[])
 h2:w.cell? ⟨d,0,none⟩=some (.func (.func 64) #[] #[])
 l:d+1 <w.heap.size
theorem ByPar.up {w w':World} {d:Nat} (h:ByPar w d) (hb:Below w.heap.size w w'):ByPar w' d:=by
 have hl:=h.l
 exact ⟨(hb.cell (p:=⟨d+1,0,none⟩) h.l).trans h.h1,(hb.cell (p:=⟨d,0,none⟩) (show d <w.heap.size by omega)).trans h.h2,Nat.lt_of_lt_of_le h.l hb.size⟩
set_option maxRecDepth 100000 in
set_option maxHeartbeats 1000000 in
theorem byPar_ok (w:World):Calls Tryz.prog 63 #[.func (.func 64) #[] #[], .func (.func 65) #[] #[]] w fun e w'=>e= .returned (.func (.func 104) #[] #[.pointer (some ⟨w.heap.size+1,0,none⟩), .pointer (some ⟨w.heap.size,0,none⟩)])∧ByPar w' w.heap.size∧Below w.heap.size w w':=by
 go_enter Tryz.func63,Tryz.ntmps63
 go_wp2
 go_ret
 refine ⟨rfl,⟨by simp,by simp,by simp⟩,Below.then_ (below_one _ _) (below_one _ _)⟩
end Go.Proofs.YteelncofiodflaaGreat
namespace Go.Proofs.YteelncofiodflaaGreat
open Go.RowKit Go.Shelf Go.Sort
instance srtInhWin:Inhabited Win:=⟨⟨0,0,0⟩⟩
theorem sortFWin_ok {L:List Win} {A:Option Addr} {c base:Nat} {w:World} (d1 d2:Nat) (hbase:base≤w.heap.size) (hL:L.length≤4194304) (h:w.ownsRow base 71 3 (.slice A L.length c) L.length (L.flatMap Win.cells)) (h1:w.cell? ⟨d1,0,none⟩=some (.func (.func 69) #[] #[])) (h2:w.cell? ⟨d2,0,none⟩=some (.func (.func 68) #[] #[])) (l1:d1 <base) (l2:d2 <base):
  Calls Tryz.prog 154 #[.slice A L.length c, .func (.func 111) #[] #[.pointer (some ⟨d1,0,none⟩), .pointer (some ⟨d2,0,none⟩)]] w fun e w'=>e= .returned (.tuple #[])∧w'.ownsRow base 71 3 (.slice A L.length c) L.length ((normK keyWin L).flatMap Win.cells)∧Below base w w':=by
 rcases h.2 with ⟨e0,h3⟩ |⟨g,cap,cur,e1,hb,hh,_⟩
 ·obtain rfl:L= []:=List.eq_nil_of_length_eq_zero h3
  refine (AnyF.slices_SortFunc_none Tryz.laySFWin A c _ w).mono ?_
  rintro e w' ⟨rfl,rfl⟩
  exact ⟨rfl,by simpa [normK] using h,Below.refl _ _⟩
 ·injection e1 with e1 _ e2
  subst e1;subst e2
  have hlt:g <w.heap.size:=(Array.getElem?_eq_some_iff.1 hh).1
  have eg: ∀args w,(callFunc 111 args).run Tryz.prog w= .ok (.enter 111 args) w:=enters_of Tryz.func111 (by kernel_rfl) rfl
  have hcmp:CmpLays Tryz.prog 111 #[.pointer (some ⟨d1,0,none⟩), .pointer (some ⟨d2,0,none⟩)] Win.cells 3 cmpWin g 0 L.toArray.size w:=fun m os dk hs x y=>by
   have hbl:Below base w (sortWorldK Win.cells 3 w g 0 m dk os):=belowK_sorted (Below.refl _ _) hbase hb
   exact closWin_ok x y d1 d2 _ ((hbl.cell (p:=⟨d1,0,none⟩) l1).trans h1) ((hbl.cell (p:=⟨d2,0,none⟩) l2).trans h2) (Nat.lt_of_lt_of_le l1 (Nat.le_trans hbase hbl.size)) (Nat.lt_of_lt_of_le l2 (Nat.le_trans hbase hbl.size))
  have h1c: ∀x:Win, ∀v ∈ Win.cells x,v.oneCell'=true:=fun x v hv=>by simp [Win.cells] at hv;rcases hv with rfl |rfl |rfl<;>rfl
  have hcon:=AnyQ.slices_SortFunc Tryz.laySFWin 3 (fun w=>by kernel_rfl) (fun w=>by kernel_rfl) Win.cells (fun _=>rfl) h1c cmpWin (swo_key cmpWin_key) 111 #[.pointer (some ⟨d1,0,none⟩), .pointer (some ⟨d2,0,none⟩)] g 0 c L.toArray w eg hcmp (holdsK_own (enc:=Win.cells) (k:=3) (fun _=>rfl) rfl h) hlt (by simp;omega)
  refine Calls.mono (show Calls Tryz.prog 154 #[.slice (some ⟨g,0,none⟩) L.toArray.size c, .func (.func 111) #[] #[.pointer (some ⟨d1,0,none⟩), .pointer (some ⟨d2,0,none⟩)]] w _ from hcon) ?_
  rintro e w' ⟨rfl,d',n,os,hp,hsd,rfl⟩
  have hpl:=permIn_listC (d:=L.toArray) (by exact hp)
  have hsz:d'.size=L.length:=hp.1
  have he:d'.toList=normK keyWin L:=normK_unique keyWin (fun _ _=>keyWin_inj) (by simpa using hpl) (asc_sorted cmpWin_key hsz (by simpa using hsd))
  refine ⟨rfl, ?_,belowK_sorted (Below.refl _ _) hbase hb⟩
  have:=ownK_sorted (enc:=Win.cells) (k:=3) (m:=n) (os:=os) (fun _=>rfl) h hsz
  rwa [he] at this
set_option maxRecDepth 100000 in
set_option maxHeartbeats 2000000 in
theorem srtdWin_ok (d1 d2 Bm:Nat) (L:List Win) (A:Option Addr) (c:Nat) (w:World) (hL:L.length≤4194304) (hBm:Bm <w.heap.size) (hm:w.cell? ⟨Bm,0,none⟩=some (.slice A L.length c)) (hR:Rd w w.heap.size 3 A L.length (L.flatMap Win.cells)) (h1:w.cell? ⟨d1,0,none⟩=some (.func (.func 69) #[] #[])) (h2:w.cell? ⟨d2,0,none⟩=some (.func (.func 68) #[] #[])) (l1:d1 <w.heap.size) (l2:d2 <w.heap.size):
  Calls Tryz.prog 109 #[.func (.func 155) #[] #[.pointer (some ⟨Bm,0,none⟩)], .func (.func 111) #[] #[.pointer (some ⟨d1,0,none⟩), .pointer (some ⟨d2,0,none⟩)]] w fun e w'=> ∃v,e= .returned v∧w'.ownsRow w.heap.size 71 3 v L.length ((normK keyWin L).flatMap Win.cells)∧Below w.heap.size w w':=by
 have H1:=Lib.hid h1
 have H2:=Lib.hid h2
 go_enter Tryz.func109,Tryz.ntmps109
 go_wp2_with fail
 refine (collWin_ok Bm L A c w hL hBm hm hR).mono ?_
 rintro e w1 ⟨v,rfl,ho,hb⟩
 obtain ⟨RA,rc,rfl,_⟩:=own_form ho
 have HO:=Lib.hid ho
 have HB1:=Lib.hid hb
 clear ho hb h1 h2 hm hR
 go_wp2_with fail
 refine (sortFWin_ok (base:=w.heap.size) d1 d2 HB1.out.size hL HO.out ((HB1.out.cell (p:=⟨d1,0,none⟩) l1).trans H1.out) ((HB1.out.cell (p:=⟨d2,0,none⟩) l2).trans H2.out) l1 l2).mono ?_
 rintro e w2 ⟨rfl,ho2,hb2⟩
 have HO2:=Lib.hid ho2
 have HB2:=Lib.hid (HB1.out.trans hb2)
 clear ho2 hb2
 go_wp2
 go_ret
 exact ⟨_,rfl,HO2.out,HB2.out⟩
set_option maxRecDepth 100000 in
set_option maxHeartbeats 2000000 in
theorem confWin_ok (d1 d2:Nat) (L:List Win) (A:Option Addr) (c:Nat) (w:World) (hL:L.length≤4194304) (hR:Rd w w.heap.size 3 A L.length (L.flatMap Win.cells)) (h1:w.cell? ⟨d1,0,none⟩=some (.func (.func 69) #[] #[])) (h2:w.cell? ⟨d2,0,none⟩=some (.func (.func 68) #[] #[])) (l1:d1 <w.heap.size) (l2:d2 <w.heap.size):
  Calls Tryz.prog 66 #[.slice A L.length c, .func (.func 111) #[] #[.pointer (some ⟨d1,0,none⟩), .pointer (some ⟨d2,0,none⟩)]] w fun e w'=> ∃v,e= .returned v∧w'.ownsRow w.heap.size 71 3 v L.length ((normK keyWin L).flatMap Win.cells)∧Below w.heap.size w w':=by
 have H1:=Lib.hid h1
 have H2:=Lib.hid h2
 have HR:=Lib.hid hR
 clear h1 h2 hR
 go_enter Tryz.func66,Tryz.ntmps66
 go_wp2_with fail
 refine (valsWin_ok A L.length c w).mono ?_
 rintro e w1 ⟨rfl,hw1⟩
 have hb:Below w.heap.size w w1:=by rw [hw1];exact below_one _ _
 have hm:w1.cell? ⟨w.heap.size,0,none⟩=some (.slice A L.length c):=by rw [hw1];simp
 have hz:w1.heap.size=w.heap.size+1:=by rw [hw1];simp
 have HB1:=Lib.hid hb
 have HM:=Lib.hid hm
 clear hw1 hb hm
 go_wp2_with fail
 refine (srtdWin_ok d1 d2 w.heap.size L A c w1 hL (by omega) HM.out (HR.out.up HB1.out) ((HB1.out.cell (p:=⟨d1,0,none⟩) l1).trans H1.out) ((HB1.out.cell (p:=⟨d2,0,none⟩) l2).trans H2.out) (by omega) (by omega)).mono ?_
 rintro e w2 ⟨v,rfl,ho,hb2⟩
 have HO2:=Lib.hid (own_lessM ho (show w.heap.size≤w1.heap.size by omega))
 have HB2:=Lib.hid (Below.then_ HB1.out hb2)
 clear ho hb2
 go_wp2
 go_ret
 exact ⟨_,rfl,HO2.out,HB2.out⟩
structure ByWin (w:World) (d:Nat):Prop where
 h1:w.cell? ⟨d+1,0,none⟩=some (.func (.func 69) #[] #[])
 h2:w.cell? ⟨d,0,none⟩=some (.func (.func 68) #[] #[])
 l:d+1 <w.heap.size
theorem ByWin.up {w w':World} {d:Nat} (h:ByWin w d) (hb:Below w.heap.size w w'):ByWin w' d:=by
 have hl:=h.l
 exact ⟨(hb.cell (p:=⟨d+1,0,none⟩) h.l).trans h.h1,(hb.cell (p:=⟨d,0,none⟩) (show d <w.heap.size by omega)).trans h.h2,Nat.lt_of_lt_of_le h.l hb.size⟩
set_option maxRecDepth 100000 in
set_option maxHeartbeats 1000000 in
theorem byWin_ok (w:World):Calls Tryz.prog 67 #[.func (.func 68) #[] #[], .func (.func 69) #[] #[]] w fun e w'=>e= .returned (.func (.func 111) #[] #[.pointer (some ⟨w.heap.size+1,0,none⟩), .pointer (some ⟨w.heap.size,0,none⟩)])∧ByWin w' w.heap.size∧Below w.heap.size w w':=by
 go_enter Tryz.func67,Tryz.ntmps67
 go_wp2
 go_ret
 refine ⟨rfl,⟨by simp,by simp,by simp⟩,Below.then_ (below_one _ _) (below_one _ _)⟩
end Go.Proofs.YteelncofiodflaaGreat
namespace Go.Proofs.YteelncofiodflaaGreat
open Go.RowKit Go.Shelf Go.Sort
instance srtInhReg:Inhabited Reg:=⟨⟨0,0,0,0,false⟩⟩
theorem sortFReg_ok {L:List Reg} {A:Option Addr} {c base:Nat} {w:World} (d1 d2:Nat) (hbase:base≤w.heap.size) (hL:L.length≤4194304) (h:w.ownsRow base 75 5 (.slice A L.length c) L.length (L.flatMap Reg.cells)) (h1:w.cell? ⟨d1,0,none⟩=some (.func (.func 73) #[] #[])) (h2:w.cell? ⟨d2,0,none⟩=some (.func (.func 72) #[] #[])) (l1:d1 <base) (l2:d2 <base):
  Calls Tryz.prog 157 #[.slice A L.length c, .func (.func 114) #[] #[.pointer (some ⟨d1,0,none⟩), .pointer (some ⟨d2,0,none⟩)]] w fun e w'=>e= .returned (.tuple #[])∧w'.ownsRow base 75 5 (.slice A L.length c) L.length ((normK keyReg L).flatMap Reg.cells)∧Below base w w':=by
 rcases h.2 with ⟨e0,h3⟩ |⟨g,cap,cur,e1,hb,hh,_⟩
 ·obtain rfl:L= []:=List.eq_nil_of_length_eq_zero h3
  refine (AnyF.slices_SortFunc_none Tryz.laySFReg A c _ w).mono ?_
  rintro e w' ⟨rfl,rfl⟩
  exact ⟨rfl,by simpa [normK] using h,Below.refl _ _⟩
 ·injection e1 with e1 _ e2
  subst e1;subst e2
  have hlt:g <w.heap.size:=(Array.getElem?_eq_some_iff.1 hh).1
  have eg: ∀args w,(callFunc 114 args).run Tryz.prog w= .ok (.enter 114 args) w:=enters_of Tryz.func114 (by kernel_rfl) rfl
  have hcmp:CmpLays Tryz.prog 114 #[.pointer (some ⟨d1,0,none⟩), .pointer (some ⟨d2,0,none⟩)] Reg.cells 5 cmpReg g 0 L.toArray.size w:=fun m os dk hs x y=>by
   have hbl:Below base w (sortWorldK Reg.cells 5 w g 0 m dk os):=belowK_sorted (Below.refl _ _) hbase hb
   exact closReg_ok x y d1 d2 _ ((hbl.cell (p:=⟨d1,0,none⟩) l1).trans h1) ((hbl.cell (p:=⟨d2,0,none⟩) l2).trans h2) (Nat.lt_of_lt_of_le l1 (Nat.le_trans hbase hbl.size)) (Nat.lt_of_lt_of_le l2 (Nat.le_trans hbase hbl.size))
  have h1c: ∀x:Reg, ∀v ∈ Reg.cells x,v.oneCell'=true:=fun x v hv=>by simp [Reg.cells] at hv;rcases hv with rfl |rfl |rfl |rfl |rfl<;>rfl
  have hcon:=AnyQ.slices_SortFunc Tryz.laySFReg 5 (fun w=>by kernel_rfl) (fun w=>by kernel_rfl) Reg.cells (fun _=>rfl) h1c cmpReg (swo_key cmpReg_key) 114 #[.pointer (some ⟨d1,0,none⟩), .pointer (some ⟨d2,0,none⟩)] g 0 c L.toArray w eg hcmp (holdsK_own (enc:=Reg.cells) (k:=5) (fun _=>rfl) rfl h) hlt (by simp;omega)
  refine Calls.mono (show Calls Tryz.prog 157 #[.slice (some ⟨g,0,none⟩) L.toArray.size c, .func (.func 114) #[] #[.pointer (some ⟨d1,0,none⟩), .pointer (some ⟨d2,0,none⟩)]] w _ from hcon) ?_
  rintro e w' ⟨rfl,d',n,os,hp,hsd,rfl⟩
  have hpl:=permIn_listC (d:=L.toArray) (by exact hp)
  have hsz:d'.size=L.length:=hp.1
  have he:d'.toList=normK keyReg L:=normK_unique keyReg (fun _ _=>keyReg_inj) (by simpa using hpl) (asc_sorted cmpReg_key hsz (by simpa using hsd))
  refine ⟨rfl, ?_,belowK_sorted (Below.refl _ _) hbase hb⟩
  have:=ownK_sorted (enc:=Reg.cells) (k:=5) (m:=n) (os:=os) (fun _=>rfl) h hsz
  rwa [he] at this
set_option maxRecDepth 100000 in
set_option maxHeartbeats 2000000 in
theorem srtdReg_ok (d1 d2 Bm:Nat) (L:List Reg) (A:Option Addr) (c:Nat) (w:World) (hL:L.length≤4194304) (hBm:Bm <w.heap.size) (hm:w.cell? ⟨Bm,0,none⟩=some (.slice A L.length c)) (hR:Rd w w.heap.size 5 A L.length (L.flatMap Reg.cells)) (h1:w.cell? ⟨d1,0,none⟩=some (.func (.func 73) #[] #[])) (h2:w.cell? ⟨d2,0,none⟩=some (.func (.func 72) #[] #[])) (l1:d1 <w.heap.size) (l2:d2 <w.heap.size):
  Calls Tryz.prog 112 #[.func (.func 158) #[] #[.pointer (some ⟨Bm,0,none⟩)], .func (.func 114) #[] #[.pointer (some ⟨d1,0,none⟩), .pointer (some ⟨d2,0,none⟩)]] w fun e w'=> ∃v,e= .returned v∧w'.ownsRow w.heap.size 75 5 v L.length ((normK keyReg L).flatMap Reg.cells)∧Below w.heap.size w w':=by
 have H1:=Lib.hid h1
 have H2:=Lib.hid h2
 go_enter Tryz.func112,Tryz.ntmps112
 go_wp2_with fail
 refine (collReg_ok Bm L A c w hL hBm hm hR).mono ?_
 rintro e w1 ⟨v,rfl,ho,hb⟩
 obtain ⟨RA,rc,rfl,_⟩:=own_form ho
 have HO:=Lib.hid ho
 have HB1:=Lib.hid hb
 clear ho hb h1 h2 hm hR
 go_wp2_with fail
 refine (sortFReg_ok (base:=w.heap.size) d1 d2 HB1.out.size hL HO.out ((HB1.out.cell (p:=⟨d1,0,none⟩) l1).trans H1.out) ((HB1.out.cell (p:=⟨d2,0,none⟩) l2).trans H2.out) l1 l2).mono ?_
 rintro e w2 ⟨rfl,ho2,hb2⟩
 have HO2:=Lib.hid ho2
 have HB2:=Lib.hid (HB1.out.trans hb2)
 clear ho2 hb2
 go_wp2
 go_ret
 exact ⟨_,rfl,HO2.out,HB2.out⟩
set_option maxRecDepth 100000 in
set_option maxHeartbeats 2000000 in
theorem confReg_ok (d1 d2:Nat) (L:List Reg) (A:Option Addr) (c:Nat) (w:World) (hL:L.length≤4194304) (hR:Rd w w.heap.size 5 A L.length (L.flatMap Reg.cells)) (h1:w.cell? ⟨d1,0,none⟩=some (.func (.func 73) #[] #[])) (h2:w.cell? ⟨d2,0,none⟩=some (.func (.func 72) #[] #[])) (l1:d1 <w.heap.size) (l2:d2 <w.heap.size):
  Calls Tryz.prog 70 #[.slice A L.length c, .func (.func 114) #[] #[.pointer (some ⟨d1,0,none⟩), .pointer (some ⟨d2,0,none⟩)]] w fun e w'=> ∃v,e= .returned v∧w'.ownsRow w.heap.size 75 5 v L.length ((normK keyReg L).flatMap Reg.cells)∧Below w.heap.size w w':=by
 have H1:=Lib.hid h1
 have H2:=Lib.hid h2
 have HR:=Lib.hid hR
 clear h1 h2 hR
 go_enter Tryz.func70,Tryz.ntmps70
 go_wp2_with fail
 refine (valsReg_ok A L.length c w).mono ?_
 rintro e w1 ⟨rfl,hw1⟩
 have hb:Below w.heap.size w w1:=by rw [hw1];exact below_one _ _
 have hm:w1.cell? ⟨w.heap.size,0,none⟩=some (.slice A L.length c):=by rw [hw1];simp
 have hz:w1.heap.size=w.heap.size+1:=by rw [hw1];simp
 have HB1:=Lib.hid hb
 have HM:=Lib.hid hm
 clear hw1 hb hm
 go_wp2_with fail
 refine (srtdReg_ok d1 d2 w.heap.size L A c w1 hL (by omega) HM.out (HR.out.up HB1.out) ((HB1.out.cell (p:=⟨d1,0,none⟩) l1).trans H1.out) ((HB1.out.cell (p:=⟨d2,0,none⟩) l2).trans H2.out) (by omega) (by omega)).mono ?_
 rintro e w2 ⟨v,rfl,ho,hb2⟩
 have HO2:=Lib.hid (own_lessM ho (show w.heap.size≤w1.heap.size by omega))
 have HB2:=Lib.hid (Below.then_ HB1.out hb2)
 clear ho hb2
 go_wp2
 go_ret
 exact ⟨_,rfl,HO2.out,HB2.out⟩
structure ByReg (w:World) (d:Nat):Prop where
 h1:w.cell? ⟨d+1,0,none⟩=some (.func (.func 73) #[] #[])
 h2:w.cell? ⟨d,0,none⟩=some (.func (.func 72) #[] #[])
 l:d+1 <w.heap.size
theorem ByReg.up {w w':World} {d:Nat} (h:ByReg w d) (hb:Below w.heap.size w w'):ByReg w' d:=by
 have hl:=h.l
 exact ⟨(hb.cell (p:=⟨d+1,0,none⟩) h.l).trans h.h1,(hb.cell (p:=⟨d,0,none⟩) (show d <w.heap.size by omega)).trans h.h2,Nat.lt_of_lt_of_le h.l hb.size⟩
set_option maxRecDepth 100000 in
set_option maxHeartbeats 1000000 in
theorem byReg_ok (w:World):Calls Tryz.prog 71 #[.func (.func 72) #[] #[], .func (.func 73) #[] #[]] w fun e w'=>e= .returned (.func (.func 114) #[] #[.pointer (some ⟨w.heap.size+1,0,none⟩), .pointer (some ⟨w.heap.size,0,none⟩)])∧ByReg w' w.heap.size∧Below w.heap.size w w':=by
 go_enter Tryz.func71,Tryz.ntmps71
 go_wp2
 go_ret
 refine ⟨rfl,⟨by simp,by simp,by simp⟩,Below.then_ (below_one _ _) (below_one _ _)⟩
end Go.Proofs.YteelncofiodflaaGreat
namespace Go.Proofs.YteelncofiodflaaGreat
open Go.RowKit Go.Shelf Go.Sort
instance srtInhPrt:Inhabited Prt:=⟨⟨0,0, .empty,false,false,0⟩⟩
theorem sortFPrt_ok {L:List Prt} {A:Option Addr} {c base:Nat} {w:World} (d1 d2:Nat) (hbase:base≤w.heap.size) (hL:L.length≤4194304) (h:w.ownsRow base 52 6 (.slice A L.length c) L.length (L.flatMap Prt.cells)) (h1:w.cell? ⟨d1,0,none⟩=some (.func (.func 77) #[] #[])) (h2:w.cell? ⟨d2,0,none⟩=some (.func (.func 76) #[] #[])) (l1:d1 <base) (l2:d2 <base):
  Calls Tryz.prog 161 #[.slice A L.length c, .func (.func 119) #[] #[.pointer (some ⟨d1,0,none⟩), .pointer (some ⟨d2,0,none⟩)]] w fun e w'=>e= .returned (.tuple #[])∧w'.ownsRow base 52 6 (.slice A L.length c) L.length ((normK keyPrt L).flatMap Prt.cells)∧Below base w w':=by
 rcases h.2 with ⟨e0,h3⟩ |⟨g,cap,cur,e1,hb,hh,_⟩
 ·obtain rfl:L= []:=List.eq_nil_of_length_eq_zero h3
  refine (AnyF.slices_SortFunc_none Tryz.laySFPrt A c _ w).mono ?_
  rintro e w' ⟨rfl,rfl⟩
  exact ⟨rfl,by simpa [normK] using h,Below.refl _ _⟩
 ·injection e1 with e1 _ e2
  subst e1;subst e2
  have hlt:g <w.heap.size:=(Array.getElem?_eq_some_iff.1 hh).1
  have eg: ∀args w,(callFunc 119 args).run Tryz.prog w= .ok (.enter 119 args) w:=enters_of Tryz.func119 (by kernel_rfl) rfl
  have hcmp:CmpLays Tryz.prog 119 #[.pointer (some ⟨d1,0,none⟩), .pointer (some ⟨d2,0,none⟩)] Prt.cells 6 cmpPrt g 0 L.toArray.size w:=fun m os dk hs x y=>by
   have hbl:Below base w (sortWorldK Prt.cells 6 w g 0 m dk os):=belowK_sorted (Below.refl _ _) hbase hb
   exact closPrt_ok x y d1 d2 _ ((hbl.cell (p:=⟨d1,0,none⟩) l1).trans h1) ((hbl.cell (p:=⟨d2,0,none⟩) l2).trans h2) (Nat.lt_of_lt_of_le l1 (Nat.le_trans hbase hbl.size)) (Nat.lt_of_lt_of_le l2 (Nat.le_trans hbase hbl.size))
  have h1c: ∀x:Prt, ∀v ∈ Prt.cells x,v.oneCell'=true:=fun x v hv=>by simp [Prt.cells] at hv;rcases hv with rfl |rfl |rfl |rfl |rfl |rfl<;>rfl
  have hcon:=AnyQ.slices_SortFunc Tryz.laySFPrt 6 (fun w=>by kernel_rfl) (fun w=>by kernel_rfl) Prt.cells (fun _=>rfl) h1c cmpPrt (swo_key cmpPrt_key) 119 #[.pointer (some ⟨d1,0,none⟩), .pointer (some ⟨d2,0,none⟩)] g 0 c L.toArray w eg hcmp (holdsK_own (enc:=Prt.cells) (k:=6) (fun _=>rfl) rfl h) hlt (by simp;omega)
  refine Calls.mono (show Calls Tryz.prog 161 #[.slice (some ⟨g,0,none⟩) L.toArray.size c, .func (.func 119) #[] #[.pointer (some ⟨d1,0,none⟩), .pointer (some ⟨d2,0,none⟩)]] w _ from hcon) ?_
  rintro e w' ⟨rfl,d',n,os,hp,hsd,rfl⟩
  have hpl:=permIn_listC (d:=L.toArray) (by exact hp)
  have hsz:d'.size=L.length:=hp.1
  have he:d'.toList=normK keyPrt L:=normK_unique keyPrt (fun _ _=>keyPrt_inj) (by simpa using hpl) (asc_sorted cmpPrt_key hsz (by simpa using hsd))
  refine ⟨rfl, ?_,belowK_sorted (Below.refl _ _) hbase hb⟩
  have:=ownK_sorted (enc:=Prt.cells) (k:=6) (m:=n) (os:=os) (fun _=>rfl) h hsz
  rwa [he] at this
set_option maxRecDepth 100000 in
set_option maxHeartbeats 2000000 in
theorem srtdPrt_ok (d1 d2 Bm:Nat) (L:List Prt) (A:Option Addr) (c:Nat) (w:World) (hL:L.length≤4194304) (hBm:Bm <w.heap.size) (hm:w.cell? ⟨Bm,0,none⟩=some (.slice A L.length c)) (hR:Rd w w.heap.size 6 A L.length (L.flatMap Prt.cells)) (h1:w.cell? ⟨d1,0,none⟩=some (.func (.func 77) #[] #[])) (h2:w.cell? ⟨d2,0,none⟩=some (.func (.func 76) #[] #[])) (l1:d1 <w.heap.size) (l2:d2 <w.heap.size):
  Calls Tryz.prog 117 #[.func (.func 162) #[] #[.pointer (some ⟨Bm,0,none⟩)], .func (.func 119) #[] #[.pointer (some ⟨d1,0,none⟩), .pointer (some ⟨d2,0,none⟩)]] w fun e w'=> ∃v,e= .returned v∧w'.ownsRow w.heap.size 52 6 v L.length ((normK keyPrt L).flatMap Prt.cells)∧Below w.heap.size w w':=by
 have H1:=Lib.hid h1
 have H2:=Lib.hid h2
 go_enter Tryz.func117,Tryz.ntmps117
 go_wp2_with fail
 refine (collPrt_ok Bm L A c w hL hBm hm hR).mono ?_
 rintro e w1 ⟨v,rfl,ho,hb⟩
 obtain ⟨RA,rc,rfl,_⟩:=own_form ho
 have HO:=Lib.hid ho
 have HB1:=Lib.hid hb
 clear ho hb h1 h2 hm hR
 go_wp2_with fail
 refine (sortFPrt_ok (base:=w.heap.size) d1 d2 HB1.out.size hL HO.out ((HB1.out.cell (p:=⟨d1,0,none⟩) l1).trans H1.out) ((HB1.out.cell (p:=⟨d2,0,none⟩) l2).trans H2.out) l1 l2).mono ?_
 rintro e w2 ⟨rfl,ho2,hb2⟩
 have HO2:=Lib.hid ho2
 have HB2:=Lib.hid (HB1.out.trans hb2)
 clear ho2 hb2
 go_wp2
 go_ret
 exact ⟨_,rfl,HO2.out,HB2.out⟩
set_option maxRecDepth 100000 in
set_option maxHeartbeats 2000000 in
theorem confPrt_ok (d1 d2:Nat) (L:List Prt) (A:Option Addr) (c:Nat) (w:World) (hL:L.length≤4194304) (hR:Rd w w.heap.size 6 A L.length (L.flatMap Prt.cells)) (h1:w.cell? ⟨d1,0,none⟩=some (.func (.func 77) #[] #[])) (h2:w.cell? ⟨d2,0,none⟩=some (.func (.func 76) #[] #[])) (l1:d1 <w.heap.size) (l2:d2 <w.heap.size):
  Calls Tryz.prog 74 #[.slice A L.length c, .func (.func 119) #[] #[.pointer (some ⟨d1,0,none⟩), .pointer (some ⟨d2,0,none⟩)]] w fun e w'=> ∃v,e= .returned v∧w'.ownsRow w.heap.size 52 6 v L.length ((normK keyPrt L).flatMap Prt.cells)∧Below w.heap.size w w':=by
 have H1:=Lib.hid h1
 have H2:=Lib.hid h2
 have HR:=Lib.hid hR
 clear h1 h2 hR
 go_enter Tryz.func74,Tryz.ntmps74
 go_wp2_with fail
 refine (valsPrt_ok A L.length c w).mono ?_
 rintro e w1 ⟨rfl,hw1⟩
 have hb:Below w.heap.size w w1:=by rw [hw1];exact below_one _ _
 have hm:w1.cell? ⟨w.heap.size,0,none⟩=some (.slice A L.length c):=by rw [hw1];simp
 have hz:w1.heap.size=w.heap.size+1:=by rw [hw1];simp
 have HB1:=Lib.hid hb
 have HM:=Lib.hid hm
 clear hw1 hb hm
 go_wp2_with fail
 refine (srtdPrt_ok d1 d2 w.heap.size L A c w1 hL (by omega) HM.out (HR.out.up HB1.out) ((HB1.out.cell (p:=⟨d1,0,none⟩) l1).trans H1.out) ((HB1.out.cell (p:=⟨d2,0,none⟩) l2).trans H2.out) (by omega) (by omega)).mono ?_
 rintro e w2 ⟨v,rfl,ho,hb2⟩
 have HO2:=Lib.hid (own_lessM ho (show w.heap.size≤w1.heap.size by omega))
 have HB2:=Lib.hid (Below.then_ HB1.out hb2)
 clear ho hb2
 go_wp2
 go_ret
 exact ⟨_,rfl,HO2.out,HB2.out⟩
structure ByPrt (w:World) (d:Nat):Prop where
 h1:w.cell? ⟨d+1,0,none⟩=some (.func (.func 77) #[] #[])
 h2:w.cell? ⟨d,0,none⟩=some (.func (.func 76) #[] #[])
 l:d+1 <w.heap.size
theorem ByPrt.up {w w':World} {d:Nat} (h:ByPrt w d) (hb:Below w.heap.size w w'):ByPrt w' d:=by
 have hl:=h.l
 exact ⟨(hb.cell (p:=⟨d+1,0,none⟩) h.l).trans h.h1,(hb.cell (p:=⟨d,0,none⟩) (show d <w.heap.size by omega)).trans h.h2,Nat.lt_of_lt_of_le h.l hb.size⟩
set_option maxRecDepth 100000 in
set_option maxHeartbeats 1000000 in
theorem byPrt_ok (w:World):Calls Tryz.prog 75 #[.func (.func 76) #[] #[], .func (.func 77) #[] #[]] w fun e w'=>e= .returned (.func (.func 119) #[] #[.pointer (some ⟨w.heap.size+1,0,none⟩), .pointer (some ⟨w.heap.size,0,none⟩)])∧ByPrt w' w.heap.size∧Below w.heap.size w w':=by
 go_enter Tryz.func75,Tryz.ntmps75
 go_wp2
 go_ret
 refine ⟨rfl,⟨by simp,by simp,by simp⟩,Below.then_ (below_one _ _) (below_one _ _)⟩
end Go.Proofs.YteelncofiodflaaGreat
namespace Go.Proofs.YteelncofiodflaaGreat
open Go.RowKit Go.Shelf Go.Sort
def CEs (w:World) (B:Nat):Type:= {e:CE//Rd w B 1 e.A e.x.dests.length (e.x.dests.map (Value.int .u16))∧e.x.dests.length≤4194304}
instance (w:World) (B:Nat):Inhabited (CEs w B):=⟨⟨⟨⟨0,0,[]⟩,none,0⟩,Rd.nil,by simp⟩⟩
def CEs.cells {w:World} {B:Nat} (e:CEs w B):List Value:=e.1.cells
def CEs.key {w:World} {B:Nat} (e:CEs w B):List Int:=keyChn e.1.x
def CEs.cmp {w:World} {B:Nat} (e f:CEs w B):Int:=cmpChn e.1.x f.1.x
theorem ces_of {w:World} {B:Nat}: ∀ {L:List CE},(∀e ∈ L,Rd w B 1 e.A e.x.dests.length (e.x.dests.map (Value.int .u16))∧e.x.dests.length≤4194304)→ ∃M:List (CEs w B),M.map (·.1)=L
 | [],_=>⟨[],rfl⟩
 |e::r,h=>by
  obtain ⟨M,hM⟩:=ces_of (L:=r) fun a ha=>h a (by simp [ha])
  exact ⟨⟨e,h e (by simp)⟩::M,by show e::M.map (·.1)=e::r;rw [hM]⟩
theorem ces_cells {w:World} {B:Nat} (M:List (CEs w B)):M.flatMap CEs.cells=(M.map (·.1)).flatMap CE.cells:=by
 rw [List.flatMap_map];rfl
theorem sortFChn_ok {L:List CE} {A:Option Addr} {c base:Nat} {w:World} (d1 d2:Nat) (hbase:base≤w.heap.size) (hL:L.length≤4194304) (h:w.ownsRow base 57 3 (.slice A L.length c) L.length (L.flatMap CE.cells)) (hD: ∀e ∈ L,Rd w base 1 e.A e.x.dests.length (e.x.dests.map (Value.int .u16))∧e.x.dests.length≤4194304) (h1:w.cell? ⟨d1,0,none⟩=some (.func (.func 81) #[] #[])) (h2:w.cell? ⟨d2,0,none⟩=some (.func (.func 80) #[] #[])) (l1:d1 <base) (l2:d2 <base):
  Calls Tryz.prog 165 #[.slice A L.length c, .func (.func 123) #[] #[.pointer (some ⟨d1,0,none⟩), .pointer (some ⟨d2,0,none⟩)]] w fun e w'=>e= .returned (.tuple #[])∧(∃L':List CE,L'.Perm L∧L'.map (·.x)=normK keyChn (L.map (·.x))∧w'.ownsRow base 57 3 (.slice A L.length c) L.length (L'.flatMap CE.cells))∧Below base w w':=by
 rcases h.2 with ⟨e0,h3⟩ |⟨g,cap,cur,e1,hb,hh,_⟩
 ·obtain rfl:L= []:=List.eq_nil_of_length_eq_zero h3
  refine (AnyF.slices_SortFunc_none Tryz.laySFChn A c _ w).mono ?_
  rintro e w' ⟨rfl,rfl⟩
  exact ⟨rfl,⟨[],List.Perm.refl _,by simp [normK],h⟩,Below.refl _ _⟩
 ·injection e1 with e1 _ e2
  subst e1;subst e2
  have hlt:g <w.heap.size:=(Array.getElem?_eq_some_iff.1 hh).1
  obtain ⟨M,rfl⟩:=ces_of hD
  have hml:(M.map (·.1)).length=M.length:=List.length_map _
  rw [hml, ←ces_cells] at h
  rw [hml] at hL ⊢
  have eg: ∀args w,(callFunc 123 args).run Tryz.prog w= .ok (.enter 123 args) w:=enters_of Tryz.func123 (by kernel_rfl) rfl
  have hcmp:CmpLays Tryz.prog 123 #[.pointer (some ⟨d1,0,none⟩), .pointer (some ⟨d2,0,none⟩)] (CEs.cells (w:=w) (B:=base)) 3 CEs.cmp g 0 M.toArray.size w:=fun m os dk hs x y=>by
   have hbl:Below base w (sortWorldK (CEs.cells (w:=w) (B:=base)) 3 w g 0 m dk os):=belowK_sorted (Below.refl _ _) hbase hb
   have hz:=Nat.le_trans hbase hbl.size
   exact closChn_ok x.1.x y.1.x x.1.A y.1.A x.1.c y.1.c d1 d2 _ ((hbl.cell (p:=⟨d1,0,none⟩) l1).trans h1) ((hbl.cell (p:=⟨d2,0,none⟩) l2).trans h2) (Nat.lt_of_lt_of_le l1 hz) (Nat.lt_of_lt_of_le l2 hz) x.2.2 y.2.2 ((x.2.1.below hbl).more hz) ((y.2.1.below hbl).more hz)
  have h1c: ∀x:CEs w base, ∀v ∈ CEs.cells x,v.oneCell'=true:=fun x v hv=>by simp [CEs.cells,CE.cells] at hv;rcases hv with rfl |rfl |rfl<;>rfl
  have hcon:=AnyQ.slices_SortFunc Tryz.laySFChn 3 (fun w=>by kernel_rfl) (fun w=>by kernel_rfl) (CEs.cells (w:=w) (B:=base)) (fun _=>rfl) h1c CEs.cmp (swo_key (key:=CEs.key) fun x y=>cmpChn_key x.1.x y.1.x) 123 #[.pointer (some ⟨d1,0,none⟩), .pointer (some ⟨d2,0,none⟩)] g 0 c M.toArray w eg hcmp (holdsK_own (enc:=CEs.cells (w:=w) (B:=base)) (k:=3) (fun _=>rfl) rfl h) hlt (by simp;omega)
  refine Calls.mono (show Calls Tryz.prog 165 #[.slice (some ⟨g,0,none⟩) M.toArray.size c, .func (.func 123) #[] #[.pointer (some ⟨d1,0,none⟩), .pointer (some ⟨d2,0,none⟩)]] w _ from hcon) ?_
  rintro e w' ⟨rfl,d',n,os,hp,hsd,rfl⟩
  have hpl:d'.toList.Perm M:=by simpa using permIn_listC (d:=M.toArray) (by exact hp)
  have hsz:d'.size=M.length:=hp.1
  have hasc:=asc_sorted (key:=CEs.key) (cf:=CEs.cmp) (fun x y=>cmpChn_key x.1.x y.1.x) hsz (by rw [List.size_toArray] at hsd;exact hsd)
  refine ⟨rfl,⟨d'.toList.map (·.1),hpl.map _, ?_, ?_⟩,belowK_sorted (Below.refl _ _) hbase hb⟩
  ·refine normK_unique keyChn (fun _ _=>keyChn_inj) ((hpl.map _).map _) ?_
   unfold Asc at hasc ⊢
   rw [List.pairwise_map,List.pairwise_map]
   exact hasc
  ·have:=ownK_sorted (enc:=CEs.cells (w:=w) (B:=base)) (k:=3) (m:=n) (os:=os) (fun _=>rfl) h hsz
   rwa [ces_cells] at this
set_option maxRecDepth 100000 in
set_option maxHeartbeats 2000000 in
theorem srtdChn_ok (d1 d2 Bm:Nat) (L:List CE) (A:Option Addr) (c:Nat) (w:World) (hL:L.length≤4194304) (hBm:Bm <w.heap.size) (hm:w.cell? ⟨Bm,0,none⟩=some (.slice A L.length c)) (hR:Rd w w.heap.size 3 A L.length (L.flatMap CE.cells)) (hD: ∀e ∈ L,Rd w w.heap.size 1 e.A e.x.dests.length (e.x.dests.map (Value.int .u16))∧e.x.dests.length≤4194304) (h1:w.cell? ⟨d1,0,none⟩=some (.func (.func 81) #[] #[])) (h2:w.cell? ⟨d2,0,none⟩=some (.func (.func 80) #[] #[])) (l1:d1 <w.heap.size) (l2:d2 <w.heap.size):
  Calls Tryz.prog 121 #[.func (.func 166) #[] #[.pointer (some ⟨Bm,0,none⟩)], .func (.func 123) #[] #[.pointer (some ⟨d1,0,none⟩), .pointer (some ⟨d2,0,none⟩)]] w fun e w'=> ∃(v:Value) (L':List CE),e= .returned v∧L'.Perm L∧L'.map (·.x)=normK keyChn (L.map (·.x))∧w'.ownsRow w.heap.size 57 3 v L.length (L'.flatMap CE.cells)∧Below w.heap.size w w':=by
 have H1:=Lib.hid h1
 have H2:=Lib.hid h2
 have HD:=Lib.hid hD
 go_enter Tryz.func121,Tryz.ntmps121
 go_wp2_with fail
 refine (collChn_ok Bm L A c w hL hBm hm hR).mono ?_
 rintro e w1 ⟨v,rfl,ho,hb⟩
 obtain ⟨RA,rc,rfl,_⟩:=own_form ho
 have HO:=Lib.hid ho
 have HB1:=Lib.hid hb
 clear ho hb h1 h2 hm hR hD
 go_wp2_with fail
 refine (sortFChn_ok (base:=w.heap.size) d1 d2 HB1.out.size hL HO.out (fun e he=>⟨(HD.out e he).1.below HB1.out,(HD.out e he).2⟩) ((HB1.out.cell (p:=⟨d1,0,none⟩) l1).trans H1.out) ((HB1.out.cell (p:=⟨d2,0,none⟩) l2).trans H2.out) l1 l2).mono ?_
 rintro e w2 ⟨rfl,⟨L',hp,hm,ho2⟩,hb2⟩
 have HO2:=Lib.hid ho2
 have HB2:=Lib.hid (HB1.out.trans hb2)
 clear ho2 hb2
 go_wp2
 go_ret
 exact ⟨_,L',rfl,hp,hm,HO2.out,HB2.out⟩
set_option maxRecDepth 100000 in
set_option maxHeartbeats 2000000 in
theorem confChn_ok (d1 d2:Nat) (L:List CE) (A:Option Addr) (c:Nat) (w:World) (hL:L.length≤4194304) (hR:Rd w w.heap.size 3 A L.length (L.flatMap CE.cells)) (hD: ∀e ∈ L,Rd w w.heap.size 1 e.A e.x.dests.length (e.x.dests.map (Value.int .u16))∧e.x.dests.length≤4194304) (h1:w.cell? ⟨d1,0,none⟩=some (.func (.func 81) #[] #[])) (h2:w.cell? ⟨d2,0,none⟩=some (.func (.func 80) #[] #[])) (l1:d1 <w.heap.size) (l2:d2 <w.heap.size):
  Calls Tryz.prog 78 #[.slice A L.length c, .func (.func 123) #[] #[.pointer (some ⟨d1,0,none⟩), .pointer (some ⟨d2,0,none⟩)]] w fun e w'=> ∃(v:Value) (L':List CE),e= .returned v∧L'.Perm L∧L'.map (·.x)=normK keyChn (L.map (·.x))∧w'.ownsRow w.heap.size 57 3 v L.length (L'.flatMap CE.cells)∧Below w.heap.size w w':=by
 have H1:=Lib.hid h1
 have H2:=Lib.hid h2
 have HR:=Lib.hid hR
 have HD:=Lib.hid hD
 clear h1 h2 hR hD
 go_enter Tryz.func78,Tryz.ntmps78
 go_wp2_with fail
 refine (valsChn_ok A L.length c w).mono ?_
 rintro e w1 ⟨rfl,hw1⟩
 have hb:Below w.heap.size w w1:=by rw [hw1];exact below_one _ _
 have hm:w1.cell? ⟨w.heap.size,0,none⟩=some (.slice A L.length c):=by rw [hw1];simp
 have hz:w1.heap.size=w.heap.size+1:=by rw [hw1];simp
 have HB1:=Lib.hid hb
 have HM:=Lib.hid hm
 clear hw1 hb hm
 go_wp2_with fail
 refine (srtdChn_ok d1 d2 w.heap.size L A c w1 hL (by omega) HM.out (HR.out.up HB1.out) (fun e he=>⟨(HD.out e he).1.up HB1.out,(HD.out e he).2⟩) ((HB1.out.cell (p:=⟨d1,0,none⟩) l1).trans H1.out) ((HB1.out.cell (p:=⟨d2,0,none⟩) l2).trans H2.out) (by omega) (by omega)).mono ?_
 rintro e w2 ⟨v,L',rfl,hp,hmm,ho,hb2⟩
 have HO2:=Lib.hid (own_lessM ho (show w.heap.size≤w1.heap.size by omega))
 have HB2:=Lib.hid (Below.then_ HB1.out hb2)
 clear ho hb2
 go_wp2
 go_ret
 exact ⟨_,L',rfl,hp,hmm,HO2.out,HB2.out⟩
structure ByChn (w:World) (d:Nat):Prop where
 h1:w.cell? ⟨d+1,0,none⟩=some (.func (.func 81) #[] #[])
 h2:w.cell? ⟨d,0,none⟩=some (.func (.func 80) #[] #[])
 l:d+1 <w.heap.size
theorem ByChn.up {w w':World} {d:Nat} (h:ByChn w d) (hb:Below w.heap.size w w'):ByChn w' d:=by
 have hl:=h.l
 exact ⟨(hb.cell (p:=⟨d+1,0,none⟩) h.l).trans h.h1,(hb.cell (p:=⟨d,0,none⟩) (show d <w.heap.size by omega)).trans h.h2,Nat.lt_of_lt_of_le h.l hb.size⟩
set_option maxRecDepth 100000 in
set_option maxHeartbeats 1000000 in
theorem byChn_ok (w:World):Calls Tryz.prog 79 #[.func (.func 80) #[] #[], .func (.func 81) #[] #[]] w fun e w'=>e= .returned (.func (.func 123) #[] #[.pointer (some ⟨w.heap.size+1,0,none⟩), .pointer (some ⟨w.heap.size,0,none⟩)])∧ByChn w' w.heap.size∧Below w.heap.size w w':=by
 go_enter Tryz.func79,Tryz.ntmps79
 go_wp2
 go_ret
 refine ⟨rfl,⟨by simp,by simp,by simp⟩,Below.then_ (below_one _ _) (below_one _ _)⟩
theorem confChn_okn (d1 d2:Nat) (L:List CE) (A:Option Addr) (c:Nat) (w:World) (n:Nat) (hn:L.length=n) (hL:n≤4194304) (hR:Rd w w.heap.size 3 A n (L.flatMap CE.cells)) (hD: ∀e ∈ L,Rd w w.heap.size 1 e.A e.x.dests.length (e.x.dests.map (Value.int .u16))∧e.x.dests.length≤4194304) (h1:w.cell? ⟨d1,0,none⟩=some (.func (.func 81) #[] #[])) (h2:w.cell? ⟨d2,0,none⟩=some (.func (.func 80) #[] #[])) (l1:d1 <w.heap.size) (l2:d2 <w.heap.size):
  Calls Tryz.prog 78 #[.slice A n c, .func (.func 123) #[] #[.pointer (some ⟨d1,0,none⟩), .pointer (some ⟨d2,0,none⟩)]] w fun e w'=> ∃(v:Value) (L':List CE),e= .returned v∧L'.Perm L∧L'.map (·.x)=normK keyChn (L.map (·.x))∧w'.ownsRow w.heap.size 57 3 v n (L'.flatMap CE.cells)∧Below w.heap.size w w':=by
 subst hn
 exact confChn_ok d1 d2 L A c w hL hR hD h1 h2 l1 l2
end Go.Proofs.YteelncofiodflaaGreat
