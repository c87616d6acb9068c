/-
  num.Add of two numbers, walked: the sum, if it has 64 bits.
-/
import Derived.BigQuiet
import Derived.Laws.Externs
import Derived.Shelf.Abstract
import Derived.OpenShut
import Derived.Test.YtdmgpdanlfmadaaGreatCore
namespace Go.Proofs.YtdmgpdanlfmadaaGreat
open Go.RowKit
theorem add64_any (x y:Int) (hx:0≤x) (hy:0≤y) (w:World):(callFunc 188 #[.int .u64 x, .int .u64 y, .int .u64 0]).run Tryz.prog w= .ok (.value (.tuple #[.int .u64 ((x+y)%18446744073709551616), .int .u64 ((x+y)/18446744073709551616)])) w:=by
 rw [run_callFunc_extern Tryz.func188 (by kernel_rfl) (by kernel_rfl) (by kernel_rfl) (e:=add64Entry) (by kernel_rfl),run_add64 x y 0 hx hy (by omega) (by omega)]
 simp only [Result.andThen,Int.add_zero]
theorem add64_fit (x y:Int) (hx:0≤x) (hy:0≤y) (h:x+y≤18446744073709551615) (w:World):(callFunc 188 #[.int .u64 x, .int .u64 y, .int .u64 0]).run Tryz.prog w= .ok (.value (.tuple #[.int .u64 (x+y), .int .u64 0])) w:=by
 rw [add64_any x y hx hy,show (x+y)%18446744073709551616=x+y from by omega,show (x+y)/18446744073709551616=0 from by omega]
theorem add64_over (x y:Int) (hx:0≤x) (hy:0≤y) (hx2:x≤18446744073709551615) (hy2:y≤18446744073709551615) (h: ¬x+y≤18446744073709551615): ∃r:Int, ∀w:World,(callFunc 188 #[.int .u64 x, .int .u64 y, .int .u64 0]).run Tryz.prog w= .ok (.value (.tuple #[.int .u64 r, .int .u64 1])) w:=
 ⟨_,fun w=>by rw [add64_any x y hx hy,show (x+y)/18446744073709551616=1 from by omega]⟩
theorem plus_fit (x y:Int) (w:World) (hx:0≤x) (hy:0≤y) (h:x+y≤18446744073709551615):Calls Tryz.prog 138 #[.int .u64 x, .int .u64 y] w fun e w'=>e= .returned (.tuple #[.int .u64 (x+y), .bool true])∧w'=w:=by
 have h64:=add64_fit x y hx hy h
 clear h
 go_enter Tryz.func138,Tryz.ntmps138
 go_wp2
 go_ret2
 exact ⟨rfl,rfl⟩
theorem plus_over (x y:Int) (w:World) (hx:0≤x) (hy:0≤y) (hx2:x≤18446744073709551615) (hy2:y≤18446744073709551615) (h: ¬x+y≤18446744073709551615):Calls Tryz.prog 138 #[.int .u64 x, .int .u64 y] w fun e w'=>(∃r:Int,e= .returned (.tuple #[.int .u64 r, .bool false]))∧w'=w:=by
 obtain ⟨r,h64⟩:=add64_over x y hx hy hx2 hy2 h
 clear h hx2 hy2
 go_enter Tryz.func138,Tryz.ntmps138
 go_wp2
 go_ret2
 exact ⟨⟨r,rfl⟩,rfl⟩
def AddSt (a b:Int) (k:Nat) (n:Value):Prop:=(k=0∧n= .int .u64 0)∨(k=1∧n= .int .u64 a)∨(k=2∧n= .int .u64 (a+b))
set_option maxRecDepth 100000 in
set_option maxHeartbeats 2000000 in
theorem fold_fit (a b:Int) (bl:Nat) (w:World) (ha:0≤a) (hb:0≤b) (h:a+b≤18446744073709551615) (h0:w.cell? ⟨bl,0,none⟩=some (.int .u64 a)) (h1:w.cell? ⟨bl,1,none⟩=some (.int .u64 b)):
  Calls Tryz.prog 137 #[.int .u64 0, .func (.func 138) #[] #[], .slice (some ⟨bl,0,none⟩) 2 2] w fun e w'=>e= .returned (.tuple #[.int .u64 (a+b), .bool true])∧w'=w:=by
 have hent: ∀a w,(callFunc 138 a).run Tryz.prog w= .ok (.enter 138 a) w:=enters_of Tryz.func138 (by kernel_rfl) rfl
 have H:=Lib.hid h
 have c1:=Lib.hid (plus_fit 0 a)
 have c2:=Lib.hid (plus_fit a b)
 clear h
 go_enter Tryz.func137,Tryz.ntmps137
 go_wp2
 go_loopw [8,15] (fun n i wr=> ∃k:Nat,k≤2∧i= .int .i64 k∧AddSt a b k n∧wr=w) (fun _ i _=>2 -(intOf i).toNat)
 case atStart=>exact ⟨0,by omega,rfl, .inl ⟨rfl,rfl⟩,rfl⟩
 case round=>
  obtain ⟨k,hk,rfl,hst,rfl⟩:=hrel
  rcases hst with ⟨rfl,rfl⟩ |⟨rfl,rfl⟩ |⟨rfl,rfl⟩
  ·go_wp2_with fail
   refine (c1.out wr (by omega) ha (by have:=H.out;omega)).mono ?_
   rintro e w' ⟨rfl,rfl⟩
   go_wp2
   go_roundw
   case rel=>exact ⟨1,by omega,by go_num, .inr (.inl ⟨rfl,by simp⟩),trivial⟩
   case measure=>simp [intOf]
  ·go_wp2_with fail
   refine (c2.out wr ha hb H.out).mono ?_
   rintro e w' ⟨rfl,rfl⟩
   go_wp2
   go_roundw
   case rel=>exact ⟨2,by omega,by go_num, .inr (.inr ⟨rfl,rfl⟩),trivial⟩
   case measure=>simp [intOf]
  ·go_wp2
   go_ret2
   exact ⟨rfl,rfl⟩
set_option maxRecDepth 100000 in
set_option maxHeartbeats 2000000 in
theorem fold_over (a b:Int) (bl:Nat) (w:World) (ha:0≤a) (hb:0≤b) (ha2:a≤18446744073709551615) (hb2:b≤18446744073709551615) (h: ¬a+b≤18446744073709551615) (h0:w.cell? ⟨bl,0,none⟩=some (.int .u64 a)) (h1:w.cell? ⟨bl,1,none⟩=some (.int .u64 b)):
  Calls Tryz.prog 137 #[.int .u64 0, .func (.func 138) #[] #[], .slice (some ⟨bl,0,none⟩) 2 2] w fun e w'=>e= .returned (.tuple #[.int .u64 0, .bool false])∧w'=w:=by
 have hent: ∀a w,(callFunc 138 a).run Tryz.prog w= .ok (.enter 138 a) w:=enters_of Tryz.func138 (by kernel_rfl) rfl
 have H:=Lib.hid h
 have A2:=Lib.hid ha2
 have c1:=Lib.hid (plus_fit 0 a)
 have c2:=Lib.hid (fun w=>plus_over a b w ha hb ha2 hb2 h)
 clear h ha2 hb2
 go_enter Tryz.func137,Tryz.ntmps137
 go_wp2
 go_loopw [8,15] (fun n i wr=> ∃k:Nat,k≤1∧i= .int .i64 k∧AddSt a b k n∧wr=w) (fun _ i _=>2 -(intOf i).toNat)
 case atStart=>exact ⟨0,by omega,rfl, .inl ⟨rfl,rfl⟩,rfl⟩
 case round=>
  obtain ⟨k,hk,rfl,hst,rfl⟩:=hrel
  rcases hst with ⟨rfl,rfl⟩ |⟨rfl,rfl⟩ |⟨rfl,rfl⟩
  ·go_wp2_with fail
   refine (c1.out wr (by omega) ha (by have:=A2.out;omega)).mono ?_
   rintro e w' ⟨rfl,rfl⟩
   go_wp2
   go_roundw
   case rel=>exact ⟨1,by omega,by go_num, .inr (.inl ⟨rfl,by simp⟩),trivial⟩
   case measure=>simp [intOf]
  ·go_wp2_with fail
   refine (c2.out wr).mono ?_
   rintro e w' ⟨⟨r,rfl⟩,rfl⟩
   go_wp2
   go_ret2
   exact ⟨rfl,rfl⟩
  ·omega
theorem numAdd_fit (a b:Int) (bl:Nat) (w:World) (ha:0≤a) (hb:0≤b) (h:a+b≤18446744073709551615) (h0:w.cell? ⟨bl,0,none⟩=some (.int .u64 a)) (h1:w.cell? ⟨bl,1,none⟩=some (.int .u64 b)):
  Calls Tryz.prog 73 #[.slice (some ⟨bl,0,none⟩) 2 2] w fun e w'=>e= .returned (.tuple #[.int .u64 (a+b), .bool true])∧w'=w:=by
 have hc:=Lib.hid (fold_fit a b bl w ha hb h h0 h1)
 clear h h0 h1
 go_enter Tryz.func73,Tryz.ntmps73
 go_wp2_with fail
 refine hc.out.mono ?_
 rintro e w' ⟨rfl,rfl⟩
 go_wp2
 go_ret2
 exact ⟨rfl,rfl⟩
theorem numAdd_over (a b:Int) (bl:Nat) (w:World) (ha:0≤a) (hb:0≤b) (ha2:a≤18446744073709551615) (hb2:b≤18446744073709551615) (h: ¬a+b≤18446744073709551615) (h0:w.cell? ⟨bl,0,none⟩=some (.int .u64 a)) (h1:w.cell? ⟨bl,1,none⟩=some (.int .u64 b)):
  Calls Tryz.prog 73 #[.slice (some ⟨bl,0,none⟩) 2 2] w fun e w'=>e= .returned (.tuple #[.int .u64 0, .bool false])∧w'=w:=by
 have hc:=Lib.hid (fold_over a b bl w ha hb ha2 hb2 h h0 h1)
 clear h h0 h1 ha2 hb2
 go_enter Tryz.func73,Tryz.ntmps73
 go_wp2_with fail
 refine hc.out.mono ?_
 rintro e w' ⟨rfl,rfl⟩
 go_wp2
 go_ret2
 exact ⟨rfl,rfl⟩
end Go.Proofs.YtdmgpdanlfmadaaGreat
