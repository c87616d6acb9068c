/-
  One bit of some bytes is turned: plain.
-/
import Derived.Test.YtcfoolooemhbeaaGreatPckP
namespace Go.Proofs.YtcfoolooemhbeaaGreat
theorem mul256_xor (a b:Nat):(a^^^b)*256=a*256^^^b*256:=by
 apply Nat.eq_of_testBit_eq
 intro i
 rw [show (a^^^b)*256=(a^^^b)*2^8 by rfl,show a*256=a*2^8 by rfl,show b*256=b*2^8 by rfl,Nat.testBit_xor,Nat.testBit_mul_two_pow,Nat.testBit_mul_two_pow,Nat.testBit_mul_two_pow,Nat.testBit_xor]
 cases decide (8≤i)<;>simp
theorem numL_flip: ∀(l:List Nat) (k j x:Nat),bytesOk l→j <8→l[k]? =some x→numL (l.set k (x^^^2^j))=numL l^^^2^(8*k+j)
 | [],_,_,_,_,_,h=>by simp at h
 |c::r,0,j,x,hb,hj,h=>by
  have hx:c=x:=by simpa using h
  subst hx
  have hc:c <256:=hb c (by simp)
  have hp:(2:Nat)^j <2^8:=Nat.pow_lt_pow_right (by decide) hj
  have hc2:c^^^2^j <256:=Nat.xor_lt_two_pow (n:=8) hc hp
  show (c^^^2^j)+256*numL r=(c+256*numL r)^^^2^(8*0+j)
  rw [low_xor hc2,low_xor hc,Nat.mul_zero,Nat.zero_add,Nat.xor_assoc,Nat.xor_comm (2^j), ←Nat.xor_assoc]
 |c::r,k+1,j,x,hb,hj,h=>by
  have hc:c <256:=hb c (by simp)
  have ih:=numL_flip r k j x (fun y hy=>hb y (List.mem_cons_of_mem _ hy)) hj (by simpa using h)
  show c+256*numL (r.set k (x^^^2^j))=(c+256*numL r)^^^2^(8*(k+1)+j)
  rw [ih,low_xor hc,low_xor hc,mul256_xor,show 2^(8*k+j)*256=2^(8*(k+1)+j) by rw [show 8*(k+1)+j=(8*k+j)+8 by omega,Nat.pow_add 2 (8*k+j) 8],Nat.xor_assoc]
theorem flip_byte {l:List Nat} {k j x:Nat} (hb:bytesOk l) (hj:j <8) (h:l[k]? =some x):bytesOk (l.set k (x^^^2^j)):=by
 intro c hc
 have hx:=hb x (List.mem_of_getElem? h)
 have hp:(2:Nat)^j <2^8:=Nat.pow_lt_pow_right (by decide) hj
 rcases List.mem_or_eq_of_mem_set hc with h2 |rfl
 ·exact hb c h2
 ·exact Nat.xor_lt_two_pow (n:=8) hx hp
theorem flip_seen {l:List Nat} {k j x:Nat} (hb:bytesOk l) (hj:j <8) (h:l[k]? =some x) (hs:sealedN l=true):sealedN (l.set k (x^^^2^j))=false:=by
 have hk:=(List.getElem?_eq_some_iff.1 h).1
 refine burst (x:=1) (k:=8*k+j) hb (flip_byte hb hj h) (List.length_set) (by decide) (by decide) (by omega) ?_ hs
 rw [numL_flip l k j x hb hj h,Nat.one_mul]
end Go.Proofs.YtcfoolooemhbeaaGreat
