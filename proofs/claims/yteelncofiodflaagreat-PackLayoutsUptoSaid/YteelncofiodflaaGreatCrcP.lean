/-
  The checksum of images as plain laws: the register bit by bit, the table, that a change of bits among 32 consecutive ones is seen. It speaks of no program.
-/
namespace Go.Proofs.YteelncofiodflaaGreat
def stepN (r:Nat):Nat:=if r%2=1 then r/2^^^3988292384 else r/2
def stepsN:Nat→Nat→Nat
 |0,r=>r
 |k+1,r=>stepsN k (stepN r)
theorem xor_half (a b:Nat):(a^^^b)/2=a/2^^^b/2:=by
 apply Nat.eq_of_testBit_eq
 intro i
 simp [Nat.testBit_xor,Nat.testBit_div_two]
theorem xor_odd (a b:Nat):(a^^^b)%2=(a%2+b%2)%2:=by
 have h:=Nat.testBit_xor a b 0
 simp only [Nat.testBit_zero] at h
 have ha:a%2=0∨a%2=1:=by omega
 have hb:b%2=0∨b%2=1:=by omega
 have hc:(a^^^b)%2=0∨(a^^^b)%2=1:=by omega
 rcases ha with ha |ha<;>rcases hb with hb |hb<;>rcases hc with hc |hc<;>simp [ha,hb,hc] at h ⊢
theorem stepN_xor (a b:Nat):stepN (a^^^b)=stepN a^^^stepN b:=by
 have ha:a%2=0∨a%2=1:=by omega
 have hb:b%2=0∨b%2=1:=by omega
 unfold stepN
 rw [xor_half,xor_odd]
 rcases ha with ha |ha<;>rcases hb with hb |hb<;>simp only [ha,hb]
 ·rfl
 ·simp [Nat.xor_assoc]
 ·simp only [if_true,show ((0:Nat)=1)=False by simp,if_false]
  rw [Nat.xor_assoc,Nat.xor_comm (b/2), ←Nat.xor_assoc]
 ·simp only [show ((1+1)%2=1)=False by simp,if_false,if_true]
  rw [show (a/2^^^3988292384^^^(b/2^^^3988292384))=a/2^^^b/2^^^(3988292384^^^3988292384) by
   rw [Nat.xor_assoc,Nat.xor_assoc,Nat.xor_comm 3988292384,Nat.xor_assoc]]
  simp
theorem stepsN_xor: ∀(k a b:Nat),stepsN k (a^^^b)=stepsN k a^^^stepsN k b
 |0,_,_=>rfl
 |k+1,a,b=>by unfold stepsN;rw [stepN_xor];exact stepsN_xor k _ _
theorem stepsN_add: ∀(j k r:Nat),stepsN (j+k) r=stepsN k (stepsN j r)
 |0,k,r=>by rw [Nat.zero_add];rfl
 |j+1,k,r=>by rw [show j+1+k=(j+k)+1 by omega];show stepsN (j+k) (stepN r)=_;rw [stepsN_add j k];rfl
theorem stepN_even (m:Nat):stepN (2*m)=m:=by unfold stepN;rw [if_neg (by omega)];omega
theorem stepsN_high: ∀(k m:Nat),stepsN k (m*2^k)=m
 |0,m=>by simp [stepsN]
 |k+1,m=>by
  show stepsN k (stepN (m*2^(k+1)))=m
  rw [show m*2^(k+1)=2*(m*2^k) by rw [Nat.pow_succ];simp [Nat.mul_comm,Nat.mul_left_comm],stepN_even,stepsN_high k m]
theorem stepN_lt {r:Nat} (h:r <4294967296):stepN r <4294967296:=by
 unfold stepN
 split
 ·exact Nat.xor_lt_two_pow (n:=32) (by omega) (by decide)
 ·omega
theorem stepsN_lt: ∀(k:Nat) {r:Nat},r <4294967296→stepsN k r <4294967296
 |0,_,h=>h
 |k+1,_,h=>stepsN_lt k (stepN_lt h)
def feedN (r:Nat) (l:List Nat):Nat:=l.foldl (fun r c=>stepsN 8 (r^^^c)) r
def sumN (l:List Nat):Nat:=feedN 4294967295 l^^^4294967295
theorem low_xor {c m:Nat} (hc:c <256):c+256*m=c^^^(m*256):=by
 have h:=Nat.two_pow_add_eq_or_of_lt (i:=8) (b:=c) hc m
 apply Nat.eq_of_testBit_eq
 intro i
 rw [show c+256*m=2^8*m+c by omega,h,Nat.testBit_or,Nat.testBit_xor,show m*256=2^8*m by omega,Nat.testBit_two_pow_mul]
 by_cases hi:8≤i
 ·have:c.testBit i=false:=Nat.testBit_lt_two_pow (Nat.lt_of_lt_of_le hc (Nat.pow_le_pow_right (by omega) hi:2^8≤2^i))
  simp [this]
 ·simp [hi]
theorem byte_tab (r c:Nat):stepsN 8 (r^^^c)=r/256^^^stepsN 8 ((r%256)^^^c):=by
 have h:=low_xor (c:=r%256) (m:=r/256) (by omega)
 rw [show r%256+256*(r/256)=r by omega] at h
 conv=>lhs;rw [h,Nat.xor_comm (r%256),Nat.xor_assoc,stepsN_xor,show r/256*256=r/256*2^8 by rfl,stepsN_high]
theorem feedN_lt: ∀(l:List Nat) {r:Nat},r <4294967296→(∀c ∈ l,c <256)→feedN r l <4294967296
 | [],_,h,_=>h
 |c::t,r,h,hl=>feedN_lt t (stepsN_lt 8 (Nat.xor_lt_two_pow (n:=32) h (by have:=hl c (by simp);omega))) (fun x hx=>hl x (by simp [hx]))
theorem sumN_lt {l:List Nat} (hl: ∀c ∈ l,c <256):sumN l <4294967296:=Nat.xor_lt_two_pow (n:=32) (feedN_lt l (by decide) hl) (by decide)
def leN (s:Nat):List Nat:= [s%256,s/256%256,s/65536%256,s/16777216%256]
def sealN (l:List Nat):List Nat:=l++leN (sumN l)
theorem feedN_app (r:Nat) (a b:List Nat):feedN r (a++b)=feedN (feedN r a) b:=by unfold feedN;rw [List.foldl_append]
end Go.Proofs.YteelncofiodflaaGreat
