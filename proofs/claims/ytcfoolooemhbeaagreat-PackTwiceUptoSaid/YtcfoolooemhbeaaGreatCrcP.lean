/-
  The checksum of images as plain laws: the register bit by bit, the table, that a change of bits among 32 consecutive ones is seen. It speaks of no program.
-/
namespace Go.Proofs.YtcfoolooemhbeaaGreat
def stepN (r:Nat):Nat:=if r%2=1 then r/2^^^3988292384 else r/2
def stepsN:Nat→Nat→Nat
 |0,r=>r
 |k+1,r=>stepsN k (stepN r)
theorem xor_half (a b:Nat):(a^^^b)/2=a/2^^^b/2:=by
 apply Nat.eq_of_testBit_eq
 intro i
 simp [Nat.testBit_xor,Nat.testBit_div_two]
theorem xor_odd (a b:Nat):(a^^^b)%2=(a%2+b%2)%2:=by
 have h:=Nat.testBit_xor a b 0
 simp only [Nat.testBit_zero] at h
 have ha:a%2=0∨a%2=1:=by omega
 have hb:b%2=0∨b%2=1:=by omega
 have hc:(a^^^b)%2=0∨(a^^^b)%2=1:=by omega
 rcases ha with ha |ha<;>rcases hb with hb |hb<;>rcases hc with hc |hc<;>simp [ha,hb,hc] at h ⊢
theorem stepN_xor (a b:Nat):stepN (a^^^b)=stepN a^^^stepN b:=by
 have ha:a%2=0∨a%2=1:=by omega
 have hb:b%2=0∨b%2=1:=by omega
 unfold stepN
 rw [xor_half,xor_odd]
 rcases ha with ha |ha<;>rcases hb with hb |hb<;>simp only [ha,hb]
 ·rfl
 ·simp [Nat.xor_assoc]
 ·simp only [if_true,show ((0:Nat)=1)=False by simp,if_false]
  rw [Nat.xor_assoc,Nat.xor_comm (b/2), ←Nat.xor_assoc]
 ·simp only [show ((1+1)%2=1)=False by simp,if_false,if_true]
  rw [show (a/2^^^3988292384^^^(b/2^^^3988292384))=a/2^^^b/2^^^(3988292384^^^3988292384) by
   rw [Nat.xor_assoc,Nat.xor_assoc,Nat.xor_comm 3988292384,Nat.xor_assoc]]
  simp
theorem stepsN_xor: ∀(k a b:Nat),stepsN k (a^^^b)=stepsN k a^^^stepsN k b
 |0,_,_=>rfl
 |k+1,a,b=>by unfold stepsN;rw [stepN_xor];exact stepsN_xor k _ _
theorem stepsN_add: ∀(j k r:Nat),stepsN (j+k) r=stepsN k (stepsN j r)
 |0,k,r=>by rw [Nat.zero_add];rfl
 |j+1,k,r=>by rw [show j+1+k=(j+k)+1 by omega];show stepsN (j+k) (stepN r)=_;rw [stepsN_add j k];rfl
theorem stepN_even (m:Nat):stepN (2*m)=m:=by unfold stepN;rw [if_neg (by omega)];omega
theorem stepsN_high: ∀(k m:Nat),stepsN k (m*2^k)=m
 |0,m=>by simp [stepsN]
 |k+1,m=>by
  show stepsN k (stepN (m*2^(k+1)))=m
  rw [show m*2^(k+1)=2*(m*2^k) by rw [Nat.pow_succ];simp [Nat.mul_comm,Nat.mul_left_comm],stepN_even,stepsN_high k m]
theorem stepN_lt {r:Nat} (h:r <4294967296):stepN r <4294967296:=by
 unfold stepN
 split
 ·exact Nat.xor_lt_two_pow (n:=32) (by omega) (by decide)
 ·omega
theorem stepsN_lt: ∀(k:Nat) {r:Nat},r <4294967296→stepsN k r <4294967296
 |0,_,h=>h
 |k+1,_,h=>stepsN_lt k (stepN_lt h)
theorem stepN_zero {r:Nat} (hr:r <4294967296) (h:stepN r=0):r=0:=by
 unfold stepN at h
 split at h
 ·exfalso
  have h2:r/2=3988292384:=by
   have h3:=congrArg (· ^^^3988292384) h
   simp only [Nat.xor_assoc,Nat.xor_self,Nat.xor_zero,Nat.zero_xor] at h3
   exact h3
  omega
 ·omega
theorem stepsN_zero: ∀(k:Nat) {r:Nat},r <4294967296→stepsN k r=0→r=0
 |0,_,_,h=>h
 |k+1,_,hr,h=>stepN_zero hr (stepsN_zero k (stepN_lt hr) h)
theorem xor_cancel {a b:Nat} (h:a^^^b=0):a=b:=by
 have h3:=congrArg (· ^^^b) h
 simp only [Nat.xor_assoc,Nat.xor_self,Nat.xor_zero,Nat.zero_xor] at h3
 exact h3
theorem stepsN_inj {k a b:Nat} (ha:a <4294967296) (hb:b <4294967296) (h:stepsN k a=stepsN k b):a=b:=by
 refine xor_cancel (stepsN_zero k (Nat.xor_lt_two_pow (n:=32) ha hb) ?_)
 rw [stepsN_xor,h,Nat.xor_self]
def feedN (r:Nat) (l:List Nat):Nat:=l.foldl (fun r c=>stepsN 8 (r^^^c)) r
def sumN (l:List Nat):Nat:=feedN 4294967295 l^^^4294967295
def numL:List Nat→Nat
 | []=>0
 |c::r=>c+256*numL r
theorem low_xor {c m:Nat} (hc:c <256):c+256*m=c^^^(m*256):=by
 have h:=Nat.two_pow_add_eq_or_of_lt (i:=8) (b:=c) hc m
 apply Nat.eq_of_testBit_eq
 intro i
 rw [show c+256*m=2^8*m+c by omega,h,Nat.testBit_or,Nat.testBit_xor,show m*256=2^8*m by omega,Nat.testBit_two_pow_mul]
 by_cases hi:8≤i
 ·have:c.testBit i=false:=Nat.testBit_lt_two_pow (Nat.lt_of_lt_of_le hc (Nat.pow_le_pow_right (by omega) hi:2^8≤2^i))
  simp [this]
 ·simp [hi]
theorem feedN_num: ∀(l:List Nat) (r:Nat),(∀c ∈ l,c <256)→feedN r l=stepsN (8*l.length) (r^^^numL l)
 | [],r,_=>by simp [feedN,numL,stepsN]
 |c::t,r,h=>by
  show feedN (stepsN 8 (r^^^c)) t=_
  rw [feedN_num t _ (fun x hx=>h x (by simp [hx]))]
  show _=stepsN (8*(t.length+1)) (r^^^(c+256*numL t))
  rw [show 8*(t.length+1)=8+8*t.length by omega,stepsN_add,low_xor (h c (by simp)), ←Nat.xor_assoc,stepsN_xor 8 (r^^^c),show numL t*256=numL t*2^8 by rfl,stepsN_high]
theorem byte_tab (r c:Nat):stepsN 8 (r^^^c)=r/256^^^stepsN 8 ((r%256)^^^c):=by
 have h:=low_xor (c:=r%256) (m:=r/256) (by omega)
 rw [show r%256+256*(r/256)=r by omega] at h
 conv=>lhs;rw [h,Nat.xor_comm (r%256),Nat.xor_assoc,stepsN_xor,show r/256*256=r/256*2^8 by rfl,stepsN_high]
theorem feedN_lt: ∀(l:List Nat) {r:Nat},r <4294967296→(∀c ∈ l,c <256)→feedN r l <4294967296
 | [],_,h,_=>h
 |c::t,r,h,hl=>feedN_lt t (stepsN_lt 8 (Nat.xor_lt_two_pow (n:=32) h (by have:=hl c (by simp);omega))) (fun x hx=>hl x (by simp [hx]))
theorem sumN_lt {l:List Nat} (hl: ∀c ∈ l,c <256):sumN l <4294967296:=Nat.xor_lt_two_pow (n:=32) (feedN_lt l (by decide) hl) (by decide)
def leN (s:Nat):List Nat:= [s%256,s/256%256,s/65536%256,s/16777216%256]
theorem numL_leN {s:Nat} (h:s <4294967296):numL (leN s)=s:=by simp [numL,leN];omega
theorem leN_byte (s:Nat): ∀c ∈ leN s,c <256:=by
 intro c hc
 simp [leN] at hc
 omega
def sealN (l:List Nat):List Nat:=l++leN (sumN l)
def sealedN (l:List Nat):Bool:=decide (4≤l.length)&&decide (leN (sumN (l.take (l.length -4)))=l.drop (l.length -4))
theorem feedN_app (r:Nat) (a b:List Nat):feedN r (a++b)=feedN (feedN r a) b:=by unfold feedN;rw [List.foldl_append]
theorem xor_flip {a b c:Nat} (h:a^^^b=c):b=a^^^c:=by
 rw [←h, ←Nat.xor_assoc,Nat.xor_self,Nat.zero_xor]
theorem feedN_leN {p:List Nat} {s:Nat} (hp: ∀c ∈ p,c <256) (hs:s <4294967296):feedN 4294967295 (p++leN s)=stepsN 32 4294967295↔s=sumN p:=by
 rw [feedN_app,feedN_num _ _ (leN_byte s),numL_leN hs,show 8*(leN s).length=32 from rfl]
 have hf:=feedN_lt p (r:=4294967295) (by decide) hp
 constructor
 ·intro h
  have:=stepsN_inj (Nat.xor_lt_two_pow (n:=32) hf hs) (by decide) h
  exact xor_flip this
 ·rintro rfl
  congr 1
  unfold sumN
  rw [←Nat.xor_assoc,Nat.xor_self,Nat.zero_xor]
theorem leN_of {q:List Nat} (hq:q.length=4) (hb: ∀c ∈ q,c <256): ∃s,s <4294967296∧q=leN s:=by
 match q,hq with
 | [a,b,c,d],_=>
  have h0:=hb a (by simp)
  have h1:=hb b (by simp)
  have h2:=hb c (by simp)
  have h3:=hb d (by simp)
  refine ⟨a+256*b+65536*c+16777216*d,by omega, ?_⟩
  unfold leN
  congr 1
  ·omega
  ·congr 1
   ·omega
   ·congr 1
    ·omega
    ·congr 1;omega
theorem leN_inj {s t:Nat} (hs:s <4294967296) (ht:t <4294967296) (h:leN s=leN t):s=t:=by
 rw [←numL_leN hs, ←numL_leN ht,h]
theorem sealedN_iff {l:List Nat} (hb: ∀c ∈ l,c <256):sealedN l=true↔4≤l.length∧feedN 4294967295 l=stepsN 32 4294967295:=by
 unfold sealedN
 rw [Bool.and_eq_true,decide_eq_true_eq,decide_eq_true_eq]
 refine and_congr_right fun h4=> ?_
 have hp: ∀c ∈ l.take (l.length -4),c <256:=fun c hc=>hb c (List.mem_of_mem_take hc)
 have hq: ∀c ∈ l.drop (l.length -4),c <256:=fun c hc=>hb c (List.mem_of_mem_drop hc)
 obtain ⟨s,hs,e⟩:=leN_of (q:=l.drop (l.length -4)) (by rw [List.length_drop];omega) hq
 have hl:l=l.take (l.length -4)++leN s:=by rw [←e,List.take_append_drop]
 rw [e]
 conv=>rhs;lhs;rw [hl]
 rw [feedN_leN hp hs]
 constructor
 ·intro h;exact (leN_inj (sumN_lt hp) hs h).symm
 ·rintro rfl;rfl
theorem burst {l m:List Nat} (hb: ∀c ∈ l,c <256) (hc: ∀c ∈ m,c <256) (hlen:m.length=l.length) {x k:Nat} (hx:x <4294967296) (hx0:x≠0) (hk:k≤8*l.length) (h:numL m=numL l^^^(x*2^k)) (hs:sealedN l=true):sealedN m=false:=by
 rcases hm:sealedN m with _ |_
 ·rfl
 ·exfalso
  have h1:=((sealedN_iff hb).1 hs).2
  have h2:=((sealedN_iff hc).1 hm).2
  rw [feedN_num _ _ hb] at h1
  rw [feedN_num _ _ hc,hlen,h, ←Nat.xor_assoc,stepsN_xor,h1] at h2
  have h3:=xor_flip h2
  rw [Nat.xor_self] at h3
  rw [show 8*l.length=k+(8*l.length -k) by omega,stepsN_add,stepsN_high] at h3
  exact hx0 (stepsN_zero _ hx h3)
end Go.Proofs.YtcfoolooemhbeaaGreat
