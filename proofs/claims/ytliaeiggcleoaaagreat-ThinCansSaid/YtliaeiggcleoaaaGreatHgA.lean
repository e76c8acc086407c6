/- Geometry: numbers: signs, products of two words. -/
import Derived.Test.YtliaeiggcleoaaaGreatProg
import Derived.Test.YtliaeiggcleoaaaGreatPart4
import Derived.KernelRfl
import Derived.WalkSmall
namespace Go.Hg
open Go.Hx Go.Proofs
abbrev iv (n:Int):PV:=PV.val (.int .i64 n)
abbrev uv (n:Int):PV:=PV.val (.int .u64 n)
abbrev bv (b:Bool):PV:=PV.val (.bool b)
abbrev ptv (x y:Int):PV:=.agg [iv x,iv y]
abbrev W (n:Int):Int:=IntKind.wrap .i64 n
abbrev U (n:Int):Int:=IntKind.wrap .u64 n
theorem W_eq (n:Int):W n=(n+9223372036854775808) % 18446744073709551616-9223372036854775808:=by
 show (if (true&&decide (n % (2 ^ 64:Int) ≥ (2 ^ 63:Int)))=true then n % (2 ^ 64:Int)-(2 ^ 64:Int) else n % (2 ^ 64:Int))=_
 simp only[Bool.true_and,decide_eq_true_eq]
 split <;> omega
theorem W_id {n:Int} (h1:-9223372036854775808<=n) (h2:n<9223372036854775808):W n=n:=by rw[W_eq]; omega
theorem U_eq (n:Int):U n=n % 18446744073709551616:=by
 show (if (false&&decide (n % (2 ^ 64:Int) ≥ (2 ^ 63:Int)))=true then n % (2 ^ 64:Int)-(2 ^ 64:Int) else n % (2 ^ 64:Int))=_
 simp
theorem U_id {n:Int} (h1:0<=n) (h2:n<18446744073709551616):U n=n:=by rw[U_eq]; omega
theorem U_range (n:Int):0<=U n/\U n<18446744073709551616:=by rw[U_eq]; omega

def sgn (n:Int):Int:=if n<0 then -1 else if n > 0 then 1 else 0
theorem sgn_range (n:Int):-1<=sgn n/\sgn n<=1:=by unfold sgn; split <;> (try split) <;> omega
def sz (n:Int):Int:=if n<0 then U (0-U n) else U n
theorem sz_range (n:Int):0<=sz n/\sz n<18446744073709551616:=by unfold sz; split <;> exact U_range _
theorem sz_id {n:Int} (h1:-9223372036854775808<=n) (h2:n<9223372036854775808):sz n=n.natAbs:=by
 unfold sz
 split
 ·rw[U_eq,U_eq]; omega
 ·rw[U_eq]; omega
theorem and_low {n:Int} (h1:0<=n) (h2:n<18446744073709551616):bits .and .u64 n 4294967295=n % 4294967296:=by
 have h:=bits_and_u64_nat n.toNat 4294967295 (by omega) (by omega)
 rw[Int.toNat_of_nonneg h1] at h
 refine h.trans ?_
 have:n.toNat &&& 4294967295=n.toNat % 4294967296:=Nat.and_two_pow_sub_one_eq_mod n.toNat 32
 rw[this]; omega
def hiP (p:Int):Int:=p / 18446744073709551616
def mulhi (a b:Int):Int:=U ((U ((U ((Int.fdiv a 4294967296)*(Int.fdiv b 4294967296)))+(Int.fdiv (U ((U ((Int.fdiv a 4294967296)*(bits .and .u64 b 4294967295)))+(Int.fdiv (U ((bits .and .u64 a 4294967295)*(bits .and .u64 b 4294967295))) 4294967296))) 4294967296)))+(Int.fdiv (U ((bits .and .u64 (U ((U ((Int.fdiv a 4294967296)*(bits .and .u64 b 4294967295)))+(Int.fdiv (U ((bits .and .u64 a 4294967295)*(bits .and .u64 b 4294967295))) 4294967296))) 4294967295)+(U ((bits .and .u64 a 4294967295)*(Int.fdiv b 4294967296))))) 4294967296))
def mulhi2 (a b:Int):Int:=U ((U ((U ((Int.fdiv a 4294967296)*(Int.fdiv b 4294967296)))+(Int.fdiv (U ((U ((Int.fdiv a 4294967296)*(bits .and .u64 b 4294967295)))+(Int.fdiv (U ((bits .and .u64 a 4294967295)*(bits .and .u64 b 4294967295))) 4294967296))) 4294967296)))+(Int.fdiv (U ((U ((bits .and .u64 a 4294967295)*(Int.fdiv b 4294967296)))+(bits .and .u64 (U ((U ((Int.fdiv a 4294967296)*(bits .and .u64 b 4294967295)))+(Int.fdiv (U ((bits .and .u64 a 4294967295)*(bits .and .u64 b 4294967295))) 4294967296))) 4294967295))) 4294967296))
theorem mul_lt32 {a b:Int} (ha:0<=a) (hb:0<=b) (ha':a<=4294967295) (hb':b<=4294967295):0<=a*b/\a*b<=18446744065119617025:=
 ⟨Int.mul_nonneg ha hb,Int.le_trans (Int.mul_le_mul ha' hb' hb (by omega)) (by decide)⟩
theorem mulhi_eq {a b:Int} (ha:0<=a/\a<18446744073709551616) (hb:0<=b/\b<18446744073709551616):mulhi a b=hiP (a*b)/\mulhi2 a b=hiP (a*b):=by
 have fd:∀ x:Int,Int.fdiv x 4294967296=x / 4294967296:=fun x=>Int.fdiv_eq_ediv_of_nonneg x (by omega)
 unfold mulhi mulhi2 hiP
 rw[and_low ha.1 ha.2,and_low hb.1 hb.2]
 simp only[fd]
 have ea:a=(a / 4294967296)*4294967296+a % 4294967296:=by omega
 have eb:b=(b / 4294967296)*4294967296+b % 4294967296:=by omega
 generalize hA1:a / 4294967296=A1 at *
 generalize hA0:a % 4294967296=A0 at *
 generalize hB1:b / 4294967296=B1 at *
 generalize hB0:b % 4294967296=B0 at *
 have rA1:0<=A1/\A1<=4294967295:=by omega
 have rA0:0<=A0/\A0<=4294967295:=by omega
 have rB1:0<=B1/\B1<=4294967295:=by omega
 have rB0:0<=B0/\B0<=4294967295:=by omega
 have m11:=mul_lt32 rA1.1 rB1.1 rA1.2 rB1.2
 have m10:=mul_lt32 rA1.1 rB0.1 rA1.2 rB0.2
 have m01:=mul_lt32 rA0.1 rB1.1 rA0.2 rB1.2
 have m00:=mul_lt32 rA0.1 rB0.1 rA0.2 rB0.2
 have ep:a*b=A1*B1*18446744073709551616+(A1*B0+A0*B1)*4294967296+A0*B0:=by rw[ea,eb]; grind
 rw[ep]
 generalize A1*B1=p11 at *
 generalize A1*B0=p10 at *
 generalize A0*B1=p01 at *
 generalize A0*B0=p00 at *
 clear ea eb ep hA1 hA0 hB1 hB0 rA1 rA0 rB1 rB0 ha hb
 rw[U_id (n:=p11) (by omega) (by omega),U_id (n:=p10) (by omega) (by omega),U_id (n:=p01) (by omega) (by omega),U_id (n:=p00) (by omega) (by omega)]
 rw[U_id (n:=p10+p00 / 4294967296) (by omega) (by omega)]
 rw[and_low (n:=p10+p00 / 4294967296) (by omega) (by omega)]
 rw[U_id (n:=(p10+p00 / 4294967296) % 4294967296+p01) (by omega) (by omega),U_id (n:=p01+(p10+p00 / 4294967296) % 4294967296) (by omega) (by omega)]
 rw[U_id (n:=p11+(p10+p00 / 4294967296) / 4294967296) (by omega) (by omega)]
 constructor
 ·rw[U_id (by omega) (by omega)]; omega
 ·rw[U_id (by omega) (by omega)]; omega
def sg2 (a b c d:Int):Int:=if sgn a*sgn b=sgn c*sgn d then sgn a*sgn b*sgn (sz a*sz b-sz c*sz d) else sgn (sgn a*sgn b-sgn c*sgn d)
theorem sg2_eq {a b c d:Int} (ha:-9223372036854775808<=a/\a<9223372036854775808) (hb:-9223372036854775808<=b/\b<9223372036854775808) (hc:-9223372036854775808<=c/\c<9223372036854775808) (hd:-9223372036854775808<=d/\d<9223372036854775808):sg2 a b c d=sgn (a*b-c*d):=by
 have pos:∀ x y:Int,0<x->0<y->0<x*y:=fun x y=>Int.mul_pos
 have key:∀ x y:Int,(x=0\/y=0->x*y=0/\sgn x*sgn y=0)/\(0<x/\0<y\/x<0/\y<0->0<x*y/\sgn x*sgn y=1/\(x.natAbs:Int)*y.natAbs=x*y)/\(0<x/\y<0\/x<0/\0<y->x*y<0/\sgn x*sgn y = -1/\(x.natAbs:Int)*y.natAbs = -(x*y)):=by
  intro x y
  have sp:∀ z:Int,0<z->sgn z=1:=fun z h=>by unfold sgn; rw[if_neg (by omega),if_pos h]
  have sn:∀ z:Int,z<0->sgn z = -1:=fun z h=>by unfold sgn; rw[if_pos h]
  have np:∀ z:Int,0<z->(z.natAbs:Int)=z:=fun z h=>by omega
  have nn:∀ z:Int,z<0->(z.natAbs:Int) = -z:=fun z h=>by omega
  refine ⟨?_,?_,?_⟩
  ·rintro (rfl | rfl)
   ·simp[sgn]
   ·simp[sgn]
  ·rintro (⟨h1,h2⟩ | ⟨h1,h2⟩)
   ·rw[sp x h1,sp y h2,np x h1,np y h2]; exact ⟨Int.mul_pos h1 h2,rfl,rfl⟩
   ·rw[sn x h1,sn y h2,nn x h1,nn y h2]; exact ⟨Int.mul_pos_of_neg_of_neg h1 h2,rfl,by grind⟩
  ·rintro (⟨h1,h2⟩ | ⟨h1,h2⟩)
   ·rw[sp x h1,sn y h2,np x h1,nn y h2]; exact ⟨Int.mul_neg_of_pos_of_neg h1 h2,rfl,by grind⟩
   ·rw[sn x h1,sp y h2,nn x h1,np y h2]; exact ⟨Int.mul_neg_of_neg_of_pos h1 h2,rfl,by grind⟩
 have cs:∀ x y:Int,(x=0\/y=0)\/(0<x/\0<y\/x<0/\y<0)\/(0<x/\y<0\/x<0/\0<y):=by intro x y; omega
 unfold sg2
 rw[sz_id ha.1 ha.2,sz_id hb.1 hb.2,sz_id hc.1 hc.2,sz_id hd.1 hd.2]
 have s0:sgn 0=0:=rfl
 rcases cs a b with h1 | h1 | h1 <;> rcases cs c d with h2 | h2 | h2
 ·obtain ⟨e1,e2⟩:=(key a b).1 h1; obtain ⟨e3,e4⟩:=(key c d).1 h2
  rw[e1,e2,e3,e4]; simp[sgn]
 ·obtain ⟨e1,e2⟩:=(key a b).1 h1; obtain ⟨e3,e4,e5⟩:=(key c d).2.1 h2
  rw[e1,e2,e4,if_neg (by omega)]; unfold sgn; rw[if_pos (by omega),if_pos (by omega)]
 ·obtain ⟨e1,e2⟩:=(key a b).1 h1; obtain ⟨e3,e4,e5⟩:=(key c d).2.2 h2
  rw[e1,e2,e4,if_neg (by omega)]; unfold sgn; rw[if_neg (by omega),if_pos (by omega),if_neg (by omega),if_pos (by omega)]
 ·obtain ⟨e1,e2,e0⟩:=(key a b).2.1 h1; obtain ⟨e3,e4⟩:=(key c d).1 h2
  rw[e3,e2,e4,if_neg (by omega)]; unfold sgn; rw[if_neg (by omega),if_pos (by omega),if_neg (by omega),if_pos (by omega)]
 ·obtain ⟨e1,e2,e0⟩:=(key a b).2.1 h1; obtain ⟨e3,e4,e5⟩:=(key c d).2.1 h2
  rw[e2,e4,e0,e5,if_pos rfl,Int.one_mul]
 ·obtain ⟨e1,e2,e0⟩:=(key a b).2.1 h1; obtain ⟨e3,e4,e5⟩:=(key c d).2.2 h2
  rw[e2,e4,if_neg (by omega)]; unfold sgn; rw[if_neg (by omega),if_pos (by omega),if_neg (by omega),if_pos (by omega)]
 ·obtain ⟨e1,e2,e0⟩:=(key a b).2.2 h1; obtain ⟨e3,e4⟩:=(key c d).1 h2
  rw[e3,e2,e4,if_neg (by omega)]; unfold sgn; rw[if_pos (by omega),if_pos (by omega)]
 ·obtain ⟨e1,e2,e0⟩:=(key a b).2.2 h1; obtain ⟨e3,e4,e5⟩:=(key c d).2.1 h2
  rw[e2,e4,if_neg (by omega)]; unfold sgn; rw[if_pos (by omega),if_pos (by omega)]
 ·obtain ⟨e1,e2,e0⟩:=(key a b).2.2 h1; obtain ⟨e3,e4,e5⟩:=(key c d).2.2 h2
  rw[e2,e4,e0,e5,if_pos rfl]; unfold sgn
  split <;> split <;> (try split) <;> (try split) <;> omega
end Go.Hg
