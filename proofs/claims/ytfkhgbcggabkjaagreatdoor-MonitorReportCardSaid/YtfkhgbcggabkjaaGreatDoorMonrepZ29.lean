/- Part 29 of the proof: Num. -/
import Derived.Test.YtfkhgbcggabkjaaGreatDoorMonrepZ28
import Derived.Lib.AtoiAllCases
import Derived.Lib.ItoaLen
namespace Go.Abs
open Go Go.Lib
abbrev abH:=@Int.toNat_natCast
theorem wV :∀(a b:aaA) (acc:Nat) (v:Nat),parseUint10 acc a= .ok v->parseUint10 acc (a++b)=parseUint10 v b
 |[],b,acc,v,h=>by
  simp only[parseUint10,NumEnd.ok.injEq]at h
  subst h;rfl
 |c::a,b,acc,v,h=>by
  simp only[parseUint10,afU]at h⊢
  split at h
  ·split at h
   ·cases h
   ·split at h
    ·cases h
    ·rename_i h1 h2 h3
     rw[if_pos h1,if_neg h2,if_neg h3]
     exact wV a b _ v h
  ·cases h
theorem vO (d:Nat) (h:d<10):(UInt8.ofNat (48+d)).toNat=48+d:=by
 simp[UInt8.toNat_ofNat'];omega
theorem wU (n:Nat) (hn:n<=9223372036854775807):parseUint10 0 (decDigits n)= .ok n:=by
 induction n using Nat.strongRecOn with
 |ind n ih=>
  by_cases h:n<10
  ·rw[decDigits,dif_pos h];simp only[parseUint10,vO n h];rw[if_pos (by omega),if_neg (by omega),if_neg (by omega)];congr 1;omega
  ·rw[decDigits,dif_neg h];have:=ih (n/10) (by omega) (by omega);rw[wV _ _ _ _ this];simp only[parseUint10,vO (n%10) (by omega)];rw[if_pos (by omega),if_neg (by omega),if_neg (by omega)];congr 1;omega
theorem dig_ne (n:Nat):decDigits n≠[]:=by
 rw[decDigits];split<;>simp
theorem dig_head (n:Nat):∃c r,decDigits n=c::r/\48<=c.toNat/\c.toNat<=57:=by
 induction n using Nat.strongRecOn with
 |ind n ih=>
  by_cases h:n<10
  ·rw[decDigits,dif_pos h];exact⟨_,_,rfl,by rw[vO n h];omega,by rw[vO n h];omega⟩
  ·obtain⟨c,r,e,h1,h2⟩:=ih (n/10) (by omega);rw[decDigits,dif_neg h,e];exact⟨c,_,rfl,h1,h2⟩
theorem atoi_itoa (n:Int) (h0:0<=n) (h1:n<=9223372036854775807):Lib.atoiAll (Lib.itoa n)= .ok n:=by
 rw[Lib.itoa,if_neg (by omega)];obtain⟨m,rfl⟩:∃m:Nat,n=m:=⟨n.toNat,by omega⟩;rw[abH];obtain⟨c,r,e,h2,h3⟩:=dig_head m;have hp:=wU m (by omega);rw[e]at hp⊢;rw[atoiAll_plain c r (by omega) (by omega)];unfold parseMag;rw[if_neg (by simp),hp];unfold signless;simp only;rw[if_neg (by omega)]
theorem qT (n:Int) (h0:0<=n) (h1:n<=9999999):(Lib.itoa n).length<=7:=by
 rw[Lib.itoa,if_neg (by omega)];obtain⟨m,rfl⟩:∃m:Nat,n=m:=⟨n.toNat,by omega⟩;rw[abH]
 have:∀(k m:Nat),m<10^(k+1)->(decDigits m).length<=k+1:=by
  intro k
  induction k with
  |zero=>intro m h;rw[decDigits,dif_pos (by omega)];simp
  |succ k ih=>
   intro m h;by_cases h':m<10
   ·rw[decDigits,dif_pos h'];simp
   ·rw[decDigits,dif_neg h',aaF];have:=ih (m/10) (by rw[agI]at h;omega);simp only[aaN,abB];omega
 exact this 6 m (by omega)
theorem nN (n:Int) (h0:0<=n) (h1:n<=9223372036854775807):aAS (Lib.itoa n)=some (n,false):=by
 unfold aAS;have:=Lib.itoa_length_le n (by omega) h1;rw[if_pos (by omega),atoi_itoa n h0 h1]
theorem nM (s:aaA) (h:s.length<=281474976710656):∃v b,aAS s=some (v,b)/\ -9223372036854775808<=v/\v<=9223372036854775807:=by
 unfold aAS;rw[if_pos h]
 cases e:Lib.atoiAll s with
 |ok v=>exact⟨v,false,rfl,atoiAll_bounds e⟩
 |range=>exact⟨_,true,rfl,atoiSat_bounds s⟩
 |_=>exact⟨0,true,rfl,by omega,by omega⟩
end Go.Abs
