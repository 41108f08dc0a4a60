/-
  Words and walks for LeaseOne. No condition.
-/
import Derived.Test.YtgkilbojgafldaaDoorLeaseOneY3
set_option linter.unusedSectionVars false
set_option linter.unnecessarySimpa false
set_option linter.unusedSimpArgs false
set_option linter.unusedVariables false
namespace Go.RX
open Go
/-! ### plain arithmetic -/
theorem F4 {n:Int} (h1: -9223372036854775808≤n) (h2:n≤9223372036854775807):IntKind.i64.wrap n=n:=by
 simp only[IntKind.wrap,IntKind.signed,IntKind.bits]
 simp
 omega
theorem cc0 {n:Int} (h1:0≤n) (h2:n≤18446744073709551615):IntKind.u64.wrap n=n:=by
 simp only[IntKind.wrap,IntKind.signed,IntKind.bits]
 simp
 omega
theorem wU8 {n:Int} (h1:0≤n) (h2:n≤255):IntKind.u8.wrap n=n:=by
 simp only[IntKind.wrap,IntKind.signed,IntKind.bits]
 simp
 omega
theorem db4 {n:Int} (h1:0≤n) (h2:n≤4294967295):IntKind.u32.wrap n=n:=by
 simp only[IntKind.wrap,IntKind.signed,IntKind.bits]
 simp
 omega
theorem K2 {n:Int}:n9 .i64 n↔ -9223372036854775808≤n∧n≤9223372036854775807:=Iff.rfl
theorem H9 {n:Int}:n9 .u64 n↔0≤n∧n≤18446744073709551615:=Iff.rfl
theorem cS7 {n:Int}:n9 .u8 n↔0≤n∧n≤255:=Iff.rfl
theorem Ev.step {S R:Type}{step:S→Option (S⊕R)}{s s' :S}{r:R} (h:step s=some (.inl s')) (k:Ev step s' r):Ev step s r:=.next h k
theorem P2 {n k:Nat} (h:n*k≤140737488355328):decide (n*k≤n4)=true:=decide_eq_true h
theorem List.getE {α:Type}{l:List α}{i:Nat} (h:i<l.length):l[i]? =some l[i]:=List.getElem?_eq_getElem h
/-! ### bits of words of 64 -/
theorem aF1 {n:Nat} (h:n<18446744073709551616):IntKind.u64.wrap (n:Int)=n:=cc0 (by omega) (by omega)
theorem aO7 {n:Nat} (h:n<18446744073709551616):(BitVec.ofInt IntKind.u64.bits (n:Int)).toNat=n:=by
 rw[BitVec.ofInt_natCast,show IntKind.u64.bits=64 from rfl,BitVec.toNat_ofNat,Nat.mod_eq_of_lt (by omega)]
theorem cv9 {a b:Nat} (ha:a<18446744073709551616) (hb:b<18446744073709551616):k9 .u64 a b=((a&&&b:Nat):Int):=by
 unfold k9
 rw[BitVec.toNat_and,aO7 ha,aO7 hb,aF1 (Nat.and_lt_two_pow (n:=64) _ (by omega))]
theorem cK0 {a b:Nat} (ha:a<18446744073709551616) (hb:b<18446744073709551616):orI .u64 a b=((a ||| b:Nat):Int):=by
 unfold orI
 rw[BitVec.toNat_or,aO7 ha,aO7 hb,aF1 (Nat.or_lt_two_pow (n:=64) (by omega) (by omega))]
theorem cv6 {k:Nat} (hk:k<64):Y7 .u64 1 k=((2^k:Nat):Int):=by
 unfold Y7
 have e:min (k:Int).toNat IntKind.u64.bits=k:=by simp[IntKind.bits];omega
 have h2:2^k≤2^63:=Nat.pow_le_pow_right (by decide) (by omega)
 rw[e,Int.one_mul,show((2:Int)^k)=((2^k:Nat):Int) by norm_cast,aF1 (by omega)]
theorem cu4 {a k:Nat} (hk:k≤64):n6 .u64 a k=((a/2^k:Nat):Int):=by
 unfold n6
 have e:min (k:Int).toNat IntKind.u64.bits=k:=by simp[IntKind.bits];omega
 rw[e,Int.fdiv_eq_ediv_of_nonneg _ (by exact Int.le_of_lt (Int.pow_pos (by decide)))]
 norm_cast
theorem ixB {k n:Nat} (h:k<n):(decide ((0:Int)≤(k:Int))&&decide ((k:Int)<((n:Nat):Int)))=true:=by simp;omega
theorem M6 {k n:Nat} (h:k<n):decide ((k:Int)<((n:Nat):Int))=true:=by simp;omega
theorem V3 (k:Nat):decide ((0:Int)≤(k:Int))=true:=by simp
theorem geB {k n:Nat} (h:n≤k):decide ((k:Int)<((n:Nat):Int))=false:=by simp;omega
theorem nn0 (k:Nat):(!decide ((k:Int)<0))=true:=by simp
theorem wS {k:Nat} (h:k<9223372036854775807):IntKind.i64.wrap ((k:Int)+1)=((k+1:Nat):Int):=by rw[F4 (by omega) (by omega)];rfl
end Go.RX
