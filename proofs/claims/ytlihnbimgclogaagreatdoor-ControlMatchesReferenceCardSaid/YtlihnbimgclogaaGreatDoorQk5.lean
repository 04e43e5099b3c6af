/- Helpers for ControlMatchesReference. Conditions: none. -/
import Derived.Test.YtlihnbimgclogaaGreatDoorQk4
noncomputable section
namespace Go.Proofs.YtlihnbimgclogaaGreatDoor
open Go.Sx
set_option maxHeartbeats 4000000 in
def XQ (s:jo):T (Rd jo):=
 .br (decide (s.k<s.n)) (.req (0≤s.k∧s.k<(s.l.length:Int)) (.req (0≤(gi s.l s.k)∧(gi s.l s.k)<(16:Int)) (.br ((gi s.l s.k)==0) (.req (0+(s.kL.length)=s.kL.length∧((s.kL.length+List.length ([s.i]):Nat):Int)*8≤2^47∧((s.kL.length+List.length ([s.i]):Nat):Int)<2^62) (.req (0≤s.i∧s.i<((s.sums.length:Nat):Int)) (.req (0≤(0:Int)∧0<(s.alive.length:Int)) (.req (s.i.toNat<s.sums.length) (.req (0≤s.i∧s.i<((s.sums.length:Nat):Int)) (.req (s.i.toNat<s.sums.length) (.req (0=0∧(s.kL.length+List.length ([s.i]))=List.length (s.kL++([s.i]))) (.rl s.kK (.rl s.kJ (.rl s.kH (.rl s.kG (.rl s.kF (.rl s.kE (.rl s.kD (.rl s.kC (.rl s.kz (.rl s.fA (.rl s.eY (.rl s.eX (.rl s.eU (.rl s.eP (.rl s.eG (.req (0=0∧(s.sums.length)=List.length (s.sums.set s.i.toNat (aSe ((s.sums.getD s.i.toNat (Ty.dflt aSg))+(gi s.alive (0:Int)))))) (.rl s.levels (.ok (.next {s with k:=(aSe (s.k+1)),kL:=(s.kL++([s.i])),sums:=(s.sums.set s.i.toNat (aSe ((s.sums.getD s.i.toNat (Ty.dflt aSg))+(gi s.alive (0:Int)))))})))))))))))))))))))))))))) (.br ((gi s.l s.k)==1) (.req (0+(s.kK.length)=s.kK.length∧((s.kK.length+List.length ([s.i]):Nat):Int)*8≤2^47∧((s.kK.length+List.length ([s.i]):Nat):Int)<2^62) (.req (0≤s.i∧s.i<((s.sums.length:Nat):Int)) (.req (0≤(1:Int)∧1<(s.alive.length:Int)) (.req (s.i.toNat<s.sums.length) (.req (0≤s.i∧s.i<((s.sums.length:Nat):Int)) (.req (s.i.toNat<s.sums.length) (.rl s.kL (.req (0=0∧(s.kK.length+List.length ([s.i]))=List.length (s.kK++([s.i]))) (.rl s.kJ (.rl s.kH (.rl s.kG (.rl s.kF (.rl s.kE (.rl s.kD (.rl s.kC (.rl s.kz (.rl s.fA (.rl s.eY (.rl s.eX (.rl s.eU (.rl s.eP (.rl s.eG (.req (0=0∧(s.sums.length)=List.length (s.sums.set s.i.toNat (aSe ((s.sums.getD s.i.toNat (Ty.dflt aSg))+(gi s.alive (1:Int)))))) (.rl s.levels (.ok (.next {s with k:=(aSe (s.k+1)),kK:=(s.kK++([s.i])),sums:=(s.sums.set s.i.toNat (aSe ((s.sums.getD s.i.toNat (Ty.dflt aSg))+(gi s.alive (1:Int)))))})))))))))))))))))))))))))) (.br ((gi s.l s.k)==2) (.req (0+(s.kJ.length)=s.kJ.length∧((s.kJ.length+List.length ([s.i]):Nat):Int)*8≤2^47∧((s.kJ.length+List.length ([s.i]):Nat):Int)<2^62) (.req (0≤s.i∧s.i<((s.sums.length:Nat):Int)) (.req (0≤(2:Int)∧2<(s.alive.length:Int)) (.req (s.i.toNat<s.sums.length) (.req (0≤s.i∧s.i<((s.sums.length:Nat):Int)) (.req (s.i.toNat<s.sums.length) (.rl s.kL (.rl s.kK (.req (0=0∧(s.kJ.length+List.length ([s.i]))=List.length (s.kJ++([s.i]))) (.rl s.kH (.rl s.kG (.rl s.kF (.rl s.kE (.rl s.kD (.rl s.kC (.rl s.kz (.rl s.fA (.rl s.eY (.rl s.eX (.rl s.eU (.rl s.eP (.rl s.eG (.req (0=0∧(s.sums.length)=List.length (s.sums.set s.i.toNat (aSe ((s.sums.getD s.i.toNat (Ty.dflt aSg))+(gi s.alive (2:Int)))))) (.rl s.levels (.ok (.next {s with k:=(aSe (s.k+1)),kJ:=(s.kJ++([s.i])),sums:=(s.sums.set s.i.toNat (aSe ((s.sums.getD s.i.toNat (Ty.dflt aSg))+(gi s.alive (2:Int)))))})))))))))))))))))))))))))) (.br ((gi s.l s.k)==3) (.req (0+(s.kH.length)=s.kH.length∧((s.kH.length+List.length ([s.i]):Nat):Int)*8≤2^47∧((s.kH.length+List.length ([s.i]):Nat):Int)<2^62) (.req (0≤s.i∧s.i<((s.sums.length:Nat):Int)) (.req (0≤(3:Int)∧3<(s.alive.length:Int)) (.req (s.i.toNat<s.sums.length) (.req (0≤s.i∧s.i<((s.sums.length:Nat):Int)) (.req (s.i.toNat<s.sums.length) (.rl s.kL (.rl s.kK (.rl s.kJ (.req (0=0∧(s.kH.length+List.length ([s.i]))=List.length (s.kH++([s.i]))) (.rl s.kG (.rl s.kF (.rl s.kE (.rl s.kD (.rl s.kC (.rl s.kz (.rl s.fA (.rl s.eY (.rl s.eX (.rl s.eU (.rl s.eP (.rl s.eG (.req (0=0∧(s.sums.length)=List.length (s.sums.set s.i.toNat (aSe ((s.sums.getD s.i.toNat (Ty.dflt aSg))+(gi s.alive (3:Int)))))) (.rl s.levels (.ok (.next {s with k:=(aSe (s.k+1)),kH:=(s.kH++([s.i])),sums:=(s.sums.set s.i.toNat (aSe ((s.sums.getD s.i.toNat (Ty.dflt aSg))+(gi s.alive (3:Int)))))})))))))))))))))))))))))))) (.br ((gi s.l s.k)==4) (.req (0+(s.kG.length)=s.kG.length∧((s.kG.length+List.length ([s.i]):Nat):Int)*8≤2^47∧((s.kG.length+List.length ([s.i]):Nat):Int)<2^62) (.req (0≤s.i∧s.i<((s.sums.length:Nat):Int)) (.req (0≤(4:Int)∧4<(s.alive.length:Int)) (.req (s.i.toNat<s.sums.length) (.req (0≤s.i∧s.i<((s.sums.length:Nat):Int)) (.req (s.i.toNat<s.sums.length) (.rl s.kL (.rl s.kK (.rl s.kJ (.rl s.kH (.req (0=0∧(s.kG.length+List.length ([s.i]))=List.length (s.kG++([s.i]))) (.rl s.kF (.rl s.kE (.rl s.kD (.rl s.kC (.rl s.kz (.rl s.fA (.rl s.eY (.rl s.eX (.rl s.eU (.rl s.eP (.rl s.eG (.req (0=0∧(s.sums.length)=List.length (s.sums.set s.i.toNat (aSe ((s.sums.getD s.i.toNat (Ty.dflt aSg))+(gi s.alive (4:Int)))))) (.rl s.levels (.ok (.next {s with k:=(aSe (s.k+1)),kG:=(s.kG++([s.i])),sums:=(s.sums.set s.i.toNat (aSe ((s.sums.getD s.i.toNat (Ty.dflt aSg))+(gi s.alive (4:Int)))))})))))))))))))))))))))))))) (.br ((gi s.l s.k)==5) (.req (0+(s.kF.length)=s.kF.length∧((s.kF.length+List.length ([s.i]):Nat):Int)*8≤2^47∧((s.kF.length+List.length ([s.i]):Nat):Int)<2^62) (.req (0≤s.i∧s.i<((s.sums.length:Nat):Int)) (.req (0≤(5:Int)∧5<(s.alive.length:Int)) (.req (s.i.toNat<s.sums.length) (.req (0≤s.i∧s.i<((s.sums.length:Nat):Int)) (.req (s.i.toNat<s.sums.length) (.rl s.kL (.rl s.kK (.rl s.kJ (.rl s.kH (.rl s.kG (.req (0=0∧(s.kF.length+List.length ([s.i]))=List.length (s.kF++([s.i]))) (.rl s.kE (.rl s.kD (.rl s.kC (.rl s.kz (.rl s.fA (.rl s.eY (.rl s.eX (.rl s.eU (.rl s.eP (.rl s.eG (.req (0=0∧(s.sums.length)=List.length (s.sums.set s.i.toNat (aSe ((s.sums.getD s.i.toNat (Ty.dflt aSg))+(gi s.alive (5:Int)))))) (.rl s.levels (.ok (.next {s with k:=(aSe (s.k+1)),kF:=(s.kF++([s.i])),sums:=(s.sums.set s.i.toNat (aSe ((s.sums.getD s.i.toNat (Ty.dflt aSg))+(gi s.alive (5:Int)))))})))))))))))))))))))))))))) (.br ((gi s.l s.k)==6) (.req (0+(s.kE.length)=s.kE.length∧((s.kE.length+List.length ([s.i]):Nat):Int)*8≤2^47∧((s.kE.length+List.length ([s.i]):Nat):Int)<2^62) (.req (0≤s.i∧s.i<((s.sums.length:Nat):Int)) (.req (0≤(6:Int)∧6<(s.alive.length:Int)) (.req (s.i.toNat<s.sums.length) (.req (0≤s.i∧s.i<((s.sums.length:Nat):Int)) (.req (s.i.toNat<s.sums.length) (.rl s.kL (.rl s.kK (.rl s.kJ (.rl s.kH (.rl s.kG (.rl s.kF (.req (0=0∧(s.kE.length+List.length ([s.i]))=List.length (s.kE++([s.i]))) (.rl s.kD (.rl s.kC (.rl s.kz (.rl s.fA (.rl s.eY (.rl s.eX (.rl s.eU (.rl s.eP (.rl s.eG (.req (0=0∧(s.sums.length)=List.length (s.sums.set s.i.toNat (aSe ((s.sums.getD s.i.toNat (Ty.dflt aSg))+(gi s.alive (6:Int)))))) (.rl s.levels (.ok (.next {s with k:=(aSe (s.k+1)),kE:=(s.kE++([s.i])),sums:=(s.sums.set s.i.toNat (aSe ((s.sums.getD s.i.toNat (Ty.dflt aSg))+(gi s.alive (6:Int)))))})))))))))))))))))))))))))) (.br ((gi s.l s.k)==7) (.req (0+(s.kD.length)=s.kD.length∧((s.kD.length+List.length ([s.i]):Nat):Int)*8≤2^47∧((s.kD.length+List.length ([s.i]):Nat):Int)<2^62) (.req (0≤s.i∧s.i<((s.sums.length:Nat):Int)) (.req (0≤(7:Int)∧7<(s.alive.length:Int)) (.req (s.i.toNat<s.sums.length) (.req (0≤s.i∧s.i<((s.sums.length:Nat):Int)) (.req (s.i.toNat<s.sums.length) (.rl s.kL (.rl s.kK (.rl s.kJ (.rl s.kH (.rl s.kG (.rl s.kF (.rl s.kE (.req (0=0∧(s.kD.length+List.length ([s.i]))=List.length (s.kD++([s.i]))) (.rl s.kC (.rl s.kz (.rl s.fA (.rl s.eY (.rl s.eX (.rl s.eU (.rl s.eP (.rl s.eG (.req (0=0∧(s.sums.length)=List.length (s.sums.set s.i.toNat (aSe ((s.sums.getD s.i.toNat (Ty.dflt aSg))+(gi s.alive (7:Int)))))) (.rl s.levels (.ok (.next {s with k:=(aSe (s.k+1)),kD:=(s.kD++([s.i])),sums:=(s.sums.set s.i.toNat (aSe ((s.sums.getD s.i.toNat (Ty.dflt aSg))+(gi s.alive (7:Int)))))})))))))))))))))))))))))))) (.br ((gi s.l s.k)==8) (.req (0+(s.kC.length)=s.kC.length∧((s.kC.length+List.length ([s.i]):Nat):Int)*8≤2^47∧((s.kC.length+List.length ([s.i]):Nat):Int)<2^62) (.req (0≤s.i∧s.i<((s.sums.length:Nat):Int)) (.req (0≤(8:Int)∧8<(s.alive.length:Int)) (.req (s.i.toNat<s.sums.length) (.req (0≤s.i∧s.i<((s.sums.length:Nat):Int)) (.req (s.i.toNat<s.sums.length) (.rl s.kL (.rl s.kK (.rl s.kJ (.rl s.kH (.rl s.kG (.rl s.kF (.rl s.kE (.rl s.kD (.req (0=0∧(s.kC.length+List.length ([s.i]))=List.length (s.kC++([s.i]))) (.rl s.kz (.rl s.fA (.rl s.eY (.rl s.eX (.rl s.eU (.rl s.eP (.rl s.eG (.req (0=0∧(s.sums.length)=List.length (s.sums.set s.i.toNat (aSe ((s.sums.getD s.i.toNat (Ty.dflt aSg))+(gi s.alive (8:Int)))))) (.rl s.levels (.ok (.next {s with k:=(aSe (s.k+1)),kC:=(s.kC++([s.i])),sums:=(s.sums.set s.i.toNat (aSe ((s.sums.getD s.i.toNat (Ty.dflt aSg))+(gi s.alive (8:Int)))))})))))))))))))))))))))))))) (.br ((gi s.l s.k)==9) (.req (0+(s.kz.length)=s.kz.length∧((s.kz.length+List.length ([s.i]):Nat):Int)*8≤2^47∧((s.kz.length+List.length ([s.i]):Nat):Int)<2^62) (.req (0≤s.i∧s.i<((s.sums.length:Nat):Int)) (.req (0≤(9:Int)∧9<(s.alive.length:Int)) (.req (s.i.toNat<s.sums.length) (.req (0≤s.i∧s.i<((s.sums.length:Nat):Int)) (.req (s.i.toNat<s.sums.length) (.rl s.kL (.rl s.kK (.rl s.kJ (.rl s.kH (.rl s.kG (.rl s.kF (.rl s.kE (.rl s.kD (.rl s.kC (.req (0=0∧(s.kz.length+List.length ([s.i]))=List.length (s.kz++([s.i]))) (.rl s.fA (.rl s.eY (.rl s.eX (.rl s.eU (.rl s.eP (.rl s.eG (.req (0=0∧(s.sums.length)=List.length (s.sums.set s.i.toNat (aSe ((s.sums.getD s.i.toNat (Ty.dflt aSg))+(gi s.alive (9:Int)))))) (.rl s.levels (.ok (.next {s with k:=(aSe (s.k+1)),kz:=(s.kz++([s.i])),sums:=(s.sums.set s.i.toNat (aSe ((s.sums.getD s.i.toNat (Ty.dflt aSg))+(gi s.alive (9:Int)))))})))))))))))))))))))))))))) (.br ((gi s.l s.k)==10) (.req (0+(s.fA.length)=s.fA.length∧((s.fA.length+List.length ([s.i]):Nat):Int)*8≤2^47∧((s.fA.length+List.length ([s.i]):Nat):Int)<2^62) (.req (0≤s.i∧s.i<((s.sums.length:Nat):Int)) (.req (0≤(10:Int)∧10<(s.alive.length:Int)) (.req (s.i.toNat<s.sums.length) (.req (0≤s.i∧s.i<((s.sums.length:Nat):Int)) (.req (s.i.toNat<s.sums.length) (.rl s.kL (.rl s.kK (.rl s.kJ (.rl s.kH (.rl s.kG (.rl s.kF (.rl s.kE (.rl s.kD (.rl s.kC (.rl s.kz (.req (0=0∧(s.fA.length+List.length ([s.i]))=List.length (s.fA++([s.i]))) (.rl s.eY (.rl s.eX (.rl s.eU (.rl s.eP (.rl s.eG (.req (0=0∧(s.sums.length)=List.length (s.sums.set s.i.toNat (aSe ((s.sums.getD s.i.toNat (Ty.dflt aSg))+(gi s.alive (10:Int)))))) (.rl s.levels (.ok (.next {s with k:=(aSe (s.k+1)),fA:=(s.fA++([s.i])),sums:=(s.sums.set s.i.toNat (aSe ((s.sums.getD s.i.toNat (Ty.dflt aSg))+(gi s.alive (10:Int)))))})))))))))))))))))))))))))) (.br ((gi s.l s.k)==11) (.req (0+(s.eY.length)=s.eY.length∧((s.eY.length+List.length ([s.i]):Nat):Int)*8≤2^47∧((s.eY.length+List.length ([s.i]):Nat):Int)<2^62) (.req (0≤s.i∧s.i<((s.sums.length:Nat):Int)) (.req (0≤(11:Int)∧11<(s.alive.length:Int)) (.req (s.i.toNat<s.sums.length) (.req (0≤s.i∧s.i<((s.sums.length:Nat):Int)) (.req (s.i.toNat<s.sums.length) (.rl s.kL (.rl s.kK (.rl s.kJ (.rl s.kH (.rl s.kG (.rl s.kF (.rl s.kE (.rl s.kD (.rl s.kC (.rl s.kz (.rl s.fA (.req (0=0∧(s.eY.length+List.length ([s.i]))=List.length (s.eY++([s.i]))) (.rl s.eX (.rl s.eU (.rl s.eP (.rl s.eG (.req (0=0∧(s.sums.length)=List.length (s.sums.set s.i.toNat (aSe ((s.sums.getD s.i.toNat (Ty.dflt aSg))+(gi s.alive (11:Int)))))) (.rl s.levels (.ok (.next {s with k:=(aSe (s.k+1)),eY:=(s.eY++([s.i])),sums:=(s.sums.set s.i.toNat (aSe ((s.sums.getD s.i.toNat (Ty.dflt aSg))+(gi s.alive (11:Int)))))})))))))))))))))))))))))))) (.br ((gi s.l s.k)==12) (.req (0+(s.eX.length)=s.eX.length∧((s.eX.length+List.length ([s.i]):Nat):Int)*8≤2^47∧((s.eX.length+List.length ([s.i]):Nat):Int)<2^62) (.req (0≤s.i∧s.i<((s.sums.length:Nat):Int)) (.req (0≤(12:Int)∧12<(s.alive.length:Int)) (.req (s.i.toNat<s.sums.length) (.req (0≤s.i∧s.i<((s.sums.length:Nat):Int)) (.req (s.i.toNat<s.sums.length) (.rl s.kL (.rl s.kK (.rl s.kJ (.rl s.kH (.rl s.kG (.rl s.kF (.rl s.kE (.rl s.kD (.rl s.kC (.rl s.kz (.rl s.fA (.rl s.eY (.req (0=0∧(s.eX.length+List.length ([s.i]))=List.length (s.eX++([s.i]))) (.rl s.eU (.rl s.eP (.rl s.eG (.req (0=0∧(s.sums.length)=List.length (s.sums.set s.i.toNat (aSe ((s.sums.getD s.i.toNat (Ty.dflt aSg))+(gi s.alive (12:Int)))))) (.rl s.levels (.ok (.next {s with k:=(aSe (s.k+1)),eX:=(s.eX++([s.i])),sums:=(s.sums.set s.i.toNat (aSe ((s.sums.getD s.i.toNat (Ty.dflt aSg))+(gi s.alive (12:Int)))))})))))))))))))))))))))))))) (.br ((gi s.l s.k)==13) (.req (0+(s.eU.length)=s.eU.length∧((s.eU.length+List.length ([s.i]):Nat):Int)*8≤2^47∧((s.eU.length+List.length ([s.i]):Nat):Int)<2^62) (.req (0≤s.i∧s.i<((s.sums.length:Nat):Int)) (.req (0≤(13:Int)∧13<(s.alive.length:Int)) (.req (s.i.toNat<s.sums.length) (.req (0≤s.i∧s.i<((s.sums.length:Nat):Int)) (.req (s.i.toNat<s.sums.length) (.rl s.kL (.rl s.kK (.rl s.kJ (.rl s.kH (.rl s.kG (.rl s.kF (.rl s.kE (.rl s.kD (.rl s.kC (.rl s.kz (.rl s.fA (.rl s.eY (.rl s.eX (.req (0=0∧(s.eU.length+List.length ([s.i]))=List.length (s.eU++([s.i]))) (.rl s.eP (.rl s.eG (.req (0=0∧(s.sums.length)=List.length (s.sums.set s.i.toNat (aSe ((s.sums.getD s.i.toNat (Ty.dflt aSg))+(gi s.alive (13:Int)))))) (.rl s.levels (.ok (.next {s with k:=(aSe (s.k+1)),eU:=(s.eU++([s.i])),sums:=(s.sums.set s.i.toNat (aSe ((s.sums.getD s.i.toNat (Ty.dflt aSg))+(gi s.alive (13:Int)))))})))))))))))))))))))))))))) (.br ((gi s.l s.k)==14) (.req (0+(s.eP.length)=s.eP.length∧((s.eP.length+List.length ([s.i]):Nat):Int)*8≤2^47∧((s.eP.length+List.length ([s.i]):Nat):Int)<2^62) (.req (0≤s.i∧s.i<((s.sums.length:Nat):Int)) (.req (0≤(14:Int)∧14<(s.alive.length:Int)) (.req (s.i.toNat<s.sums.length) (.req (0≤s.i∧s.i<((s.sums.length:Nat):Int)) (.req (s.i.toNat<s.sums.length) (.rl s.kL (.rl s.kK (.rl s.kJ (.rl s.kH (.rl s.kG (.rl s.kF (.rl s.kE (.rl s.kD (.rl s.kC (.rl s.kz (.rl s.fA (.rl s.eY (.rl s.eX (.rl s.eU (.req (0=0∧(s.eP.length+List.length ([s.i]))=List.length (s.eP++([s.i]))) (.rl s.eG (.req (0=0∧(s.sums.length)=List.length (s.sums.set s.i.toNat (aSe ((s.sums.getD s.i.toNat (Ty.dflt aSg))+(gi s.alive (14:Int)))))) (.rl s.levels (.ok (.next {s with k:=(aSe (s.k+1)),eP:=(s.eP++([s.i])),sums:=(s.sums.set s.i.toNat (aSe ((s.sums.getD s.i.toNat (Ty.dflt aSg))+(gi s.alive (14:Int)))))})))))))))))))))))))))))))) (.req (0+(s.eG.length)=s.eG.length∧((s.eG.length+List.length ([s.i]):Nat):Int)*8≤2^47∧((s.eG.length+List.length ([s.i]):Nat):Int)<2^62) (.req (0≤s.i∧s.i<((s.sums.length:Nat):Int)) (.req (0≤(15:Int)∧15<(s.alive.length:Int)) (.req (s.i.toNat<s.sums.length) (.req (0≤s.i∧s.i<((s.sums.length:Nat):Int)) (.req (s.i.toNat<s.sums.length) (.rl s.kL (.rl s.kK (.rl s.kJ (.rl s.kH (.rl s.kG (.rl s.kF (.rl s.kE (.rl s.kD (.rl s.kC (.rl s.kz (.rl s.fA (.rl s.eY (.rl s.eX (.rl s.eU (.rl s.eP (.req (0=0∧(s.eG.length+List.length ([s.i]))=List.length (s.eG++([s.i]))) (.req (0=0∧(s.sums.length)=List.length (s.sums.set s.i.toNat (aSe ((s.sums.getD s.i.toNat (Ty.dflt aSg))+(gi s.alive (15:Int)))))) (.rl s.levels (.ok (.next {s with k:=(aSe (s.k+1)),eG:=(s.eG++([s.i])),sums:=(s.sums.set s.i.toNat (aSe ((s.sums.getD s.i.toNat (Ty.dflt aSg))+(gi s.alive (15:Int)))))}))))))))))))))))))))))))))))))))))))))))))) (.rl s.kL (.rl s.kK (.rl s.kJ (.rl s.kH (.rl s.kG (.rl s.kF (.rl s.kE (.rl s.kD (.rl s.kC (.rl s.kz (.rl s.fA (.rl s.eY (.rl s.eX (.rl s.eU (.rl s.eP (.rl s.eG (.rl s.sums (.rl s.levels (.ok (.stop (.exit 2) s))))))))))))))))))))
abbrev ahH (s:jo):=(XQ s).rd s
def ig (s:jo):List (List Int):=[s.kL,s.kK,s.kJ,s.kH,s.kG,s.kF,s.kE,s.kD,s.kC,s.kz,s.fA,s.eY,s.eX,s.eU,s.eP,s.eG]
def aaJ (s:jo):Prop:=s.k=0∧(∀o∈ig s,(o.length:Int)≤1000000)∧(0≤gi s.sums s.i∧gi s.sums s.i≤1000)∧s.n=(s.l.length:Int)∧s.n≤1000∧(∀m∈s.l,0≤m∧m<16∧m<(s.alive.length:Int))∧(∀a∈s.alive,0≤a∧a≤80)∧(0≤s.i∧s.i<(s.sums.length:Int))
def yC (s:jo):Prop:=(0≤s.k∧s.k≤s.n)∧(∀o∈ig s,(o.length:Int)≤1000000+s.k)∧(0≤gi s.sums s.i∧gi s.sums s.i≤1000+80*s.k)∧s.n=(s.l.length:Int)∧s.n≤1000∧(∀m∈s.l,0≤m∧m<16∧m<(s.alive.length:Int))∧(∀a∈s.alive,0≤a∧a≤80)∧(0≤s.i∧s.i<(s.sums.length:Int))
def zk (s:jo):Nat:=(s.n-s.k).toNat
def atw (x:Ex) (_ s':jo):Prop:=x=.exit 2∧s'.k=s'.n
theorem aMD:∀s,aaJ s→yC s:=by
 intro s h;obtain ⟨h0,h1,h2,h3⟩:=h;exact ⟨by have:=h3.1;omega,λo ho=>by have:=h1 o ho;omega,by omega,h3⟩
theorem iM (s:jo) (hI:yC s) (c1:s.k<s.n):0≤gi s.l s.k∧gi s.l s.k<16∧gi s.l s.k<(s.alive.length:Int):=by
 obtain ⟨⟨h0,h1⟩,h2,h3,h4,h5,h6,h7,h8⟩:=hI;exact h6 _ (by rw [jA (by omega)];exact List.getElem_mem _)
theorem apN (s s':jo) (j:Nat) (hI:yC s) (c1:s.k<s.n) (em:gi s.l s.k=(j:Int)) (hO:ig s'=(ig s).modify j (·++[s.i])) (hs:s'.sums=s.sums.set s.i.toNat (aSe (s.sums.getD s.i.toNat 0+gi s.alive (j:Int)))) (hk:s'.k=aSe (s.k+1)) (hn:s'.n=s.n) (hl:s'.l=s.l) (ha:s'.alive=s.alive) (hi:s'.i=s.i):
  (yC s'∧zk s'<zk s)∧(λs:jo=>(yF s.i (ig s) (s.l.drop s.k.toNat),s.sums.set s.i.toNat (s.sums.getD s.i.toNat 0+smA s.alive (s.l.drop s.k.toNat)))) s'=(λs:jo=>(yF s.i (ig s) (s.l.drop s.k.toNat),s.sums.set s.i.toNat (s.sums.getD s.i.toNat 0+smA s.alive (s.l.drop s.k.toNat)))) s:=by
 have hm:=iM s hI c1
 obtain ⟨⟨h0,h1⟩,h2,⟨h3,h3'⟩,h4,h5,h6,h7,h8⟩:=hI;rw [aH (x:=s.k+1)] at hk
 have hav:=h7 (gi s.alive (j:Int)) (by rw [jA (by omega)];exact List.getElem_mem _)
 have hgi:gi s.sums s.i=s.sums.getD s.i.toNat 0:=rfl
 rw [aH (x:=s.sums.getD s.i.toNat 0+gi s.alive (j:Int))] at hs
 have hs2:gi s'.sums s'.i=s.sums.getD s.i.toNat 0+gi s.alive (j:Int):=by
  rw [hi,hs]
  show List.getD _ _ _=_
  simp [List.getD,show s.i.toNat<s.sums.length by omega]
 refine ⟨⟨⟨⟨by omega,by omega⟩,λo ho=>?_,⟨by rw [hs2];omega,by rw [hs2];omega⟩,by rw [hn,hl];exact h4,by omega,by rw [hl,ha];exact h6,by rw [ha];exact h7,⟨by rw [hi];omega,by rw [hi,hs,List.length_set];omega⟩⟩,by simp only [zk];omega⟩,?_⟩
 ·rw [hO] at ho
  obtain ⟨k,hk2,rfl⟩:=List.mem_iff_getElem.1 ho;rw [List.length_modify] at hk2
  have:=h2 (ig s)[k] (List.getElem_mem _)
  rw [List.getElem_modify];split
  ·simp only [List.length_append,List.length_cons,List.length_nil];omega
  ·omega
 ·simp only
  rw [hO,hs,hl,ha,hi,hk,(gi_step h0 (show s.k<s.l.length by omega)).1,Ak,Yr,em,Int.toNat_natCast,Yx (by omega)]
theorem jQ (s s':jo) (j:Nat) (hI:yC s) (c1:s.k<s.n) (em:gi s.l s.k=(j:Int)) (hO:ig s'=(ig s).modify j (·++[s.i])) (hs:s'.sums=s.sums.set s.i.toNat (aSe (s.sums.getD s.i.toNat 0+gi s.alive (j:Int)))) (hk:s'.k=aSe (s.k+1)) (hn:s'.n=s.n) (hl:s'.l=s.l) (ha:s'.alive=s.alive) (hi:s'.i=s.i):bJ (λs'=>yC s'∧zk s'<zk s) (λx s'=>atw x s s') (.next s'):=(apN s s' j hI c1 em hO hs hk hn hl ha hi).1
theorem jP (s s':jo) (j:Nat) (hI:yC s) (c1:s.k<s.n) (em:gi s.l s.k=(j:Int)) (hO:ig s'=(ig s).modify j (·++[s.i])) (hs:s'.sums=s.sums.set s.i.toNat (aSe (s.sums.getD s.i.toNat 0+gi s.alive (j:Int)))) (hk:s'.k=aSe (s.k+1)) (hn:s'.n=s.n) (hl:s'.l=s.l) (ha:s'.alive=s.alive) (hi:s'.i=s.i):bJ (λs'=>(λs:jo=>(yF s.i (ig s) (s.l.drop s.k.toNat),s.sums.set s.i.toNat (s.sums.getD s.i.toNat 0+smA s.alive (s.l.drop s.k.toNat)))) s'=(λs:jo=>(yF s.i (ig s) (s.l.drop s.k.toNat),s.sums.set s.i.toNat (s.sums.getD s.i.toNat 0+smA s.alive (s.l.drop s.k.toNat)))) s) (λ_ s'=>(λs:jo=>(yF s.i (ig s) (s.l.drop s.k.toNat),s.sums.set s.i.toNat (s.sums.getD s.i.toNat 0+smA s.alive (s.l.drop s.k.toNat)))) s'=(λs:jo=>(yF s.i (ig s) (s.l.drop s.k.toNat),s.sums.set s.i.toNat (s.sums.getD s.i.toNat 0+smA s.alive (s.l.drop s.k.toNat)))) s) (.next s'):=(apN s s' j hI c1 em hO hs hk hn hl ha hi).2
theorem apP (s : jo) (hI:yC s):bJ (λs'=>yC s'∧zk s'<zk s) (λx s'=>atw x s s') (ahH s):=by
 unfold ahH XQ;dsimp only [T.rd,T.rl];refine ai (λc1=>?_) (λc1=>?_)
 ·refine ai (λc2=>?_) (λc2=>?_)
  ·have em:gi s.l s.k=0:=by simpa using c2
   exact jQ s _ 0 hI (by simpa using c1) em rfl rfl rfl rfl rfl rfl rfl
  ·refine ai (λc3=>?_) (λc3=>?_)
   ·have em:gi s.l s.k=1:=by simpa using c3
    exact jQ s _ 1 hI (by simpa using c1) em rfl rfl rfl rfl rfl rfl rfl
   ·refine ai (λc4=>?_) (λc4=>?_)
    ·have em:gi s.l s.k=2:=by simpa using c4
     exact jQ s _ 2 hI (by simpa using c1) em rfl rfl rfl rfl rfl rfl rfl
    ·refine ai (λc5=>?_) (λc5=>?_)
     ·have em:gi s.l s.k=3:=by simpa using c5
      exact jQ s _ 3 hI (by simpa using c1) em rfl rfl rfl rfl rfl rfl rfl
     ·refine ai (λc6=>?_) (λc6=>?_)
      ·have em:gi s.l s.k=4:=by simpa using c6
       exact jQ s _ 4 hI (by simpa using c1) em rfl rfl rfl rfl rfl rfl rfl
      ·refine ai (λc7=>?_) (λc7=>?_)
       ·have em:gi s.l s.k=5:=by simpa using c7
        exact jQ s _ 5 hI (by simpa using c1) em rfl rfl rfl rfl rfl rfl rfl
       ·refine ai (λc8=>?_) (λc8=>?_)
        ·have em:gi s.l s.k=6:=by simpa using c8
         exact jQ s _ 6 hI (by simpa using c1) em rfl rfl rfl rfl rfl rfl rfl
        ·refine ai (λc9=>?_) (λc9=>?_)
         ·have em:gi s.l s.k=7:=by simpa using c9
          exact jQ s _ 7 hI (by simpa using c1) em rfl rfl rfl rfl rfl rfl rfl
         ·refine ai (λc10=>?_) (λc10=>?_)
          ·have em:gi s.l s.k=8:=by simpa using c10
           exact jQ s _ 8 hI (by simpa using c1) em rfl rfl rfl rfl rfl rfl rfl
          ·refine ai (λc11=>?_) (λc11=>?_)
           ·have em:gi s.l s.k=9:=by simpa using c11
            exact jQ s _ 9 hI (by simpa using c1) em rfl rfl rfl rfl rfl rfl rfl
           ·refine ai (λc12=>?_) (λc12=>?_)
            ·have em:gi s.l s.k=10:=by simpa using c12
             exact jQ s _ 10 hI (by simpa using c1) em rfl rfl rfl rfl rfl rfl rfl
            ·refine ai (λc13=>?_) (λc13=>?_)
             ·have em:gi s.l s.k=11:=by simpa using c13
              exact jQ s _ 11 hI (by simpa using c1) em rfl rfl rfl rfl rfl rfl rfl
             ·refine ai (λc14=>?_) (λc14=>?_)
              ·have em:gi s.l s.k=12:=by simpa using c14
               exact jQ s _ 12 hI (by simpa using c1) em rfl rfl rfl rfl rfl rfl rfl
              ·refine ai (λc15=>?_) (λc15=>?_)
               ·have em:gi s.l s.k=13:=by simpa using c15
                exact jQ s _ 13 hI (by simpa using c1) em rfl rfl rfl rfl rfl rfl rfl
               ·refine ai (λc16=>?_) (λc16=>?_)
                ·have em:gi s.l s.k=14:=by simpa using c16
                 exact jQ s _ 14 hI (by simpa using c1) em rfl rfl rfl rfl rfl rfl rfl
                ·have em:gi s.l s.k=15:=by
                  have hm:=iM s hI (by simpa using c1)
                  simp only [beq_eq_false_iff_ne,ne_eq] at c2 c3 c4 c5 c6 c7 c8 c9 c10 c11 c12 c13 c14 c15 c16;omega
                 exact jQ s _ 15 hI (by simpa using c1) em rfl rfl rfl rfl rfl rfl rfl
 ·have c1:s.n≤s.k:=by simpa using c1
  have h0:=hI.1
  exact ⟨rfl,by omega⟩
def TM:bK jo:=⟨1,67,[2,7,8,23,24,25,31,32,33],[.ns 7 6 3 aSg,.ns 7 7 3 aSg,.ns 7 8 3 aSg,.ns 7 9 3 aSg,.ns 7 10 3 aSg,.ns 7 11 3 aSg,.ns 7 12 3 aSg,.ns 7 13 3 aSg,.ns 7 14 3 aSg,.ns 7 15 3 aSg,.ns 7 16 3 aSg,.ns 7 17 3 aSg,.ns 7 18 3 aSg,.ns 7 19 3 aSg,.ns 7 20 3 aSg,.ns 7 21 3 aSg],aQu,aPc,λv b=>⟨aU aSg (v.getD 0 .junk),gI (v.getD 2 .junk),aU wE (v.getD 3 .junk),gI (v.getD 4 .junk),gI (v.getD 5 .junk),aU aSg (v.getD 6 .junk),gI (v.getD 7 .junk),gI (v.getD 8 .junk),aU dY (bn (aT b 0) 0),aU .str (bn (aT b 0) 1),aU fC (bn (aT b 0) 2),aU dP (bn (aT b 0) 3),aU fD (bn (aT b 0) 4),aU dY (bn (aT b 1) 0),aU .str (bn (aT b 1) 1),aU fC (bn (aT b 1) 2),aU dP (bn (aT b 1) 3),aU fD (bn (aT b 1) 4),aU wE (bn (aT b 1) 5),aU aSg (bn (aT b 1) 23),iW aSg (aT b 2),iW aSg (aT b 3),iW aSg (aT b 4),iW aSg (aT b 5),iW aSg (aT b 6),iW aSg (aT b 7),iW aSg (aT b 8),iW aSg (aT b 9),iW aSg (aT b 10),iW aSg (aT b 11),iW aSg (aT b 12),iW aSg (aT b 13),iW aSg (aT b 14),iW aSg (aT b 15),iW aSg (aT b 16),iW aSg (aT b 17),iW aSg (aT b 18),iW aSg (aT b 19)⟩,XQ,λs r=> {r with alive:=s.alive,i:=s.i,rows:=s.rows,rn:=s.rn,ri:=s.ri,l:=s.l,n:=s.n,di:=s.di,gB:=s.gB,dG:=s.dG,dN:=s.dN,jF:=s.jF,BG:=s.BG,BD:=s.BD,BF:=s.BF,gQ:=s.gQ,BH:=s.BH,bY:=s.bY,bH:=s.bH,levels:=s.levels},λs=>s,λ_ s=>s,[.exit 2],aaJ,yC,zk⟩
abbrev bW:=TM.run
abbrev aJZ:=TM.q
def ag2:Hand:=inl Tryz.prog aP Bl (dK 93 1 2 (yD.lp) (jT Tryz.prog aP (Bl) 20 2)) 9
theorem aqB:dn Tryz.prog aP ag2:=bV DW (bg Tryz.func93 rfl (by kernel_rfl) zT (dD DW)) 9
set_option maxRecDepth 100000 in
set_option maxHeartbeats 4000000 in
theorem aF4 (s:jo) (hI:yC s):(XQ s).all (λ_=>True):=by
 refine ⟨λc1=>⟨?_,?_,λc2=>⟨?_,?_,?_,?_,?_,?_,?_,aSf,aSf,aSf,aSf,aSf,aSf,aSf,aSf,aSf,aSf,aSf,aSf,aSf,aSf,aSf,?_,aSf,trivial⟩,λc2=>⟨λc3=>⟨?_,?_,?_,?_,?_,?_,aSf,?_,aSf,aSf,aSf,aSf,aSf,aSf,aSf,aSf,aSf,aSf,aSf,aSf,aSf,aSf,?_,aSf,trivial⟩,λc3=>⟨λc4=>⟨?_,?_,?_,?_,?_,?_,aSf,aSf,?_,aSf,aSf,aSf,aSf,aSf,aSf,aSf,aSf,aSf,aSf,aSf,aSf,aSf,?_,aSf,trivial⟩,λc4=>⟨λc5=>⟨?_,?_,?_,?_,?_,?_,aSf,aSf,aSf,?_,aSf,aSf,aSf,aSf,aSf,aSf,aSf,aSf,aSf,aSf,aSf,aSf,?_,aSf,trivial⟩,λc5=>⟨λc6=>⟨?_,?_,?_,?_,?_,?_,aSf,aSf,aSf,aSf,?_,aSf,aSf,aSf,aSf,aSf,aSf,aSf,aSf,aSf,aSf,aSf,?_,aSf,trivial⟩,λc6=>⟨λc7=>⟨?_,?_,?_,?_,?_,?_,aSf,aSf,aSf,aSf,aSf,?_,aSf,aSf,aSf,aSf,aSf,aSf,aSf,aSf,aSf,aSf,?_,aSf,trivial⟩,λc7=>⟨λc8=>⟨?_,?_,?_,?_,?_,?_,aSf,aSf,aSf,aSf,aSf,aSf,?_,aSf,aSf,aSf,aSf,aSf,aSf,aSf,aSf,aSf,?_,aSf,trivial⟩,λc8=>⟨λc9=>⟨?_,?_,?_,?_,?_,?_,aSf,aSf,aSf,aSf,aSf,aSf,aSf,?_,aSf,aSf,aSf,aSf,aSf,aSf,aSf,aSf,?_,aSf,trivial⟩,λc9=>⟨λc10=>⟨?_,?_,?_,?_,?_,?_,aSf,aSf,aSf,aSf,aSf,aSf,aSf,aSf,?_,aSf,aSf,aSf,aSf,aSf,aSf,aSf,?_,aSf,trivial⟩,λc10=>⟨λc11=>⟨?_,?_,?_,?_,?_,?_,aSf,aSf,aSf,aSf,aSf,aSf,aSf,aSf,aSf,?_,aSf,aSf,aSf,aSf,aSf,aSf,?_,aSf,trivial⟩,λc11=>⟨λc12=>⟨?_,?_,?_,?_,?_,?_,aSf,aSf,aSf,aSf,aSf,aSf,aSf,aSf,aSf,aSf,?_,aSf,aSf,aSf,aSf,aSf,?_,aSf,trivial⟩,λc12=>⟨λc13=>⟨?_,?_,?_,?_,?_,?_,aSf,aSf,aSf,aSf,aSf,aSf,aSf,aSf,aSf,aSf,aSf,?_,aSf,aSf,aSf,aSf,?_,aSf,trivial⟩,λc13=>⟨λc14=>⟨?_,?_,?_,?_,?_,?_,aSf,aSf,aSf,aSf,aSf,aSf,aSf,aSf,aSf,aSf,aSf,aSf,?_,aSf,aSf,aSf,?_,aSf,trivial⟩,λc14=>⟨λc15=>⟨?_,?_,?_,?_,?_,?_,aSf,aSf,aSf,aSf,aSf,aSf,aSf,aSf,aSf,aSf,aSf,aSf,aSf,?_,aSf,aSf,?_,aSf,trivial⟩,λc15=>⟨λc16=>⟨?_,?_,?_,?_,?_,?_,aSf,aSf,aSf,aSf,aSf,aSf,aSf,aSf,aSf,aSf,aSf,aSf,aSf,aSf,?_,aSf,?_,aSf,trivial⟩,λc16=>⟨?_,?_,?_,?_,?_,?_,aSf,aSf,aSf,aSf,aSf,aSf,aSf,aSf,aSf,aSf,aSf,aSf,aSf,aSf,aSf,?_,?_,aSf,trivial⟩⟩⟩⟩⟩⟩⟩⟩⟩⟩⟩⟩⟩⟩⟩⟩,λc1=>⟨aSf,aSf,aSf,aSf,aSf,aSf,aSf,aSf,aSf,aSf,aSf,aSf,aSf,aSf,aSf,aSf,aSf,aSf,trivial⟩⟩
 ·(obtain ⟨h0,h2,h3,h4,h5,h6,h7,h8⟩:=hI;simp only [decide_eq_true_eq] at c1;omega)
 ·exact ⟨(iM s hI (by simpa using c1)).1,(iM s hI (by simpa using c1)).2.1⟩
 ·(have:=hI.2.1 s.kL (by simp [ig]);have:=hI.1;have:=hI.2.2.2.1;have:=hI.2.2.2.2.1;simp only [List.length_cons,List.length_nil];omega)
 ·(obtain ⟨h0,h2,h3,h4,h5,h6,h7,h8⟩:=hI;simp only [decide_eq_true_eq] at c1;omega)
 ·(have em:=eq_of_beq c2;have hm:=iM s hI (by simpa using c1);omega)
 iterate 3 · (obtain ⟨h0,h2,h3,h4,h5,h6,h7,h8⟩:=hI;simp only [decide_eq_true_eq] at c1;omega)
 iterate 2 · exact ⟨rfl,by simp⟩
 ·(have:=hI.2.1 s.kK (by simp [ig]);have:=hI.1;have:=hI.2.2.2.1;have:=hI.2.2.2.2.1;simp only [List.length_cons,List.length_nil];omega)
 ·(obtain ⟨h0,h2,h3,h4,h5,h6,h7,h8⟩:=hI;simp only [decide_eq_true_eq] at c1;omega)
 ·(have em:=eq_of_beq c3;have hm:=iM s hI (by simpa using c1);omega)
 iterate 3 · (obtain ⟨h0,h2,h3,h4,h5,h6,h7,h8⟩:=hI;simp only [decide_eq_true_eq] at c1;omega)
 iterate 2 · exact ⟨rfl,by simp⟩
 ·(have:=hI.2.1 s.kJ (by simp [ig]);have:=hI.1;have:=hI.2.2.2.1;have:=hI.2.2.2.2.1;simp only [List.length_cons,List.length_nil];omega)
 ·(obtain ⟨h0,h2,h3,h4,h5,h6,h7,h8⟩:=hI;simp only [decide_eq_true_eq] at c1;omega)
 ·(have em:=eq_of_beq c4;have hm:=iM s hI (by simpa using c1);omega)
 iterate 3 · (obtain ⟨h0,h2,h3,h4,h5,h6,h7,h8⟩:=hI;simp only [decide_eq_true_eq] at c1;omega)
 iterate 2 · exact ⟨rfl,by simp⟩
 ·(have:=hI.2.1 s.kH (by simp [ig]);have:=hI.1;have:=hI.2.2.2.1;have:=hI.2.2.2.2.1;simp only [List.length_cons,List.length_nil];omega)
 ·(obtain ⟨h0,h2,h3,h4,h5,h6,h7,h8⟩:=hI;simp only [decide_eq_true_eq] at c1;omega)
 ·(have em:=eq_of_beq c5;have hm:=iM s hI (by simpa using c1);omega)
 iterate 3 · (obtain ⟨h0,h2,h3,h4,h5,h6,h7,h8⟩:=hI;simp only [decide_eq_true_eq] at c1;omega)
 iterate 2 · exact ⟨rfl,by simp⟩
 ·(have:=hI.2.1 s.kG (by simp [ig]);have:=hI.1;have:=hI.2.2.2.1;have:=hI.2.2.2.2.1;simp only [List.length_cons,List.length_nil];omega)
 ·(obtain ⟨h0,h2,h3,h4,h5,h6,h7,h8⟩:=hI;simp only [decide_eq_true_eq] at c1;omega)
 ·(have em:=eq_of_beq c6;have hm:=iM s hI (by simpa using c1);omega)
 iterate 3 · (obtain ⟨h0,h2,h3,h4,h5,h6,h7,h8⟩:=hI;simp only [decide_eq_true_eq] at c1;omega)
 iterate 2 · exact ⟨rfl,by simp⟩
 ·(have:=hI.2.1 s.kF (by simp [ig]);have:=hI.1;have:=hI.2.2.2.1;have:=hI.2.2.2.2.1;simp only [List.length_cons,List.length_nil];omega)
 ·(obtain ⟨h0,h2,h3,h4,h5,h6,h7,h8⟩:=hI;simp only [decide_eq_true_eq] at c1;omega)
 ·(have em:=eq_of_beq c7;have hm:=iM s hI (by simpa using c1);omega)
 iterate 3 · (obtain ⟨h0,h2,h3,h4,h5,h6,h7,h8⟩:=hI;simp only [decide_eq_true_eq] at c1;omega)
 iterate 2 · exact ⟨rfl,by simp⟩
 ·(have:=hI.2.1 s.kE (by simp [ig]);have:=hI.1;have:=hI.2.2.2.1;have:=hI.2.2.2.2.1;simp only [List.length_cons,List.length_nil];omega)
 ·(obtain ⟨h0,h2,h3,h4,h5,h6,h7,h8⟩:=hI;simp only [decide_eq_true_eq] at c1;omega)
 ·(have em:=eq_of_beq c8;have hm:=iM s hI (by simpa using c1);omega)
 iterate 3 · (obtain ⟨h0,h2,h3,h4,h5,h6,h7,h8⟩:=hI;simp only [decide_eq_true_eq] at c1;omega)
 iterate 2 · exact ⟨rfl,by simp⟩
 ·(have:=hI.2.1 s.kD (by simp [ig]);have:=hI.1;have:=hI.2.2.2.1;have:=hI.2.2.2.2.1;simp only [List.length_cons,List.length_nil];omega)
 ·(obtain ⟨h0,h2,h3,h4,h5,h6,h7,h8⟩:=hI;simp only [decide_eq_true_eq] at c1;omega)
 ·(have em:=eq_of_beq c9;have hm:=iM s hI (by simpa using c1);omega)
 iterate 3 · (obtain ⟨h0,h2,h3,h4,h5,h6,h7,h8⟩:=hI;simp only [decide_eq_true_eq] at c1;omega)
 iterate 2 · exact ⟨rfl,by simp⟩
 ·(have:=hI.2.1 s.kC (by simp [ig]);have:=hI.1;have:=hI.2.2.2.1;have:=hI.2.2.2.2.1;simp only [List.length_cons,List.length_nil];omega)
 ·(obtain ⟨h0,h2,h3,h4,h5,h6,h7,h8⟩:=hI;simp only [decide_eq_true_eq] at c1;omega)
 ·(have em:=eq_of_beq c10;have hm:=iM s hI (by simpa using c1);omega)
 iterate 3 · (obtain ⟨h0,h2,h3,h4,h5,h6,h7,h8⟩:=hI;simp only [decide_eq_true_eq] at c1;omega)
 iterate 2 · exact ⟨rfl,by simp⟩
 ·(have:=hI.2.1 s.kz (by simp [ig]);have:=hI.1;have:=hI.2.2.2.1;have:=hI.2.2.2.2.1;simp only [List.length_cons,List.length_nil];omega)
 ·(obtain ⟨h0,h2,h3,h4,h5,h6,h7,h8⟩:=hI;simp only [decide_eq_true_eq] at c1;omega)
 ·(have em:=eq_of_beq c11;have hm:=iM s hI (by simpa using c1);omega)
 iterate 3 · (obtain ⟨h0,h2,h3,h4,h5,h6,h7,h8⟩:=hI;simp only [decide_eq_true_eq] at c1;omega)
 iterate 2 · exact ⟨rfl,by simp⟩
 ·(have:=hI.2.1 s.fA (by simp [ig]);have:=hI.1;have:=hI.2.2.2.1;have:=hI.2.2.2.2.1;simp only [List.length_cons,List.length_nil];omega)
 ·(obtain ⟨h0,h2,h3,h4,h5,h6,h7,h8⟩:=hI;simp only [decide_eq_true_eq] at c1;omega)
 ·(have em:=eq_of_beq c12;have hm:=iM s hI (by simpa using c1);omega)
 iterate 3 · (obtain ⟨h0,h2,h3,h4,h5,h6,h7,h8⟩:=hI;simp only [decide_eq_true_eq] at c1;omega)
 iterate 2 · exact ⟨rfl,by simp⟩
 ·(have:=hI.2.1 s.eY (by simp [ig]);have:=hI.1;have:=hI.2.2.2.1;have:=hI.2.2.2.2.1;simp only [List.length_cons,List.length_nil];omega)
 ·(obtain ⟨h0,h2,h3,h4,h5,h6,h7,h8⟩:=hI;simp only [decide_eq_true_eq] at c1;omega)
 ·(have em:=eq_of_beq c13;have hm:=iM s hI (by simpa using c1);omega)
 iterate 3 · (obtain ⟨h0,h2,h3,h4,h5,h6,h7,h8⟩:=hI;simp only [decide_eq_true_eq] at c1;omega)
 iterate 2 · exact ⟨rfl,by simp⟩
 ·(have:=hI.2.1 s.eX (by simp [ig]);have:=hI.1;have:=hI.2.2.2.1;have:=hI.2.2.2.2.1;simp only [List.length_cons,List.length_nil];omega)
 ·(obtain ⟨h0,h2,h3,h4,h5,h6,h7,h8⟩:=hI;simp only [decide_eq_true_eq] at c1;omega)
 ·(have em:=eq_of_beq c14;have hm:=iM s hI (by simpa using c1);omega)
 iterate 3 · (obtain ⟨h0,h2,h3,h4,h5,h6,h7,h8⟩:=hI;simp only [decide_eq_true_eq] at c1;omega)
 iterate 2 · exact ⟨rfl,by simp⟩
 ·(have:=hI.2.1 s.eU (by simp [ig]);have:=hI.1;have:=hI.2.2.2.1;have:=hI.2.2.2.2.1;simp only [List.length_cons,List.length_nil];omega)
 ·(obtain ⟨h0,h2,h3,h4,h5,h6,h7,h8⟩:=hI;simp only [decide_eq_true_eq] at c1;omega)
 ·(have em:=eq_of_beq c15;have hm:=iM s hI (by simpa using c1);omega)
 iterate 3 · (obtain ⟨h0,h2,h3,h4,h5,h6,h7,h8⟩:=hI;simp only [decide_eq_true_eq] at c1;omega)
 iterate 2 · exact ⟨rfl,by simp⟩
 ·(have:=hI.2.1 s.eP (by simp [ig]);have:=hI.1;have:=hI.2.2.2.1;have:=hI.2.2.2.2.1;simp only [List.length_cons,List.length_nil];omega)
 ·(obtain ⟨h0,h2,h3,h4,h5,h6,h7,h8⟩:=hI;simp only [decide_eq_true_eq] at c1;omega)
 ·(have em:=eq_of_beq c16;have hm:=iM s hI (by simpa using c1);omega)
 iterate 3 · (obtain ⟨h0,h2,h3,h4,h5,h6,h7,h8⟩:=hI;simp only [decide_eq_true_eq] at c1;omega)
 iterate 2 · exact ⟨rfl,by simp⟩
 ·(have:=hI.2.1 s.eG (by simp [ig]);have:=hI.1;have:=hI.2.2.2.1;have:=hI.2.2.2.2.1;simp only [List.length_cons,List.length_nil];omega)
 ·(obtain ⟨h0,h2,h3,h4,h5,h6,h7,h8⟩:=hI;simp only [decide_eq_true_eq] at c1;omega)
 ·(have hm:=iM s hI (by simpa using c1);simp only [beq_eq_false_iff_ne,ne_eq] at c2 c3 c4 c5 c6 c7 c8 c9 c10 c11 c12 c13 c14 c15 c16;omega)
 iterate 3 · (obtain ⟨h0,h2,h3,h4,h5,h6,h7,h8⟩:=hI;simp only [decide_eq_true_eq] at c1;omega)
 iterate 2 · exact ⟨rfl,by simp⟩
theorem ab2:TM.Ok:={}
theorem abD:TM.Pf (atw):=⟨aMD,λ_ _=>rfl,apP,aF4⟩
set_option maxRecDepth 100000 in
set_option maxHeartbeats 4000000 in
theorem av3:bC Tryz.prog aP (AN 1) (.loop Ob) TM.lp:=bK.snd ab2 abD (bI (Γ:=Bl) (K:=ag2) (L:=(ql Tryz.prog aP Bl ag2 20 2)) DW aqB Ob (λb _=>dA DW aqB 20 2 b)) (λs=>by kernel_rfl)
theorem apO (s : jo) (hE:aaJ s):(λs:jo=>(yF s.i (ig s) (s.l.drop s.k.toNat),s.sums.set s.i.toNat (s.sums.getD s.i.toNat 0+smA s.alive (s.l.drop s.k.toNat)))) (bW s)=(λs:jo=>(yF s.i (ig s) (s.l.drop s.k.toNat),s.sums.set s.i.toNat (s.sums.getD s.i.toNat 0+smA s.alive (s.l.drop s.k.toNat)))) s:=by
 exact bK.yx ab2 abD (λs:jo=>(yF s.i (ig s) (s.l.drop s.k.toNat),s.sums.set s.i.toNat (s.sums.getD s.i.toNat 0+smA s.alive (s.l.drop s.k.toNat)))) (λs hI=>by
  show bJ _ _ (ahH s)
  unfold ahH XQ;dsimp only [T.rd,T.rl];refine ai (λc1=>?_) (λc1=>?_)
  ·refine ai (λc2=>?_) (λc2=>?_)
   ·have em:gi s.l s.k=0:=by simpa using c2
    exact jP s _ 0 hI (by simpa using c1) em rfl rfl rfl rfl rfl rfl rfl
   ·refine ai (λc3=>?_) (λc3=>?_)
    ·have em:gi s.l s.k=1:=by simpa using c3
     exact jP s _ 1 hI (by simpa using c1) em rfl rfl rfl rfl rfl rfl rfl
    ·refine ai (λc4=>?_) (λc4=>?_)
     ·have em:gi s.l s.k=2:=by simpa using c4
      exact jP s _ 2 hI (by simpa using c1) em rfl rfl rfl rfl rfl rfl rfl
     ·refine ai (λc5=>?_) (λc5=>?_)
      ·have em:gi s.l s.k=3:=by simpa using c5
       exact jP s _ 3 hI (by simpa using c1) em rfl rfl rfl rfl rfl rfl rfl
      ·refine ai (λc6=>?_) (λc6=>?_)
       ·have em:gi s.l s.k=4:=by simpa using c6
        exact jP s _ 4 hI (by simpa using c1) em rfl rfl rfl rfl rfl rfl rfl
       ·refine ai (λc7=>?_) (λc7=>?_)
        ·have em:gi s.l s.k=5:=by simpa using c7
         exact jP s _ 5 hI (by simpa using c1) em rfl rfl rfl rfl rfl rfl rfl
        ·refine ai (λc8=>?_) (λc8=>?_)
         ·have em:gi s.l s.k=6:=by simpa using c8
          exact jP s _ 6 hI (by simpa using c1) em rfl rfl rfl rfl rfl rfl rfl
         ·refine ai (λc9=>?_) (λc9=>?_)
          ·have em:gi s.l s.k=7:=by simpa using c9
           exact jP s _ 7 hI (by simpa using c1) em rfl rfl rfl rfl rfl rfl rfl
          ·refine ai (λc10=>?_) (λc10=>?_)
           ·have em:gi s.l s.k=8:=by simpa using c10
            exact jP s _ 8 hI (by simpa using c1) em rfl rfl rfl rfl rfl rfl rfl
           ·refine ai (λc11=>?_) (λc11=>?_)
            ·have em:gi s.l s.k=9:=by simpa using c11
             exact jP s _ 9 hI (by simpa using c1) em rfl rfl rfl rfl rfl rfl rfl
            ·refine ai (λc12=>?_) (λc12=>?_)
             ·have em:gi s.l s.k=10:=by simpa using c12
              exact jP s _ 10 hI (by simpa using c1) em rfl rfl rfl rfl rfl rfl rfl
             ·refine ai (λc13=>?_) (λc13=>?_)
              ·have em:gi s.l s.k=11:=by simpa using c13
               exact jP s _ 11 hI (by simpa using c1) em rfl rfl rfl rfl rfl rfl rfl
              ·refine ai (λc14=>?_) (λc14=>?_)
               ·have em:gi s.l s.k=12:=by simpa using c14
                exact jP s _ 12 hI (by simpa using c1) em rfl rfl rfl rfl rfl rfl rfl
               ·refine ai (λc15=>?_) (λc15=>?_)
                ·have em:gi s.l s.k=13:=by simpa using c15
                 exact jP s _ 13 hI (by simpa using c1) em rfl rfl rfl rfl rfl rfl rfl
                ·refine ai (λc16=>?_) (λc16=>?_)
                 ·have em:gi s.l s.k=14:=by simpa using c16
                  exact jP s _ 14 hI (by simpa using c1) em rfl rfl rfl rfl rfl rfl rfl
                 ·have em:gi s.l s.k=15:=by
                   have hm:=iM s hI (by simpa using c1)
                   simp only [beq_eq_false_iff_ne,ne_eq] at c2 c3 c4 c5 c6 c7 c8 c9 c10 c11 c12 c13 c14 c15 c16;omega
                  exact jP s _ 15 hI (by simpa using c1) em rfl rfl rfl rfl rfl rfl rfl
  ·rfl) s hE
theorem axu (s:jo) (hE:aaJ s):ig (bW s)=yF s.i (ig s) s.l∧(bW s).sums=s.sums.set s.i.toNat (s.sums.getD s.i.toNat 0+smA s.alive s.l):=by
 have q3:=apO s hE
 obtain ⟨hI2,hf⟩:=bK.inv ab2 abD (λs=>by kernel_rfl) s hE
 have hI2:yC (bW s):=hI2
 have hq:=AU (apP _ hI2) hf
 have q2:(bW s).k=(bW s).n:=hq.2
 obtain ⟨h0,h1,h2,h3,h4,h5,h6,h7⟩:=hE;obtain ⟨g0,g1,g2,g3,g4,g5,g6,g7⟩:=hI2
 have el:(bW s).l=s.l:=rfl
 have en:(bW s).n=s.n:=rfl
 have ei:(bW s).i=s.i:=rfl
 have ea:(bW s).alive=s.alive:=rfl
 simp only at q3;rw [q2,en,el,ei,ea,List.drop_eq_nil_of_le (by omega),h0,show (0:Int).toNat=0 from rfl,List.drop_zero] at q3
 have e1:=congrArg Prod.fst q3
 have e2:=congrArg Prod.snd q3
 simp only at e1 e2;refine ⟨e1,?_⟩;rw [←e2];exact (amT (by rw [ei] at g7;omega)).symm
structure jh where
 alive:List Int
 rows:List Rw
 rn:Int
 ri:Int
 di:List Cd
 gB:List ByteArray
 dG:List Ko
 dN:List Ch
 jF:List Ba
 BG:List Cd
 BD:List ByteArray
 BF:List Ko
 gQ:List Ch
 BH:List Ba
 bY:List Rw
 bH:List Int
 kL:List Int
 kK:List Int
 kJ:List Int
 kH:List Int
 kG:List Int
 kF:List Int
 kE:List Int
 kD:List Int
 kC:List Int
 kz:List Int
 fA:List Int
 eY:List Int
 eX:List Int
 eU:List Int
 eP:List Int
 eG:List Int
 sums:List Int
 levels:List Int
def aQt (s:jh):List LV:=[.xl aSg s.alive,.own 1 0,.xl wE s.rows,.v (.int .i64 s.rn),.v (.int .i64 s.ri)]
def aPb (s:jh):List aZ:=[⟨[.xl dY s.di,.xl .str s.gB,.xl fC s.dG,.xl dP s.dN,.xl fD s.jF],28,.cl,false⟩,⟨[.xl dY s.BG,.xl .str s.BD,.xl fC s.BF,.xl dP s.gQ,.xl fD s.BH,.xl wE s.bY,.os 2 1 0 (s.kL.length),.os 3 1 0 (s.kK.length),.os 4 1 0 (s.kJ.length),.os 5 1 0 (s.kH.length),.os 6 1 0 (s.kG.length),.os 7 1 0 (s.kF.length),.os 8 1 0 (s.kE.length),.os 9 1 0 (s.kD.length),.os 10 1 0 (s.kC.length),.os 11 1 0 (s.kz.length),.os 12 1 0 (s.fA.length),.os 13 1 0 (s.eY.length),.os 14 1 0 (s.eX.length),.os 15 1 0 (s.eU.length),.os 16 1 0 (s.eP.length),.os 17 1 0 (s.eG.length),.os 18 1 0 (s.sums.length),.xl aSg s.bH,.os 19 1 0 (s.levels.length)],148,.cl,false⟩,⟨[],3,.vec aSg s.kL,false⟩,⟨[],3,.vec aSg s.kK,false⟩,⟨[],3,.vec aSg s.kJ,false⟩,⟨[],3,.vec aSg s.kH,false⟩,⟨[],3,.vec aSg s.kG,false⟩,⟨[],3,.vec aSg s.kF,false⟩,⟨[],3,.vec aSg s.kE,false⟩,⟨[],3,.vec aSg s.kD,false⟩,⟨[],3,.vec aSg s.kC,false⟩,⟨[],3,.vec aSg s.kz,false⟩,⟨[],3,.vec aSg s.fA,false⟩,⟨[],3,.vec aSg s.eY,false⟩,⟨[],3,.vec aSg s.eX,false⟩,⟨[],3,.vec aSg s.eU,false⟩,⟨[],3,.vec aSg s.eP,false⟩,⟨[],3,.vec aSg s.eG,false⟩,⟨[],3,.vec aSg s.sums,false⟩,⟨[],3,.vec aSg s.levels,false⟩]
def ZE:Code:=((ax (Tryz.f95.body.getD .skip))[0]?).getD .skip
def cZ (s:jh):jo:=(⟨s.alive,s.ri,s.rows,s.rn,s.ri,(rP s.rows s.ri).2,(List.length (rP s.rows s.ri).2:Int),(0:Int),s.di,s.gB,s.dG,s.dN,s.jF,s.BG,s.BD,s.BF,s.gQ,s.BH,s.bY,s.bH,s.kL,s.kK,s.kJ,s.kH,s.kG,s.kF,s.kE,s.kD,s.kC,s.kz,s.fA,s.eY,s.eX,s.eU,s.eP,s.eG,s.sums,s.levels⟩:jo)
def XP (s:jh):T (Rd jh):=
 .br (decide (s.ri<s.rn)) (.req (0≤s.ri∧s.ri<(s.rows.length:Int)) (.rl s.kL (.rl s.kK (.rl s.kJ (.rl s.kH (.rl s.kG (.rl s.kF (.rl s.kE (.rl s.kD (.rl s.kC (.rl s.kz (.rl s.fA (.rl s.eY (.rl s.eX (.rl s.eU (.rl s.eP (.rl s.eG (.rl s.sums (.rl s.levels (.req (aJZ (cZ s)) (.rl (bW (cZ s)).kL (.rl (bW (cZ s)).kK (.rl (bW (cZ s)).kJ (.rl (bW (cZ s)).kH (.rl (bW (cZ s)).kG (.rl (bW (cZ s)).kF (.rl (bW (cZ s)).kE (.rl (bW (cZ s)).kD (.rl (bW (cZ s)).kC (.rl (bW (cZ s)).kz (.rl (bW (cZ s)).fA (.rl (bW (cZ s)).eY (.rl (bW (cZ s)).eX (.rl (bW (cZ s)).eU (.rl (bW (cZ s)).eP (.rl (bW (cZ s)).eG (.rl (bW (cZ s)).sums (.rl s.levels (.ok (.next {s with ri:=(aSe (s.ri+1)),kL:=(bW (cZ s)).kL,kK:=(bW (cZ s)).kK,kJ:=(bW (cZ s)).kJ,kH:=(bW (cZ s)).kH,kG:=(bW (cZ s)).kG,kF:=(bW (cZ s)).kF,kE:=(bW (cZ s)).kE,kD:=(bW (cZ s)).kD,kC:=(bW (cZ s)).kC,kz:=(bW (cZ s)).kz,fA:=(bW (cZ s)).fA,eY:=(bW (cZ s)).eY,eX:=(bW (cZ s)).eX,eU:=(bW (cZ s)).eU,eP:=(bW (cZ s)).eP,eG:=(bW (cZ s)).eG,sums:=(bW (cZ s)).sums})))))))))))))))))))))))))))))))))))))))) (.rl s.kL (.rl s.kK (.rl s.kJ (.rl s.kH (.rl s.kG (.rl s.kF (.rl s.kE (.rl s.kD (.rl s.kC (.rl s.kz (.rl s.fA (.rl s.eY (.rl s.eX (.rl s.eU (.rl s.eP (.rl s.eG (.rl s.sums (.rl s.levels (.ok (.stop (.exit 0) s))))))))))))))))))))
abbrev ahG (s:jh):=(XP s).rd s
def nG (s:jh):List (List Int):=[s.kL,s.kK,s.kJ,s.kH,s.kG,s.kF,s.kE,s.kD,s.kC,s.kz,s.fA,s.eY,s.eX,s.eU,s.eP,s.eG]
def TL (s:jh):Prop:=s.ri=0∧(∀o∈nG s,o=[])∧s.sums=List.replicate s.rows.length 0∧s.rn=(s.rows.length:Int)∧s.rn≤1000∧(∀r∈s.rows,(r.2.length:Int)≤1000∧∀m∈r.2,0≤m∧m<16∧m<(s.alive.length:Int))∧(∀a∈s.alive,0≤a∧a≤80)∧s.sums.length=s.rows.length
def yB (s:jh):Prop:=(0≤s.ri∧s.ri≤s.rn)∧(∀o∈nG s,(o.length:Int)≤1000*s.ri)∧(∀k:Nat,s.ri≤(k:Int)→s.sums.getD k 0=0)∧s.rn=(s.rows.length:Int)∧s.rn≤1000∧(∀r∈s.rows,(r.2.length:Int)≤1000∧∀m∈r.2,0≤m∧m<16∧m<(s.alive.length:Int))∧(∀a∈s.alive,0≤a∧a≤80)∧s.sums.length=s.rows.length
def zi (s:jh):Nat:=(s.rn-s.ri).toNat
def akh (x:Ex) (_ s':jh):Prop:=x=.exit 0∧s'.ri=s'.rn
theorem aMC:∀s,TL s→yB s:=by
 intro s h;obtain ⟨h0,h1,h2,h3⟩:=h;refine ⟨by have:=h3.1;omega,λo ho=>by rw [h1 o ho];simp;omega,λk _=>?_,h3⟩
 rw [h2];simp only [List.getD,List.getElem?_replicate];split<;>rfl
theorem apM (s:jh) (hI:yB s) (c1:s.ri<s.rn):aaJ (cZ s):=by
 obtain ⟨⟨h0,h1⟩,h2,h3,h4,h5,h6,h7,h8⟩:=hI
 have hr:=h6 (rP s.rows s.ri) (by rw [BX (by omega)];exact List.getElem_mem _)
 refine ⟨rfl,λo ho=>?_,?_,rfl,hr.1,hr.2,h7,h0,?_⟩
 ·have:=h2 o ho
  omega
 ·have:=h3 s.ri.toNat (by omega)
  show 0≤s.sums.getD s.ri.toNat 0∧s.sums.getD s.ri.toNat 0≤1000
  omega
 ·show s.ri<(s.sums.length:Int)
  omega
theorem apK (s s':jh) (hI:yB s) (c1:s.ri<s.rn) (hO:nG s'=ig (bW (cZ s))) (hs:s'.sums=(bW (cZ s)).sums) (hk:s'.ri=aSe (s.ri+1)) (hn:s'.rn=s.rn) (hl:s'.rows=s.rows) (ha:s'.alive=s.alive):
  (yB s'∧zi s'<zi s)∧(λs:jh=>(Xu (nG s) s.ri (s.rows.drop s.ri.toNat),Xt s.alive s.sums s.ri (s.rows.drop s.ri.toNat))) s'=(λs:jh=>(Xu (nG s) s.ri (s.rows.drop s.ri.toNat),Xt s.alive s.sums s.ri (s.rows.drop s.ri.toNat))) s:=by
 obtain ⟨r1,r2⟩:=axu _ (apM s hI c1);obtain ⟨⟨h0,h1⟩,h2,h3,h4,h5,h6,h7,h8⟩:=hI
 have hr:=h6 (rP s.rows s.ri) (by rw [BX (by omega)];exact List.getElem_mem _)
 rw [aH (x:=s.ri+1)] at hk
 have r1:ig (bW (cZ s))=yF s.ri (nG s) (rP s.rows s.ri).2:=r1
 have r2:(bW (cZ s)).sums=s.sums.set s.ri.toNat (s.sums.getD s.ri.toNat 0+smA s.alive (rP s.rows s.ri).2):=r2
 refine ⟨⟨⟨⟨by omega,by omega⟩,λo ho=>?_,λk hk2=>?_,by rw [hn,hl];exact h4,by omega,by rw [hl,ha];exact h6,by rw [ha];exact h7,by rw [hs,r2,List.length_set,hl];exact h8⟩,by simp only [zi];omega⟩,?_⟩
 ·rw [hO,r1] at ho
  have:=agw h2 o ho
  have:=hr.1
  rw [hk];omega
 ·rw [hs,r2]
  have:=h3 k (by omega)
  simp only [List.getD] at this⊢;rw [List.getElem?_set_ne (by omega)]
  exact this
 ·simp only
  rw [hO,hs,hl,ha,r1,r2,hk,(arO h0 (show s.ri<s.rows.length by omega)).1]
  rfl
theorem axs (s s':jh) (hI:yB s) (c1:s.ri<s.rn) (hO:nG s'=ig (bW (cZ s))) (hs:s'.sums=(bW (cZ s)).sums) (hk:s'.ri=aSe (s.ri+1)) (hn:s'.rn=s.rn) (hl:s'.rows=s.rows) (ha:s'.alive=s.alive):bJ (λs'=>yB s'∧zi s'<zi s) (λx s'=>akh x s s') (.next s'):=(apK s s' hI c1 hO hs hk hn hl ha).1
theorem axr (s s':jh) (hI:yB s) (c1:s.ri<s.rn) (hO:nG s'=ig (bW (cZ s))) (hs:s'.sums=(bW (cZ s)).sums) (hk:s'.ri=aSe (s.ri+1)) (hn:s'.rn=s.rn) (hl:s'.rows=s.rows) (ha:s'.alive=s.alive):bJ (λs'=>(λs:jh=>(Xu (nG s) s.ri (s.rows.drop s.ri.toNat),Xt s.alive s.sums s.ri (s.rows.drop s.ri.toNat))) s'=(λs:jh=>(Xu (nG s) s.ri (s.rows.drop s.ri.toNat),Xt s.alive s.sums s.ri (s.rows.drop s.ri.toNat))) s) (λ_ s'=>(λs:jh=>(Xu (nG s) s.ri (s.rows.drop s.ri.toNat),Xt s.alive s.sums s.ri (s.rows.drop s.ri.toNat))) s'=(λs:jh=>(Xu (nG s) s.ri (s.rows.drop s.ri.toNat),Xt s.alive s.sums s.ri (s.rows.drop s.ri.toNat))) s) (.next s'):=(apK s s' hI c1 hO hs hk hn hl ha).2
theorem aHe (s:jh) (hI:yB s):bJ (λs'=>yB s'∧zi s'<zi s) (λx s'=>akh x s s') (ahG s):=by
 unfold ahG XP;dsimp only [T.rd,T.rl];refine ai (λc1=>?_) (λc1=>?_)
 ·exact axs s _ hI (by simpa using c1) rfl rfl rfl rfl rfl rfl
 ·have c1:s.rn≤s.ri:=by simpa using c1
  have h0:=hI.1
  exact ⟨rfl,by omega⟩
def zS:bK jh:=⟨1,67,[2,7,23,24,25],[.ns 7 6 3 aSg,.ns 7 7 3 aSg,.ns 7 8 3 aSg,.ns 7 9 3 aSg,.ns 7 10 3 aSg,.ns 7 11 3 aSg,.ns 7 12 3 aSg,.ns 7 13 3 aSg,.ns 7 14 3 aSg,.ns 7 15 3 aSg,.ns 7 16 3 aSg,.ns 7 17 3 aSg,.ns 7 18 3 aSg,.ns 7 19 3 aSg,.ns 7 20 3 aSg,.ns 7 21 3 aSg],aQt,aPb,λv b=>⟨aU aSg (v.getD 0 .junk),aU wE (v.getD 2 .junk),gI (v.getD 3 .junk),gI (v.getD 4 .junk),aU dY (bn (aT b 0) 0),aU .str (bn (aT b 0) 1),aU fC (bn (aT b 0) 2),aU dP (bn (aT b 0) 3),aU fD (bn (aT b 0) 4),aU dY (bn (aT b 1) 0),aU .str (bn (aT b 1) 1),aU fC (bn (aT b 1) 2),aU dP (bn (aT b 1) 3),aU fD (bn (aT b 1) 4),aU wE (bn (aT b 1) 5),aU aSg (bn (aT b 1) 23),iW aSg (aT b 2),iW aSg (aT b 3),iW aSg (aT b 4),iW aSg (aT b 5),iW aSg (aT b 6),iW aSg (aT b 7),iW aSg (aT b 8),iW aSg (aT b 9),iW aSg (aT b 10),iW aSg (aT b 11),iW aSg (aT b 12),iW aSg (aT b 13),iW aSg (aT b 14),iW aSg (aT b 15),iW aSg (aT b 16),iW aSg (aT b 17),iW aSg (aT b 18),iW aSg (aT b 19)⟩,XP,λs r=> {r with alive:=s.alive,rows:=s.rows,rn:=s.rn,di:=s.di,gB:=s.gB,dG:=s.dG,dN:=s.dN,jF:=s.jF,BG:=s.BG,BD:=s.BD,BF:=s.BF,gQ:=s.gQ,BH:=s.BH,bY:=s.bY,bH:=s.bH,levels:=s.levels},λs=>s,λ_ s=>s,[.exit 0],TL,yB,zi⟩
abbrev aB:=zS.run
abbrev azV:=zS.jf
abbrev Xd:=zS.q
theorem aF3 (s:jh) (hI:yB s):(XP s).all (λ_=>True):=by
 refine ⟨λc1=>⟨?_,aSf,aSf,aSf,aSf,aSf,aSf,aSf,aSf,aSf,aSf,aSf,aSf,aSf,aSf,aSf,aSf,aSf,aSf,?_,aSf,aSf,aSf,aSf,aSf,aSf,aSf,aSf,aSf,aSf,aSf,aSf,aSf,aSf,aSf,aSf,aSf,aSf,trivial⟩,λc1=>⟨aSf,aSf,aSf,aSf,aSf,aSf,aSf,aSf,aSf,aSf,aSf,aSf,aSf,aSf,aSf,aSf,aSf,aSf,trivial⟩⟩
 ·(obtain ⟨h0,h2,h3,h4,h5,h6,h7,h8⟩:=hI;simp only [decide_eq_true_eq] at c1;omega)
 ·exact ⟨apM s hI (by simpa using c1),rfl,rfl⟩
theorem ab1:zS.Ok:={}
theorem abC:zS.Pf (akh):=⟨aMC,λ_ _=>rfl,aHe,aF3⟩
theorem Dj:bC Tryz.prog aP (AN 1) (.loop ZE) zS.lp:=bK.snd ab1 abC (bI (Γ:=Bl) (K:=ag2) (L:=(alA (λi=>if i=6 then TM.lp else ay i))) DW aqB ZE (λb hb=>by
 rw [show ax _=[Ob] by kernel_rfl] at hb
 simp only [List.mem_cons,List.not_mem_nil,or_false] at hb;subst hb;exact av3)) (λs=>by kernel_rfl)
theorem axt (s:jh) (hE:TL s):∃s',yB s'∧akh (azV s) s' (aB s):=bK.fin ab1 abC s hE
theorem apL (s:jh) (hE:TL s):(λs:jh=>(Xu (nG s) s.ri (s.rows.drop s.ri.toNat),Xt s.alive s.sums s.ri (s.rows.drop s.ri.toNat))) (aB s)=(λs:jh=>(Xu (nG s) s.ri (s.rows.drop s.ri.toNat),Xt s.alive s.sums s.ri (s.rows.drop s.ri.toNat))) s:=by
 exact bK.yx ab1 abC (λs:jh=>(Xu (nG s) s.ri (s.rows.drop s.ri.toNat),Xt s.alive s.sums s.ri (s.rows.drop s.ri.toNat))) (λs hI=>by
  show bJ _ _ (ahG s)
  unfold ahG XP;dsimp only [T.rd,T.rl];refine ai (λc1=>?_) (λc1=>?_)
  ·exact axr s _ hI (by simpa using c1) rfl rfl rfl rfl rfl rfl
  ·rfl) s hE
theorem axq (s:jh) (hE:TL s):nG (aB s)=Xu (nG s) 0 s.rows∧(aB s).sums=Xt s.alive s.sums 0 s.rows:=by
 have q3:=apL s hE
 obtain ⟨s',hI,q1,q2⟩:=axt s hE;obtain ⟨h0,h1,h2,h3,h4,h5⟩:=hE
 have el:(aB s).rows=s.rows:=rfl
 have en:(aB s).rn=s.rn:=rfl
 have ea:(aB s).alive=s.alive:=rfl
 simp only at q3;rw [q2,en,el,ea,List.drop_eq_nil_of_le (by omega),h0] at q3
 exact ⟨congrArg Prod.fst q3,congrArg Prod.snd q3⟩
structure rE where
 r:Bool
 l:List Int
 n:Int
 i:Int
 di:List Cd
 gB:List ByteArray
 dG:List Ko
 dN:List Ch
 jF:List Ba
 BG:List Cd
 BD:List ByteArray
 BF:List Ko
 gQ:List Ch
 BH:List Ba
 bY:List Rw
 kL:List Int
 kK:List Int
 kJ:List Int
 kH:List Int
 kG:List Int
 kF:List Int
 kE:List Int
 kD:List Int
 kC:List Int
 kz:List Int
 fA:List Int
 eY:List Int
 eX:List Int
 eU:List Int
 eP:List Int
 eG:List Int
 bH:List Int
 sums:List Int
 levels:List Int
 uo:ByteArray
 adv:Int
 um:Int
 ar8:Int
 ar9:Int
 ads:Int
 nV:Int
 pz:Int
 more:Int
def aQJ (s:rE):List LV:=[.fn 124 [.own 4 0,.own 6 0],.v (.bool s.r),.xl aSg s.l,.v (.int .i64 s.n),.v (.int .i64 s.i)]
def aPr (s:rE):List aZ:=[⟨[.xl dY s.di,.xl .str s.gB,.xl fC s.dG,.xl dP s.dN,.xl fD s.jF],28,.cl,false⟩,⟨[.xl dY s.BG,.xl .str s.BD,.xl fC s.BF,.xl dP s.gQ,.xl fD s.BH,.xl wE s.bY,.xl aSg s.kL,.xl aSg s.kK,.xl aSg s.kJ,.xl aSg s.kH,.xl aSg s.kG,.xl aSg s.kF,.xl aSg s.kE,.xl aSg s.kD,.xl aSg s.kC,.xl aSg s.kz,.xl aSg s.fA,.xl aSg s.eY,.xl aSg s.eX,.xl aSg s.eU,.xl aSg s.eP,.xl aSg s.eG,.os 2 1 0 (s.sums.length),.xl aSg s.bH,.os 3 1 0 (s.levels.length)],148,.cl,false⟩,⟨[],3,.vec aSg s.sums,false⟩,⟨[],3,.vec aSg s.levels,false⟩,⟨[.own 1 0],144,.cl,false⟩,⟨[.v (.string s.uo),.v (.int .i64 s.adv),.v (.int .i64 s.um),.v (.int .i64 s.ar8),.v (.int .i64 s.ar9),.v (.int .i64 s.ads),.v (.int .i64 s.nV),.v (.int .i64 s.pz)],58,.cl,false⟩,⟨[.v (.int .i64 s.more)],3,.cl,false⟩]
def ZI:Code:=((ax (Tryz.f93.body.getD .skip))[0]?).getD .skip
def afB (s:rE):T (Rd rE):=
 .br (decide (s.i<s.n)) (.req (0≤s.i∧s.i<(s.l.length:Int)) (.req (0≤(gi s.l s.i)∧(gi s.l s.i)<((s.sums.length:Nat):Int)) (.req ((gi s.l s.i).toNat<s.sums.length) (.req (0≤(gi s.l s.i)∧(gi s.l s.i)<(s.bY.length:Int)) (.br (!(decide ((aSe ((s.sums.getD (gi s.l s.i).toNat (Ty.dflt aSg))+s.more))≤(rP s.bY (gi s.l s.i)).1))) (.rl s.sums (.rl s.levels (.ok (.stop (.ret) {s with r:=false})))) (.rl s.sums (.rl s.levels (.ok (.next {s with i:=(aSe (s.i+1))}))))))))) (.rl s.sums (.rl s.levels (.ok (.stop (.exit 0) s))))
abbrev aCS (s:rE):=(afB s).rd s
def Pg (s:rE) (j:Int):Bool:=D8 s.bY s.sums s.more (gi s.l j)
def aaP (s:rE):Prop:=s.i=0∧0≤s.n∧s.n≤1000∧s.n=(s.l.length:Int)∧(∀r∈s.l,0≤r∧r<(s.bY.length:Int))∧s.sums.length=s.bY.length∧(∀k:Nat,0≤s.sums.getD k 0∧s.sums.getD k 0≤2000)∧(0≤s.more∧s.more≤10000)
def Tm (s:rE):Prop:=0≤s.i∧s.i≤s.n∧s.n≤1000∧(s.n=(s.l.length:Int)∧(∀r∈s.l,0≤r∧r<(s.bY.length:Int))∧s.sums.length=s.bY.length∧(∀k:Nat,0≤s.sums.getD k 0∧s.sums.getD k 0≤2000)∧(0≤s.more∧s.more≤10000))∧∀j:Nat,(j:Int)<s.i→Pg s j=true
def VB (s:rE):Nat:=(s.n-s.i).toNat
def atK (x:Ex) (_ s':rE):Prop:=(x=.exit 0∧∀j:Nat,(j:Int)<s'.n→Pg s' j=true)∨(x=.ret∧s'.r=false∧∃j:Nat,(j:Int)<s'.n∧Pg s' j=false)
theorem aNK:∀s,aaP s→Tm s:=by
 intro s h;obtain ⟨h0,h1,h2,h3⟩:=h;exact ⟨by omega,by omega,h2,h3,λj hj=>by omega⟩
theorem aIz (s:rE) (hI:Tm s):bJ (λs'=>Tm s'∧VB s'<VB s) (λx s'=>atK x s s') (aCS s):=by
 unfold aCS afB;dsimp only [T.rd,T.rl];obtain ⟨h0,h1,h2,h3,h4⟩:=hI;refine ai (λc1=>ai (λc2=>?_) (λc2=>?_)) (λc1=>?_)
 ·have c1:s.i<s.n:=by simpa using c1
  refine .inr ⟨rfl,rfl,s.i.toNat,by simp only;omega,?_⟩
  rw [Int.toNat_of_nonneg (by omega)]
  have hg:Pg s s.i=false:=by unfold Pg;(obtain ⟨e0,e1,e2,e3,e4⟩:=h3;have hb:=e3 (gi s.l s.i).toNat;have c2:=c2;rw [aH (x:=s.sums.getD (gi s.l s.i).toNat (Ty.dflt aSg)+s.more) (by show _≤s.sums.getD (gi s.l s.i).toNat 0+s.more;omega) (by show s.sums.getD (gi s.l s.i).toNat 0+s.more≤_;omega)] at c2;unfold D8;first|(have c3:(!(decide (s.sums.getD (gi s.l s.i).toNat 0+s.more≤(rP s.bY (gi s.l s.i)).1)))=true:=c2;simpa using c3) |(have c3:(!(decide (s.sums.getD (gi s.l s.i).toNat 0+s.more≤(rP s.bY (gi s.l s.i)).1)))=false:=c2;simpa using c3))
  exact hg
 ·have c1:s.i<s.n:=by simpa using c1
  have hg:Pg s s.i=true:=by unfold Pg;(obtain ⟨e0,e1,e2,e3,e4⟩:=h3;have hb:=e3 (gi s.l s.i).toNat;have c2:=c2;rw [aH (x:=s.sums.getD (gi s.l s.i).toNat (Ty.dflt aSg)+s.more) (by show _≤s.sums.getD (gi s.l s.i).toNat 0+s.more;omega) (by show s.sums.getD (gi s.l s.i).toNat 0+s.more≤_;omega)] at c2;unfold D8;first|(have c3:(!(decide (s.sums.getD (gi s.l s.i).toNat 0+s.more≤(rP s.bY (gi s.l s.i)).1)))=true:=c2;simpa using c3) |(have c3:(!(decide (s.sums.getD (gi s.l s.i).toNat 0+s.more≤(rP s.bY (gi s.l s.i)).1)))=false:=c2;simpa using c3))
  rw [aH (x:=s.i+1)];refine ⟨⟨by simp only;omega,by simp only;omega,h2,h3,λj hj=>?_⟩,by simp only [VB];omega⟩
  by_cases hji:(j:Int)<s.i
  ·exact h4 j hji
  ·have:(j:Int)=s.i:=by simp only at hj;omega
   rw [this];exact hg
 ·have c1:s.n≤s.i:=by simpa using c1
  exact .inl ⟨rfl,λj hj=>h4 j (by omega)⟩
def Bv:bK rE:=⟨7,18,[1,4,7,8,9],[],aQJ,aPr,λv b=>⟨vW (v.getD 1 .junk),aU aSg (v.getD 2 .junk),gI (v.getD 3 .junk),gI (v.getD 4 .junk),aU dY (bn (aT b 0) 0),aU .str (bn (aT b 0) 1),aU fC (bn (aT b 0) 2),aU dP (bn (aT b 0) 3),aU fD (bn (aT b 0) 4),aU dY (bn (aT b 1) 0),aU .str (bn (aT b 1) 1),aU fC (bn (aT b 1) 2),aU dP (bn (aT b 1) 3),aU fD (bn (aT b 1) 4),aU wE (bn (aT b 1) 5),aU aSg (bn (aT b 1) 6),aU aSg (bn (aT b 1) 7),aU aSg (bn (aT b 1) 8),aU aSg (bn (aT b 1) 9),aU aSg (bn (aT b 1) 10),aU aSg (bn (aT b 1) 11),aU aSg (bn (aT b 1) 12),aU aSg (bn (aT b 1) 13),aU aSg (bn (aT b 1) 14),aU aSg (bn (aT b 1) 15),aU aSg (bn (aT b 1) 16),aU aSg (bn (aT b 1) 17),aU aSg (bn (aT b 1) 18),aU aSg (bn (aT b 1) 19),aU aSg (bn (aT b 1) 20),aU aSg (bn (aT b 1) 21),aU aSg (bn (aT b 1) 23),iW aSg (aT b 2),iW aSg (aT b 3),gSr (bn (aT b 5) 0),gI (bn (aT b 5) 1),gI (bn (aT b 5) 2),gI (bn (aT b 5) 3),gI (bn (aT b 5) 4),gI (bn (aT b 5) 5),gI (bn (aT b 5) 6),gI (bn (aT b 5) 7),gI (bn (aT b 6) 0)⟩,afB,λs r=> {r with l:=s.l,n:=s.n,di:=s.di,gB:=s.gB,dG:=s.dG,dN:=s.dN,jF:=s.jF,BG:=s.BG,BD:=s.BD,BF:=s.BF,gQ:=s.gQ,BH:=s.BH,bY:=s.bY,kL:=s.kL,kK:=s.kK,kJ:=s.kJ,kH:=s.kH,kG:=s.kG,kF:=s.kF,kE:=s.kE,kD:=s.kD,kC:=s.kC,kz:=s.kz,fA:=s.fA,eY:=s.eY,eX:=s.eX,eU:=s.eU,eP:=s.eP,eG:=s.eG,bH:=s.bH,sums:=s.sums,levels:=s.levels,uo:=s.uo,adv:=s.adv,um:=s.um,ar8:=s.ar8,ar9:=s.ar9,ads:=s.ads,nV:=s.nV,pz:=s.pz,more:=s.more},λs=>s,λ_ s=>s,[.ret,.exit 0],aaP,Tm,VB⟩
abbrev Ku:=Bv.run
abbrev KJ:=Bv.jf
abbrev aKd:=Bv.q
def DZ:Specs:=aW [(24,qx),(61,uF),(94,uD),(96,uz)]
theorem Ij:∀g S,DZ g=some S→Valid Tryz.prog aP g S:=aS (l:=[(24,qx),(61,uF),(94,uD),(96,uz)]) ⟨Gl,La,KZ,KY,trivial⟩
def aqT:Hand:=inl Tryz.prog aP DZ (dK 95 1 3 (zS.lp) (dK 93 1 2 (yD.lp) (jT Tryz.prog aP (DZ) 20 2))) 9
theorem aBB:dn Tryz.prog aP aqT:=bV Ij (bg Tryz.func95 rfl (by kernel_rfl) Dj (bg Tryz.func93 rfl (by kernel_rfl) zT (dD Ij))) 9
theorem aGj (s:rE) (hI:Tm s):(afB s).all (λ_=>True):=by
 refine ⟨λc1=>⟨?_,?_,?_,?_,λc2=>⟨aSf,aSf,trivial⟩,λc2=>⟨aSf,aSf,trivial⟩⟩,λc1=>⟨aSf,aSf,trivial⟩⟩
 all_goals ((obtain ⟨h0,h1,h2,⟨e0,e1,e2,e3,e4⟩,h4⟩:=hI;simp only [decide_eq_true_eq] at c1;have hm:=e1 (gi s.l s.i) (jq (by omega) (by omega));omega))
theorem apt:Bv.Ok:={}
theorem aoc:Bv.Pf (atK):=⟨aNK,λ_ _=>rfl,aIz,aGj⟩
theorem J7:bC Tryz.prog aP (AN 7) (.loop ZI) Bv.lp:=bK.snd apt aoc (bI (Γ:=DZ) (K:=aqT) (L:=(ql Tryz.prog aP DZ aqT 20 2)) Ij aBB ZI (λb _=>dA Ij aBB 20 2 b)) (λs=>by kernel_rfl)
theorem aAb (s:rE) (hE:aaP s):∃s',Tm s'∧atK (KJ s) s' (Ku s):=bK.fin apt aoc s hE
theorem vH (s:rE) (hE:aaP s):(KJ s=.exit 0∧s.l.all (D8 s.bY s.sums s.more)=true)∨(KJ s=.ret∧(Ku s).r=false∧s.l.all (D8 s.bY s.sums s.more)=false):=by
 obtain ⟨s',hI,hq⟩:=aAb s hE;obtain ⟨h0,h1,h2,h3,_⟩:=hE
 have en:(Ku s).n=s.n:=rfl
 rcases hq with ⟨q1,q2⟩ |⟨q1,q2,j,q3,q4⟩
 ·exact .inl ⟨q1,(jm (d:=(0:Int))).1 λj hj=>q2 j (by rw [en];omega)⟩
 ·refine .inr ⟨q1,q2,?_⟩
  rw [Bool.eq_false_iff];intro hx
  have:=(jm (d:=(0:Int))).2 hx j (by rw [en] at q3;omega)
  exact Bool.noConfusion (this.symm.trans q4)
structure wZ where
 qH:Int
 level:Int
 l:List Int
 n:Int
 i:Int
 di:List Cd
 gB:List ByteArray
 dG:List Ko
 dN:List Ch
 jF:List Ba
 BG:List Cd
 BD:List ByteArray
 BF:List Ko
 gQ:List Ch
 BH:List Ba
 bY:List Rw
 kL:List Int
 kK:List Int
 kJ:List Int
 kH:List Int
 kG:List Int
 kF:List Int
 kE:List Int
 kD:List Int
 kC:List Int
 kz:List Int
 fA:List Int
 eY:List Int
 eX:List Int
 eU:List Int
 eP:List Int
 eG:List Int
 bH:List Int
 sums:List Int
 levels:List Int
 more:Int
def aRY (s:wZ):List LV:=[.v (.int .i64 s.qH),.own 4 0,.v (.int .i64 s.level),.own 5 0,.xl aSg s.l,.v (.int .i64 s.n),.v (.int .i64 s.i)]
def aRK (s:wZ):List aZ:=[⟨[.xl dY s.di,.xl .str s.gB,.xl fC s.dG,.xl dP s.dN,.xl fD s.jF],28,.cl,false⟩,⟨[.xl dY s.BG,.xl .str s.BD,.xl fC s.BF,.xl dP s.gQ,.xl fD s.BH,.xl wE s.bY,.xl aSg s.kL,.xl aSg s.kK,.xl aSg s.kJ,.xl aSg s.kH,.xl aSg s.kG,.xl aSg s.kF,.xl aSg s.kE,.xl aSg s.kD,.xl aSg s.kC,.xl aSg s.kz,.xl aSg s.fA,.xl aSg s.eY,.xl aSg s.eX,.xl aSg s.eU,.xl aSg s.eP,.xl aSg s.eG,.os 2 1 0 (s.sums.length),.xl aSg s.bH,.os 3 1 0 (s.levels.length)],148,.cl,false⟩,⟨[],3,.vec aSg s.sums,false⟩,⟨[],3,.vec aSg s.levels,false⟩,⟨[.own 1 0],144,.cl,false⟩,⟨[.v (.int .i64 s.more)],3,.cl,false⟩]
def aiO:Code:=((ax (Tryz.f97.body.getD .skip))[0]?).getD .skip
def amu (s:wZ):T (Rd wZ):=
 .br (decide (s.i<s.n)) (.req (0≤s.i∧s.i<(s.l.length:Int)) (.req (0≤(gi s.l s.i)∧(gi s.l s.i)<((s.sums.length:Nat):Int)) (.req ((gi s.l s.i).toNat<s.sums.length) (.req (0≤(gi s.l s.i)∧(gi s.l s.i)<((s.sums.length:Nat):Int)) (.req ((gi s.l s.i).toNat<s.sums.length) (.req (0=0∧(s.sums.length)=List.length (s.sums.set (gi s.l s.i).toNat (aSe ((s.sums.getD (gi s.l s.i).toNat (Ty.dflt aSg))+s.more)))) (.rl s.levels (.ok (.next {s with i:=(aSe (s.i+1)),sums:=(s.sums.set (gi s.l s.i).toNat (aSe ((s.sums.getD (gi s.l s.i).toNat (Ty.dflt aSg))+s.more)))}))))))))) (.rl s.sums (.rl s.levels (.ok (.stop (.exit 0) s))))
abbrev azv (s:wZ):=(amu s).rd s
def alQ (s:wZ):Prop:=s.i=0∧(∀k:Nat,0≤s.sums.getD k 0∧s.sums.getD k 0≤2000)∧s.n=(s.l.length:Int)∧s.n≤1000∧(∀r∈s.l,0≤r∧r<(s.sums.length:Int))∧(0≤s.more∧s.more≤10000)
def alL (s:wZ):Prop:=(0≤s.i∧s.i≤s.n)∧(∀k:Nat,0≤s.sums.getD k 0∧s.sums.getD k 0≤2000+10000*s.i)∧s.n=(s.l.length:Int)∧s.n≤1000∧(∀r∈s.l,0≤r∧r<(s.sums.length:Int))∧(0≤s.more∧s.more≤10000)
def agM (s:wZ):Nat:=(s.n-s.i).toNat
def aI9 (x:Ex) (_ s':wZ):Prop:=x=.exit 0∧s'.i=s'.n
theorem aRf:∀s,alQ s→alL s:=by
 intro s h;obtain ⟨h0,h1,h2,h3⟩:=h;exact ⟨by omega,λk=>by have:=h1 k;omega,h2,h3⟩
theorem aLu (s:wZ) (hI:alL s):bJ (λs'=>alL s'∧agM s'<agM s) (λx s'=>aI9 x s s') (azv s):=by
 unfold azv amu;dsimp only [T.rd,T.rl];obtain ⟨⟨h0,h1⟩,h2,h3,h4,h5,h6⟩:=hI;refine ai (λc1=>?_) (λc1=>?_)
 ·have c1:s.i<s.n:=by simpa using c1
  have hb:=h2 (gi s.l s.i).toNat
  rw [aH (x:=s.i+1),aH (x:=s.sums.getD (gi s.l s.i).toNat (Ty.dflt aSg)+s.more) (by show _≤s.sums.getD (gi s.l s.i).toNat 0+s.more;omega) (by show s.sums.getD (gi s.l s.i).toNat 0+s.more≤_;omega)]
  refine ⟨⟨⟨by simp only;omega,by simp only;omega⟩,λk=>?_,h3,h4,λr hr=>by simp only [List.length_set];exact h5 r hr,h6⟩,by simp only [agM];omega⟩
  simp only
  have hk:=h2 k
  rw [uj];split
  ·show 0≤s.sums.getD (gi s.l s.i).toNat 0+s.more∧s.sums.getD (gi s.l s.i).toNat 0+s.more≤_
   omega
  ·omega
 ·have c1:s.n≤s.i:=by simpa using c1
  exact ⟨rfl,by omega⟩
def Xf:bK wZ:=⟨4,90,[1,2,6,7,66,67,68],[],aRY,aRK,λv b=>⟨gI (v.getD 0 .junk),gI (v.getD 2 .junk),aU aSg (v.getD 4 .junk),gI (v.getD 5 .junk),gI (v.getD 6 .junk),aU dY (bn (aT b 0) 0),aU .str (bn (aT b 0) 1),aU fC (bn (aT b 0) 2),aU dP (bn (aT b 0) 3),aU fD (bn (aT b 0) 4),aU dY (bn (aT b 1) 0),aU .str (bn (aT b 1) 1),aU fC (bn (aT b 1) 2),aU dP (bn (aT b 1) 3),aU fD (bn (aT b 1) 4),aU wE (bn (aT b 1) 5),aU aSg (bn (aT b 1) 6),aU aSg (bn (aT b 1) 7),aU aSg (bn (aT b 1) 8),aU aSg (bn (aT b 1) 9),aU aSg (bn (aT b 1) 10),aU aSg (bn (aT b 1) 11),aU aSg (bn (aT b 1) 12),aU aSg (bn (aT b 1) 13),aU aSg (bn (aT b 1) 14),aU aSg (bn (aT b 1) 15),aU aSg (bn (aT b 1) 16),aU aSg (bn (aT b 1) 17),aU aSg (bn (aT b 1) 18),aU aSg (bn (aT b 1) 19),aU aSg (bn (aT b 1) 20),aU aSg (bn (aT b 1) 21),aU aSg (bn (aT b 1) 23),iW aSg (aT b 2),iW aSg (aT b 3),gI (bn (aT b 5) 0)⟩,amu,λs r=> {r with qH:=s.qH,level:=s.level,l:=s.l,n:=s.n,di:=s.di,gB:=s.gB,dG:=s.dG,dN:=s.dN,jF:=s.jF,BG:=s.BG,BD:=s.BD,BF:=s.BF,gQ:=s.gQ,BH:=s.BH,bY:=s.bY,kL:=s.kL,kK:=s.kK,kJ:=s.kJ,kH:=s.kH,kG:=s.kG,kF:=s.kF,kE:=s.kE,kD:=s.kD,kC:=s.kC,kz:=s.kz,fA:=s.fA,eY:=s.eY,eX:=s.eX,eU:=s.eU,eP:=s.eP,eG:=s.eG,bH:=s.bH,levels:=s.levels,more:=s.more},λs=>s,λ_ s=>s,[.exit 0],alQ,alL,agM⟩
abbrev mV:=Xf.run
abbrev aIu:=Xf.jf
abbrev aDt:=Xf.q
def aqS:Hand:=inl Tryz.prog aP DZ (dK 93 7 2 (Bv.lp) (dK 95 1 3 (zS.lp) (dK 93 1 2 (yD.lp) (jT Tryz.prog aP (DZ) 20 2)))) 9
theorem aBA:dn Tryz.prog aP aqS:=bV Ij (bg Tryz.func93 rfl (by kernel_rfl) J7 (bg Tryz.func95 rfl (by kernel_rfl) Dj (bg Tryz.func93 rfl (by kernel_rfl) zT (dD Ij)))) 9
theorem aLK (s:wZ) (hI:alL s):(amu s).all (λ_=>True):=by
 refine ⟨λc1=>⟨?_,?_,?_,?_,?_,?_,aSf,trivial⟩,λc1=>⟨aSf,aSf,trivial⟩⟩
 all_goals ((obtain ⟨⟨h0,h1⟩,h2,h3,h4,h5,h6⟩:=hI;(try simp only [decide_eq_true_eq] at c1);first|(have hm:=h5 (gi s.l s.i) (jq (by omega) (by omega));omega) |exact ⟨rfl,by simp⟩ |exact ⟨rfl,rfl⟩))
theorem aoN:Xf.Ok:={}
theorem anx:Xf.Pf (aI9):=⟨aRf,λ_ _=>rfl,aLu,aLK⟩
theorem abd:bC Tryz.prog aP (AN 4) (.loop aiO) Xf.lp:=bK.snd aoN anx (bI (Γ:=DZ) (K:=aqS) (L:=(ql Tryz.prog aP DZ aqS 20 2)) Ij aBA aiO (λb _=>dA Ij aBA 20 2 b)) (λs=>by kernel_rfl)
theorem aE9 (s:wZ) (hE:alQ s):∃s',alL s'∧aI9 (aIu s) s' (mV s):=bK.fin aoN anx s hE
theorem awJ (s:wZ) (hE:alQ s):(λs:wZ=>CG s.sums s.more (s.l.drop s.i.toNat)) (mV s)=(λs:wZ=>CG s.sums s.more (s.l.drop s.i.toNat)) s:=by
 exact bK.yx aoN anx (λs:wZ=>CG s.sums s.more (s.l.drop s.i.toNat)) (λs hI=>by
  show bJ _ _ (azv s)
  unfold azv amu;dsimp only [T.rd,T.rl];obtain ⟨⟨h0,h1⟩,h2,h3,h4,h5,h6⟩:=hI;refine ai (λc1=>?_) (λc1=>rfl)
  have c1:s.i<s.n:=by simpa using c1
  have hb:=h2 (gi s.l s.i).toNat
  rw [aH (x:=s.i+1),aH (x:=s.sums.getD (gi s.l s.i).toNat (Ty.dflt aSg)+s.more) (by show _≤s.sums.getD (gi s.l s.i).toNat 0+s.more;omega) (by show s.sums.getD (gi s.l s.i).toNat 0+s.more≤_;omega)]
  show CG _ _ _=CG _ _ _
  rw [(gi_step h0 (show s.i<s.l.length by omega)).1]
  rfl) s hE
theorem am0 (s:wZ) (hE:alQ s):(mV s).sums=CG s.sums s.more s.l:=by
 have q3:=awJ s hE
 obtain ⟨s',hI,q1,q2⟩:=aE9 s hE;obtain ⟨h0,h1,h2,h3⟩:=hE;simp only at q3;rw [q2,show (mV s).n=s.n from rfl,show (mV s).l=s.l from rfl,show (mV s).more=s.more from rfl,List.drop_eq_nil_of_le (by omega),h0] at q3
 exact q3
structure iE where
 most:List Int
 order:List Int
 n:Int
 level:Int
 some:Bool
 l:List Int
 m:Int
 k:Int
 aj:List Cd
 aF:List ByteArray
 ak:List Ko
 af:List Ch
 aN:List Ba
 BG:List Cd
 BD:List ByteArray
 BF:List Ko
 gQ:List Ch
 BH:List Ba
 bY:List Rw
 kL:List Int
 kK:List Int
 kJ:List Int
 kH:List Int
 kG:List Int
 kF:List Int
 kE:List Int
 kD:List Int
 kC:List Int
 kz:List Int
 fA:List Int
 eY:List Int
 eX:List Int
 eU:List Int
 eP:List Int
 eG:List Int
 bH:List Int
 sums:List Int
 levels:List Int
def aPP (s:iE):List LV:=[.xl aSg s.most,.xl aSg s.order,.own 0 0,.v (.int .i64 s.n),.own 1 0,.v (.int .i64 s.level),.v (.bool s.some),.xl aSg s.l,.v (.int .i64 s.m),.v (.int .i64 s.k)]
def aOx (s:iE):List aZ:=[⟨[.xl dY s.aj,.xl .str s.aF,.xl fC s.ak,.xl dP s.af,.xl fD s.aN],28,.cl,false⟩,⟨[.xl dY s.BG,.xl .str s.BD,.xl fC s.BF,.xl dP s.gQ,.xl fD s.BH,.xl wE s.bY,.xl aSg s.kL,.xl aSg s.kK,.xl aSg s.kJ,.xl aSg s.kH,.xl aSg s.kG,.xl aSg s.kF,.xl aSg s.kE,.xl aSg s.kD,.xl aSg s.kC,.xl aSg s.kz,.xl aSg s.fA,.xl aSg s.eY,.xl aSg s.eX,.xl aSg s.eU,.xl aSg s.eP,.xl aSg s.eG,.os 2 1 0 (s.sums.length),.xl aSg s.bH,.os 3 1 0 (s.levels.length)],148,.cl,false⟩,⟨[],3,.vec aSg s.sums,false⟩,⟨[],3,.vec aSg s.levels,false⟩]
def Em:Code:=((ax (((ax (Tryz.f52.body.getD .skip))[0]?).getD .skip))[0]?).getD .skip
def xw (s:iE):rE:=letI c:=gi s.l s.k;letI d:=gi s.bH c;letI a:=bG s.gQ c;letI b:=aSe ((s.levels.getD c.toNat (Ty.dflt aSg))+1);(⟨false,(([s.kL,s.kK,s.kJ,s.kH,s.kG,s.kF,s.kE,s.kD,s.kC,s.kz,s.fA,s.eY,s.eX,s.eU,s.eP,s.eG]:List (List Int)).getD c.toNat []),(List.length (([s.kL,s.kK,s.kJ,s.kH,s.kG,s.kF,s.kE,s.kD,s.kC,s.kz,s.fA,s.eY,s.eX,s.eU,s.eP,s.eG]:List (List Int)).getD c.toNat []):Int),(0:Int),s.aj,s.aF,s.ak,s.af,s.aN,s.BG,s.BD,s.BF,s.gQ,s.BH,s.bY,s.kL,s.kK,s.kJ,s.kH,s.kG,s.kF,s.kE,s.kD,s.kC,s.kz,s.fA,s.eY,s.eX,s.eU,s.eP,s.eG,s.bH,s.sums,s.levels,a.1,a.2.1,a.2.2.1,a.2.2.2.1,a.2.2.2.2.1,a.2.2.2.2.2.1,a.2.2.2.2.2.2.1,a.2.2.2.2.2.2.2,(aSe ((if d<(CW a.2.2.2.1 a.2.2.2.2.2.1 b) then CW a.2.2.2.1 a.2.2.2.2.2.1 b else d)-(if d<(CW a.2.2.2.1 a.2.2.2.2.2.1 (aSe (b-1))) then CW a.2.2.2.1 a.2.2.2.2.2.1 (aSe (b-1)) else d)))⟩:rE)
def oP (s:iE):wZ:=letI b:=gi s.l s.k;letI c:=bG s.gQ b;letI d:=gi s.bH b;letI a:=aSe ((s.levels.getD b.toNat (Ty.dflt aSg))+1);(⟨b,a,(([s.kL,s.kK,s.kJ,s.kH,s.kG,s.kF,s.kE,s.kD,s.kC,s.kz,s.fA,s.eY,s.eX,s.eU,s.eP,s.eG]:List (List Int)).getD b.toNat []),(List.length (([s.kL,s.kK,s.kJ,s.kH,s.kG,s.kF,s.kE,s.kD,s.kC,s.kz,s.fA,s.eY,s.eX,s.eU,s.eP,s.eG]:List (List Int)).getD b.toNat []):Int),(0:Int),s.aj,s.aF,s.ak,s.af,s.aN,s.BG,s.BD,s.BF,s.gQ,s.BH,s.bY,s.kL,s.kK,s.kJ,s.kH,s.kG,s.kF,s.kE,s.kD,s.kC,s.kz,s.fA,s.eY,s.eX,s.eU,s.eP,s.eG,s.bH,s.sums,s.levels,(aSe ((if d<(CW c.2.2.2.1 c.2.2.2.2.2.1 a) then CW c.2.2.2.1 c.2.2.2.2.2.1 a else d)-(if d<(CW c.2.2.2.1 c.2.2.2.2.2.1 (aSe (a-1))) then CW c.2.2.2.1 c.2.2.2.2.2.1 (aSe (a-1)) else d)))⟩:wZ)
def Xz (s:iE):T (Rd iE):=
 .br (decide (s.k<s.m)) (.req (0≤s.k∧s.k<(s.l.length:Int)) (.req (0≤(gi s.l s.k)∧(gi s.l s.k)<((s.levels.length:Nat):Int)) (.req ((gi s.l s.k).toNat<s.levels.length) (.br ((s.levels.getD (gi s.l s.k).toNat (Ty.dflt aSg)) !=(aSe (s.level-1))) (.rl s.sums (.rl s.levels (.ok (.next {s with k:=(aSe (s.k+1))})))) (.req (0≤(gi s.l s.k)∧(gi s.l s.k)<(s.af.length:Int)) (.req (0≤(gi s.l s.k)∧(gi s.l s.k)<(s.most.length:Int)) (.req ((gi s.most (gi s.l s.k))≤9223372036854775807) (.br (decide ((Y1 (bG s.af (gi s.l s.k)).2.2.2.1 (bG s.af (gi s.l s.k)).2.2.2.2.1 (bG s.af (gi s.l s.k)).2.2.2.2.2.1 (gi s.most (gi s.l s.k)))<s.level)) (.rl s.sums (.rl s.levels (.ok (.next {s with k:=(aSe (s.k+1))})))) (.req (0≤(gi s.l s.k)∧(gi s.l s.k)<(s.gQ.length:Int)) (.req (0≤(gi s.l s.k)∧(gi s.l s.k)<((s.levels.length:Nat):Int)) (.req ((gi s.l s.k).toNat<s.levels.length) (.req (0≤(gi s.l s.k)∧(gi s.l s.k)<(s.bH.length:Int)) (.req ((1≤(bG s.gQ (gi s.l s.k)).2.2.2.1∧(bG s.gQ (gi s.l s.k)).2.2.2.1≤80∧1≤(bG s.gQ (gi s.l s.k)).2.2.2.2.2.1∧(bG s.gQ (gi s.l s.k)).2.2.2.2.2.1≤80)∧0≤(aSe ((s.levels.getD (gi s.l s.k).toNat (Ty.dflt aSg))+1))∧(aSe ((s.levels.getD (gi s.l s.k).toNat (Ty.dflt aSg))+1))≤1000) (.req (0≤(gi s.l s.k)∧(gi s.l s.k)<(s.bH.length:Int)) (.req ((1≤(bG s.gQ (gi s.l s.k)).2.2.2.1∧(bG s.gQ (gi s.l s.k)).2.2.2.1≤80∧1≤(bG s.gQ (gi s.l s.k)).2.2.2.2.2.1∧(bG s.gQ (gi s.l s.k)).2.2.2.2.2.1≤80)∧0≤(aSe ((aSe ((s.levels.getD (gi s.l s.k).toNat (Ty.dflt aSg))+1))-1))∧(aSe ((aSe ((s.levels.getD (gi s.l s.k).toNat (Ty.dflt aSg))+1))-1))≤1000) (.req (0≤(gi s.l s.k)∧(gi s.l s.k)<(16:Int)) (.rl s.sums (.rl s.levels (.req (aKd (xw s)) (.br (iV (KJ (xw s)) (.ret)) (.br (!(Ku (xw s)).r) (.br false (.rl s.sums (.rl s.levels (.ok (.next {s with some:=true,k:=(aSe (s.k+1))})))) (.rl s.sums (.rl s.levels (.ok (.next {s with k:=(aSe (s.k+1))}))))) (.req (0≤(gi s.l s.k)∧(gi s.l s.k)<(16:Int)) (.rl s.sums (.rl s.levels (.req (aDt (oP s)) (.req (0≤(gi s.l s.k)∧(gi s.l s.k)<((s.levels.length:Nat):Int)) (.req ((gi s.l s.k).toNat<s.levels.length) (.br true (.rl (mV (oP s)).sums (.req (0=0∧(s.levels.length)=List.length (s.levels.set (gi s.l s.k).toNat (aSe ((s.levels.getD (gi s.l s.k).toNat (Ty.dflt aSg))+1)))) (.ok (.next {s with some:=true,k:=(aSe (s.k+1)),sums:=(mV (oP s)).sums,levels:=(s.levels.set (gi s.l s.k).toNat (aSe ((s.levels.getD (gi s.l s.k).toNat (Ty.dflt aSg))+1)))})))) (.rl (mV (oP s)).sums (.req (0=0∧(s.levels.length)=List.length (s.levels.set (gi s.l s.k).toNat (aSe ((s.levels.getD (gi s.l s.k).toNat (Ty.dflt aSg))+1)))) (.ok (.next {s with k:=(aSe (s.k+1)),sums:=(mV (oP s)).sums,levels:=(s.levels.set (gi s.l s.k).toNat (aSe ((s.levels.getD (gi s.l s.k).toNat (Ty.dflt aSg))+1)))})))))))))))) (.br (!true) (.br false (.rl s.sums (.rl s.levels (.ok (.next {s with some:=true,k:=(aSe (s.k+1))})))) (.rl s.sums (.rl s.levels (.ok (.next {s with k:=(aSe (s.k+1))}))))) (.req (0≤(gi s.l s.k)∧(gi s.l s.k)<(16:Int)) (.rl s.sums (.rl s.levels (.req (aDt (oP s)) (.req (0≤(gi s.l s.k)∧(gi s.l s.k)<((s.levels.length:Nat):Int)) (.req ((gi s.l s.k).toNat<s.levels.length) (.br true (.rl (mV (oP s)).sums (.req (0=0∧(s.levels.length)=List.length (s.levels.set (gi s.l s.k).toNat (aSe ((s.levels.getD (gi s.l s.k).toNat (Ty.dflt aSg))+1)))) (.ok (.next {s with some:=true,k:=(aSe (s.k+1)),sums:=(mV (oP s)).sums,levels:=(s.levels.set (gi s.l s.k).toNat (aSe ((s.levels.getD (gi s.l s.k).toNat (Ty.dflt aSg))+1)))})))) (.rl (mV (oP s)).sums (.req (0=0∧(s.levels.length)=List.length (s.levels.set (gi s.l s.k).toNat (aSe ((s.levels.getD (gi s.l s.k).toNat (Ty.dflt aSg))+1)))) (.ok (.next {s with k:=(aSe (s.k+1)),sums:=(mV (oP s)).sums,levels:=(s.levels.set (gi s.l s.k).toNat (aSe ((s.levels.getD (gi s.l s.k).toNat (Ty.dflt aSg))+1)))})))))))))))))))))))))))))))))))) (.rl s.sums (.rl s.levels (.ok (.stop (.exit 2) s))))
abbrev ahr (s:iE):=(Xz s).rd s
def jg (s:iE):List (List Int):=[s.kL,s.kK,s.kJ,s.kH,s.kG,s.kF,s.kE,s.kD,s.kC,s.kz,s.fA,s.eY,s.eX,s.eU,s.eP,s.eG]
def TK (s:iE):Prop:=s.k=0∧(s.m=(s.l.length:Int)∧s.m≤1000∧1≤s.level∧s.level≤81)∧s.gQ=s.af∧OkT (jg s) s.bY s.gQ s.bH s.most s.l∧OkS s.bY s.l s.sums s.levels
def qh (s:iE):Prop:=(0≤s.k∧s.k≤s.m)∧(s.m=(s.l.length:Int)∧s.m≤1000∧1≤s.level∧s.level≤81)∧s.gQ=s.af∧OkT (jg s) s.bY s.gQ s.bH s.most s.l∧OkS s.bY s.l s.sums s.levels
def zf (s:iE):Nat:=(s.m-s.k).toNat
def akd (x:Ex) (_ s':iE):Prop:=x=.exit 2∧s'.k=s'.m
theorem aLm:∀s,TK s→qh s:=by
 intro s h;obtain ⟨h0,h1⟩:=h;exact ⟨by have:=h1.1;omega,h1⟩
theorem yw (s:iE) (hI:qh s) (c1:s.k<s.m):letI a:=gi s.l s.k;gi s.l s.k∈s.l∧(0≤gi s.l s.k∧gi s.l s.k<16)∧gi s.l s.k<(s.gQ.length:Int)∧gi s.l s.k<(s.af.length:Int)∧gi s.l s.k<(s.bH.length:Int)∧gi s.l s.k<(s.most.length:Int)∧gi s.l s.k<(s.levels.length:Int)∧(0≤gi s.most a∧gi s.most a≤80)∧(0≤gi s.bH a∧gi s.bH a≤80):=by
 obtain ⟨⟨h0,h1⟩,⟨h2,h3,h4,h5⟩,h6,hT,hS⟩:=hI
 have hm:gi s.l s.k∈s.l:=jq h0 (by omega)
 obtain ⟨o1,o2,o3,o4⟩:=hT.ord _ hm;exact ⟨hm,o1,o2,by rw [←h6];exact o2,o3,o4,hS.wz _ hm,hT.mo _ (jq o1.1 o4),hT.al _ (jq o1.1 o3)⟩
theorem wH {s:iE}(hI:qh s) (c2:((s.levels.getD (gi s.l s.k).toNat (Ty.dflt aSg)) !=(aSe (s.level-1)))=false):s.levels.getD (gi s.l s.k).toNat 0=s.level-1:=by
 obtain ⟨_,⟨h2,h3,h4,h5⟩,_⟩:=hI
 have c2:((s.levels.getD (gi s.l s.k).toNat 0) !=(aSe (s.level-1)))=false:=c2
 rw [aH (x:=s.level-1)] at c2
 simpa using c2
theorem Yw {s:iE}(hI:qh s) (c2:s.levels.getD (gi s.l s.k).toNat 0=s.level-1):letI a:=(s.levels.getD (gi s.l s.k).toNat (Ty.dflt aSg))+1;aSe a=s.level∧aSe ((aSe a)-1)=s.level-1:=by
 obtain ⟨_,⟨h2,h3,h4,h5⟩,_⟩:=hI
 have e:aSe ((s.levels.getD (gi s.l s.k).toNat (Ty.dflt aSg))+1)=s.level:=by
  have:(s.levels.getD (gi s.l s.k).toNat (Ty.dflt aSg))=s.level-1:=c2
  rw [this,aH (x:=s.level-1+1)];omega
 refine ⟨e,?_⟩;rw [e,aH]
theorem ng {s:iE}(hI:qh s) (c1:s.k<s.m) (c2:s.levels.getD (gi s.l s.k).toNat 0=s.level-1):letI a:=gi s.l s.k;(xw s).more=QK s.gQ s.bH a s.level∧(oP s).more=QK s.gQ s.bH a s.level∧0≤QK s.gQ s.bH a s.level∧QK s.gQ s.bH a s.level≤10000:=by
 have hx:=yw s hI c1
 obtain ⟨w1,w2⟩:=Yw hI c2;obtain ⟨_,⟨h2,h3,h4,h5⟩,h6,hT,hS⟩:=hI
 have hb:=aqc (gs:=s.gQ) (alive:=s.bH) (k:=s.level) (hT.has _ hx.1) hx.2.2.2.2.2.2.2.2 h4 h5
 have e:(xw s).more=QK s.gQ s.bH (gi s.l s.k) s.level:=by
  unfold xw;simp only [w2];simp only [w1]
  show aSe (QK s.gQ s.bH (gi s.l s.k) s.level)=_
  rw [aH]
 exact ⟨e,e,hb⟩
theorem aAW {s:iE}(hI:qh s) (c1:s.k<s.m):((jg s).getD (gi s.l s.k).toNat []).Nodup∧(((jg s).getD (gi s.l s.k).toNat []).length:Int)≤1000∧∀r∈(jg s).getD (gi s.l s.k).toNat [],0≤r∧r<(s.bY.length:Int):=by
 have hx:=yw s hI c1
 obtain ⟨_,_,_,hT,_⟩:=hI;refine hT.row _ ?_
 have hl:=hT.ol
 rw [List.getD_eq_getElem?_getD,List.getElem?_eq_getElem (by omega),Option.getD_some]
 exact List.getElem_mem _
theorem xE {s:iE}(hI:qh s) (c1:s.k<s.m) (c2:s.levels.getD (gi s.l s.k).toNat 0=s.level-1):aaP (xw s):=by
 obtain ⟨m1,m2,m3⟩:=ng hI c1 c2;obtain ⟨o1,o2,o3⟩:=aAW hI c1;obtain ⟨_,_,_,hT,hS⟩:=hI;exact ⟨rfl,Int.natCast_nonneg _,o2,rfl,o3,hS.len,hS.bd,by rw [m1];exact m3⟩
theorem Uk {s:iE}(hI:qh s) (c1:s.k<s.m) (c2:s.levels.getD (gi s.l s.k).toNat 0=s.level-1):alQ (oP s):=by
 obtain ⟨m1,m2,m3⟩:=ng hI c1 c2;obtain ⟨o1,o2,o3⟩:=aAW hI c1;obtain ⟨_,_,_,hT,hS⟩:=hI;refine ⟨rfl,hS.bd,rfl,o2,λr hr=>?_,by rw [m2];exact m3⟩
 have:=o3 r hr
 have hl:=hS.len
 show 0≤r∧r<(s.sums.length:Int)
 omega
theorem amO (s s':iE) (hI:qh s) (c1:s.k<s.m) (ht:(s'.sums,s'.levels,s'.some)=Gv (jg s) s.bY s.gQ s.bH s.most s.level (s.sums,s.levels,s.some) (gi s.l s.k)) (hk:s'.k=aSe (s.k+1))
  (h_m:s'.m=s.m) (h_l:s'.l=s.l) (h_v:s'.level=s.level) (h_g:s'.gQ=s.gQ) (h_c:s'.af=s.af) (h_r:s'.bY=s.bY) (h_a:s'.bH=s.bH) (h_w:s'.most=s.most) (h_O:jg s'=jg s):
  (qh s'∧zf s'<zf s)∧(λs:iE=>swp (jg s) s.bY s.gQ s.bH s.most s.level (s.sums,s.levels,s.some) (s.l.drop s.k.toNat)) s'=(λs:iE=>swp (jg s) s.bY s.gQ s.bH s.most s.level (s.sums,s.levels,s.some) (s.l.drop s.k.toNat)) s:=by
 have hx:=yw s hI c1
 obtain ⟨⟨h0,h1⟩,⟨h2,h3,h4,h5⟩,h6,hT,hS⟩:=hI;rw [aH (x:=s.k+1)] at hk
 have e1:s'.sums=(Gv (jg s) s.bY s.gQ s.bH s.most s.level (s.sums,s.levels,s.some) (gi s.l s.k)).1:=congrArg (·.1) ht
 have e2:s'.levels=(Gv (jg s) s.bY s.gQ s.bH s.most s.level (s.sums,s.levels,s.some) (gi s.l s.k)).2.1:=congrArg (·.2.1) ht
 refine ⟨⟨⟨⟨by omega,by omega⟩,⟨by rw [h_m,h_l];exact h2,by omega,by omega,by omega⟩,by rw [h_g,h_c];exact h6,by rw [h_O,h_r,h_g,h_a,h_w,h_l];exact hT,?_⟩,by simp only [zf];omega⟩,?_⟩
 ·rw [h_r,h_l,e1,e2]
  exact am1 hT hS hx.1 h4 h5
 ·simp only
  rw [h_O,h_r,h_g,h_a,h_w,h_v,h_l,ht,hk,(gi_step h0 (show s.k<s.l.length by omega)).1]
  rfl
theorem J9 (s s':iE) (hI:qh s) (c1:s.k<s.m) (ht:(s'.sums,s'.levels,s'.some)=Gv (jg s) s.bY s.gQ s.bH s.most s.level (s.sums,s.levels,s.some) (gi s.l s.k)) (hk:s'.k=aSe (s.k+1))
  (h_m:s'.m=s.m) (h_l:s'.l=s.l) (h_v:s'.level=s.level) (h_g:s'.gQ=s.gQ) (h_c:s'.af=s.af) (h_r:s'.bY=s.bY) (h_a:s'.bH=s.bH) (h_w:s'.most=s.most) (h_O:jg s'=jg s):bJ (λs'=>qh s'∧zf s'<zf s) (λx s'=>akd x s s') (.next s'):=(amO s s' hI c1 ht hk h_m h_l h_v h_g h_c h_r h_a h_w h_O).1
theorem J8 (s s':iE) (hI:qh s) (c1:s.k<s.m) (ht:(s'.sums,s'.levels,s'.some)=Gv (jg s) s.bY s.gQ s.bH s.most s.level (s.sums,s.levels,s.some) (gi s.l s.k)) (hk:s'.k=aSe (s.k+1))
  (h_m:s'.m=s.m) (h_l:s'.l=s.l) (h_v:s'.level=s.level) (h_g:s'.gQ=s.gQ) (h_c:s'.af=s.af) (h_r:s'.bY=s.bY) (h_a:s'.bH=s.bH) (h_w:s'.most=s.most) (h_O:jg s'=jg s):bJ (λs'=>(λs:iE=>swp (jg s) s.bY s.gQ s.bH s.most s.level (s.sums,s.levels,s.some) (s.l.drop s.k.toNat)) s'=(λs:iE=>swp (jg s) s.bY s.gQ s.bH s.most s.level (s.sums,s.levels,s.some) (s.l.drop s.k.toNat)) s) (λ_ s'=>(λs:iE=>swp (jg s) s.bY s.gQ s.bH s.most s.level (s.sums,s.levels,s.some) (s.l.drop s.k.toNat)) s'=(λs:iE=>swp (jg s) s.bY s.gQ s.bH s.most s.level (s.sums,s.levels,s.some) (s.l.drop s.k.toNat)) s) (.next s'):=(amO s s' hI c1 ht hk h_m h_l h_v h_g h_c h_r h_a h_w h_O).2
theorem aE0 (s:iE) (hI:qh s):bJ (λs'=>qh s'∧zf s'<zf s) (λx s'=>akd x s s') (ahr s):=by
 unfold ahr Xz;dsimp only [T.rd,T.rl];refine ai (λc1=>?_) (λc1=>?_)
 ·refine ai (λc2=>?_) (λc2=>?_)
  ·have c1:s.k<s.m:=by simpa using c1
   have hn:¬(s.levels.getD (gi s.l s.k).toNat 0=s.level-1∧s.level≤Bg s.gQ (gi s.l s.k) (gi s.most (gi s.l s.k))):=λh=>by
    obtain ⟨_,⟨h2,h3,h4,h5⟩,_⟩:=hI
    have c2:((s.levels.getD (gi s.l s.k).toNat 0) !=(aSe (s.level-1)))=true:=c2
    rw [aH (x:=s.level-1)] at c2
    have c2:¬s.levels.getD (gi s.l s.k).toNat 0=s.level-1:=by simpa using c2
    exact c2 h.1
   exact J9 s _ hI (by simpa using c1) (by unfold Gv;rw [if_neg hn]) rfl rfl rfl rfl rfl rfl rfl rfl rfl rfl
  ·refine ai (λc3=>?_) (λc3=>?_)
   ·have c1:s.k<s.m:=by simpa using c1
    have hn:¬(s.levels.getD (gi s.l s.k).toNat 0=s.level-1∧s.level≤Bg s.gQ (gi s.l s.k) (gi s.most (gi s.l s.k))):=λh=>by
     obtain ⟨_,_,h6,_⟩:=hI;simp only [decide_eq_true_eq] at c3;rw [←h6] at c3
     have:=h.2
     unfold Bg at this;omega
    exact J9 s _ hI (by simpa using c1) (by unfold Gv;rw [if_neg hn]) rfl rfl rfl rfl rfl rfl rfl rfl rfl rfl
   ·refine ai (λc4=>?_) (λc4=>?_)
    ·refine ai (λc5=>?_) (λc5=>?_)
     ·refine ai (λc6=>?_) (λc6=>?_)
      ·cases c6
      ·have c1:s.k<s.m:=by simpa using c1
       have c2:=wH hI c2
       have hp:s.levels.getD (gi s.l s.k).toNat 0=s.level-1∧s.level≤Bg s.gQ (gi s.l s.k) (gi s.most (gi s.l s.k)):=by
        refine ⟨c2,?_⟩
        have h6:=hI.2.2.1
        simp only [decide_eq_false_iff_not] at c3;rw [←h6] at c3;unfold Bg;omega
       have hE:=xE hI c1 c2
       obtain ⟨m1,m2,_⟩:=ng hI c1 c2;rcases vH _ hE with ⟨q1,q2⟩ |⟨q1,q2,q3⟩
       ·rw [q1] at c4
        cases c4
       ·rw [m1] at q3
        have q3:((jg s).getD (gi s.l s.k).toNat []).all (D8 s.bY s.sums (QK s.gQ s.bH (gi s.l s.k) s.level))=false:=q3
        exact J9 s _ hI (by simpa using c1) (by unfold Gv;rw [if_pos hp,if_neg (by rw [q3];simp)]) rfl rfl rfl rfl rfl rfl rfl rfl rfl rfl
     ·refine ai (λc6=>?_) (λc6=>?_)
      ·have c1:s.k<s.m:=by simpa using c1
       have c2:=wH hI c2
       have hp:s.levels.getD (gi s.l s.k).toNat 0=s.level-1∧s.level≤Bg s.gQ (gi s.l s.k) (gi s.most (gi s.l s.k)):=by
        refine ⟨c2,?_⟩
        have h6:=hI.2.2.1
        simp only [decide_eq_false_iff_not] at c3;rw [←h6] at c3;unfold Bg;omega
       have hE:=xE hI c1 c2
       obtain ⟨m1,m2,_⟩:=ng hI c1 c2;rcases vH _ hE with ⟨q1,q2⟩ |⟨q1,q2,q3⟩
       ·rw [q1] at c4
        cases c4
       ·rw [q2] at c5
        cases c5
      ·have c1:s.k<s.m:=by simpa using c1
       have c2:=wH hI c2
       have hp:s.levels.getD (gi s.l s.k).toNat 0=s.level-1∧s.level≤Bg s.gQ (gi s.l s.k) (gi s.most (gi s.l s.k)):=by
        refine ⟨c2,?_⟩
        have h6:=hI.2.2.1
        simp only [decide_eq_false_iff_not] at c3;rw [←h6] at c3;unfold Bg;omega
       have hE:=xE hI c1 c2
       obtain ⟨m1,m2,_⟩:=ng hI c1 c2;rcases vH _ hE with ⟨q1,q2⟩ |⟨q1,q2,q3⟩
       ·rw [q1] at c4
        cases c4
       ·rw [q2] at c5
        cases c5
    ·refine ai (λc5=>?_) (λc5=>?_)
     ·refine ai (λc6=>?_) (λc6=>?_)
      ·cases c5
      ·cases c5
     ·refine ai (λc6=>?_) (λc6=>?_)
      ·have c1:s.k<s.m:=by simpa using c1
       have c2:=wH hI c2
       have hp:s.levels.getD (gi s.l s.k).toNat 0=s.level-1∧s.level≤Bg s.gQ (gi s.l s.k) (gi s.most (gi s.l s.k)):=by
        refine ⟨c2,?_⟩
        have h6:=hI.2.2.1
        simp only [decide_eq_false_iff_not] at c3;rw [←h6] at c3;unfold Bg;omega
       have hE:=xE hI c1 c2
       obtain ⟨m1,m2,_⟩:=ng hI c1 c2
       have hR:=Uk hI c1 c2
       rcases vH _ hE with ⟨q1,q2⟩ |⟨q1,q2,q3⟩
       ·rw [m1] at q2
        have q2:((jg s).getD (gi s.l s.k).toNat []).all (D8 s.bY s.sums (QK s.gQ s.bH (gi s.l s.k) s.level))=true:=q2
        have r1:=am0 _ hR
        rw [m2] at r1
        have r1:(mV (oP s)).sums=CG s.sums (QK s.gQ s.bH (gi s.l s.k) s.level) ((jg s).getD (gi s.l s.k).toNat []):=r1
        have w1:=(Yw hI c2).1
        exact J9 s _ hI (by simpa using c1) (by unfold Gv;rw [if_pos hp,if_pos q2,←r1,←w1]) rfl rfl rfl rfl rfl rfl rfl rfl rfl rfl
       ·rw [q1] at c4
        cases c4
      ·cases c6
 ·have c1:s.m≤s.k:=by simpa using c1
  have h0:=hI.1
  exact ⟨rfl,by omega⟩
def PE:bK iE:=⟨0,129,[2,3,4,12,14,15,16,66,67,68],[],aPP,aOx,λv b=>⟨aU aSg (v.getD 0 .junk),aU aSg (v.getD 1 .junk),gI (v.getD 3 .junk),gI (v.getD 5 .junk),vW (v.getD 6 .junk),aU aSg (v.getD 7 .junk),gI (v.getD 8 .junk),gI (v.getD 9 .junk),aU dY (bn (aT b 0) 0),aU .str (bn (aT b 0) 1),aU fC (bn (aT b 0) 2),aU dP (bn (aT b 0) 3),aU fD (bn (aT b 0) 4),aU dY (bn (aT b 1) 0),aU .str (bn (aT b 1) 1),aU fC (bn (aT b 1) 2),aU dP (bn (aT b 1) 3),aU fD (bn (aT b 1) 4),aU wE (bn (aT b 1) 5),aU aSg (bn (aT b 1) 6),aU aSg (bn (aT b 1) 7),aU aSg (bn (aT b 1) 8),aU aSg (bn (aT b 1) 9),aU aSg (bn (aT b 1) 10),aU aSg (bn (aT b 1) 11),aU aSg (bn (aT b 1) 12),aU aSg (bn (aT b 1) 13),aU aSg (bn (aT b 1) 14),aU aSg (bn (aT b 1) 15),aU aSg (bn (aT b 1) 16),aU aSg (bn (aT b 1) 17),aU aSg (bn (aT b 1) 18),aU aSg (bn (aT b 1) 19),aU aSg (bn (aT b 1) 20),aU aSg (bn (aT b 1) 21),aU aSg (bn (aT b 1) 23),iW aSg (aT b 2),iW aSg (aT b 3)⟩,Xz,λs r=> {r with most:=s.most,order:=s.order,n:=s.n,level:=s.level,l:=s.l,m:=s.m,aj:=s.aj,aF:=s.aF,ak:=s.ak,af:=s.af,aN:=s.aN,BG:=s.BG,BD:=s.BD,BF:=s.BF,gQ:=s.gQ,BH:=s.BH,bY:=s.bY,kL:=s.kL,kK:=s.kK,kJ:=s.kJ,kH:=s.kH,kG:=s.kG,kF:=s.kF,kE:=s.kE,kD:=s.kD,kC:=s.kC,kz:=s.kz,fA:=s.fA,eY:=s.eY,eX:=s.eX,eU:=s.eU,eP:=s.eP,eG:=s.eG,bH:=s.bH},λs=>s,λ_ s=>s,[.exit 2],TK,qh,zf⟩
abbrev gJ:=PE.run
abbrev azy:=PE.jf
abbrev aJl:=PE.q
set_option maxRecDepth 100000 in
set_option maxHeartbeats 4000000 in
theorem aFp (s:iE) (hI:qh s):(Xz s).all (λ_=>True):=by
 refine ⟨λc1=>⟨?_,?_,?_,λc2=>⟨aSf,aSf,trivial⟩,λc2=>⟨?_,?_,?_,λc3=>⟨aSf,aSf,trivial⟩,λc3=>⟨?_,?_,?_,?_,?_,?_,?_,?_,aSf,aSf,?_,λc4=>⟨λc5=>⟨λc6=>⟨aSf,aSf,trivial⟩,λc6=>⟨aSf,aSf,trivial⟩⟩,λc5=>⟨?_,aSf,aSf,?_,?_,?_,λc7=>⟨aSf,?_,trivial⟩,λc7=>⟨aSf,?_,trivial⟩⟩⟩,λc4=>⟨λc8=>⟨λc9=>⟨aSf,aSf,trivial⟩,λc9=>⟨aSf,aSf,trivial⟩⟩,λc8=>⟨?_,aSf,aSf,?_,?_,?_,λc10=>⟨aSf,?_,trivial⟩,λc10=>⟨aSf,?_,trivial⟩⟩⟩⟩⟩⟩,λc1=>⟨aSf,aSf,trivial⟩⟩
 ·(have:=hI.1;have:=hI.2.1.1;simp only [decide_eq_true_eq] at c1;omega)
 iterate 9 · (have hx:=yw s hI (by simpa using c1);omega)
 ·(have hx:=yw s hI (by simpa using c1);obtain ⟨w1,w2⟩:=Yw hI (wH hI c2);have hh:=fZ.1 (hI.2.2.2.1.has _ hx.1);have hb:=hI.2.1;(first|rw [w2] |rw [w1]);omega)
 ·(have hx:=yw s hI (by simpa using c1);omega)
 ·(have hx:=yw s hI (by simpa using c1);obtain ⟨w1,w2⟩:=Yw hI (wH hI c2);have hh:=fZ.1 (hI.2.2.2.1.has _ hx.1);have hb:=hI.2.1;(first|rw [w2] |rw [w1]);omega)
 ·(have hx:=yw s hI (by simpa using c1);omega)
 ·exact ⟨xE hI (by simpa using c1) (wH hI c2),rfl,rfl⟩
 ·(have hx:=yw s hI (by simpa using c1);omega)
 ·exact ⟨Uk hI (by simpa using c1) (wH hI c2),rfl,rfl⟩
 iterate 2 · (have hx:=yw s hI (by simpa using c1);omega)
 iterate 2 · exact ⟨rfl,by simp⟩
 ·(have hx:=yw s hI (by simpa using c1);omega)
 ·exact ⟨Uk hI (by simpa using c1) (wH hI c2),rfl,rfl⟩
 iterate 2 · (have hx:=yw s hI (by simpa using c1);omega)
 iterate 2 · exact ⟨rfl,by simp⟩
def ahj:Specs:=aW [(24,qx),(61,uF),(94,uD),(96,uz)]
theorem aq8:∀g S,ahj g=some S→Valid Tryz.prog aP g S:=aS (l:=[(24,qx),(61,uF),(94,uD),(96,uz)]) ⟨Gl,La,KZ,KY,trivial⟩
def aBL:Hand:=inl Tryz.prog aP ahj (dK 97 4 8 (Xf.lp) (dK 93 7 2 (Bv.lp) (dK 95 1 3 (zS.lp) (dK 93 1 2 (yD.lp) (jT Tryz.prog aP (ahj) 20 2))))) 9
theorem aM6:dn Tryz.prog aP aBL:=bV aq8 (bg Tryz.func97 rfl (by kernel_rfl) abd (bg Tryz.func93 rfl (by kernel_rfl) J7 (bg Tryz.func95 rfl (by kernel_rfl) Dj (bg Tryz.func93 rfl (by kernel_rfl) zT (dD aq8))))) 9
theorem abY:PE.Ok:={}
theorem abA:PE.Pf (akd):=⟨aLm,λ_ _=>rfl,aE0,aFp⟩
set_option maxRecDepth 100000 in
set_option maxHeartbeats 4000000 in
theorem avn:bC Tryz.prog aP (AN 0) (.loop Em) PE.lp:=bK.snd abY abA (aQ (Γ:=ahj) (K:=aBL) (L:=ay) aq8 aM6 Em (λb hb=>by rw [show ax Em=[] by kernel_rfl] at hb;cases hb)) (λs=>by kernel_rfl)
theorem awz (s:iE) (hE:TK s):∃s',qh s'∧akd (azy s) s' (gJ s):=bK.fin abY abA s hE
theorem amP (s:iE) (hE:TK s):(λs:iE=>swp (jg s) s.bY s.gQ s.bH s.most s.level (s.sums,s.levels,s.some) (s.l.drop s.k.toNat)) (gJ s)=(λs:iE=>swp (jg s) s.bY s.gQ s.bH s.most s.level (s.sums,s.levels,s.some) (s.l.drop s.k.toNat)) s:=by
 exact bK.yx abY abA (λs:iE=>swp (jg s) s.bY s.gQ s.bH s.most s.level (s.sums,s.levels,s.some) (s.l.drop s.k.toNat)) (λs hI=>by
  show bJ _ _ (ahr s)
  unfold ahr Xz;dsimp only [T.rd,T.rl];refine ai (λc1=>?_) (λc1=>?_)
  ·refine ai (λc2=>?_) (λc2=>?_)
   ·have c1:s.k<s.m:=by simpa using c1
    have hn:¬(s.levels.getD (gi s.l s.k).toNat 0=s.level-1∧s.level≤Bg s.gQ (gi s.l s.k) (gi s.most (gi s.l s.k))):=λh=>by
     obtain ⟨_,⟨h2,h3,h4,h5⟩,_⟩:=hI
     have c2:((s.levels.getD (gi s.l s.k).toNat 0) !=(aSe (s.level-1)))=true:=c2
     rw [aH (x:=s.level-1)] at c2
     have c2:¬s.levels.getD (gi s.l s.k).toNat 0=s.level-1:=by simpa using c2
     exact c2 h.1
    exact J8 s _ hI (by simpa using c1) (by unfold Gv;rw [if_neg hn]) rfl rfl rfl rfl rfl rfl rfl rfl rfl rfl
   ·refine ai (λc3=>?_) (λc3=>?_)
    ·have c1:s.k<s.m:=by simpa using c1
     have hn:¬(s.levels.getD (gi s.l s.k).toNat 0=s.level-1∧s.level≤Bg s.gQ (gi s.l s.k) (gi s.most (gi s.l s.k))):=λh=>by
      obtain ⟨_,_,h6,_⟩:=hI;simp only [decide_eq_true_eq] at c3;rw [←h6] at c3
      have:=h.2
      unfold Bg at this;omega
     exact J8 s _ hI (by simpa using c1) (by unfold Gv;rw [if_neg hn]) rfl rfl rfl rfl rfl rfl rfl rfl rfl rfl
    ·refine ai (λc4=>?_) (λc4=>?_)
     ·refine ai (λc5=>?_) (λc5=>?_)
      ·refine ai (λc6=>?_) (λc6=>?_)
       ·cases c6
       ·have c1:s.k<s.m:=by simpa using c1
        have c2:=wH hI c2
        have hp:s.levels.getD (gi s.l s.k).toNat 0=s.level-1∧s.level≤Bg s.gQ (gi s.l s.k) (gi s.most (gi s.l s.k)):=by
         refine ⟨c2,?_⟩
         have h6:=hI.2.2.1
         simp only [decide_eq_false_iff_not] at c3;rw [←h6] at c3;unfold Bg;omega
        have hE:=xE hI c1 c2
        obtain ⟨m1,m2,_⟩:=ng hI c1 c2;rcases vH _ hE with ⟨q1,q2⟩ |⟨q1,q2,q3⟩
        ·rw [q1] at c4
         cases c4
        ·rw [m1] at q3
         have q3:((jg s).getD (gi s.l s.k).toNat []).all (D8 s.bY s.sums (QK s.gQ s.bH (gi s.l s.k) s.level))=false:=q3
         exact J8 s _ hI (by simpa using c1) (by unfold Gv;rw [if_pos hp,if_neg (by rw [q3];simp)]) rfl rfl rfl rfl rfl rfl rfl rfl rfl rfl
      ·refine ai (λc6=>?_) (λc6=>?_)
       ·have c1:s.k<s.m:=by simpa using c1
        have c2:=wH hI c2
        have hp:s.levels.getD (gi s.l s.k).toNat 0=s.level-1∧s.level≤Bg s.gQ (gi s.l s.k) (gi s.most (gi s.l s.k)):=by
         refine ⟨c2,?_⟩
         have h6:=hI.2.2.1
         simp only [decide_eq_false_iff_not] at c3;rw [←h6] at c3;unfold Bg;omega
        have hE:=xE hI c1 c2
        obtain ⟨m1,m2,_⟩:=ng hI c1 c2;rcases vH _ hE with ⟨q1,q2⟩ |⟨q1,q2,q3⟩
        ·rw [q1] at c4
         cases c4
        ·rw [q2] at c5
         cases c5
       ·have c1:s.k<s.m:=by simpa using c1
        have c2:=wH hI c2
        have hp:s.levels.getD (gi s.l s.k).toNat 0=s.level-1∧s.level≤Bg s.gQ (gi s.l s.k) (gi s.most (gi s.l s.k)):=by
         refine ⟨c2,?_⟩
         have h6:=hI.2.2.1
         simp only [decide_eq_false_iff_not] at c3;rw [←h6] at c3;unfold Bg;omega
        have hE:=xE hI c1 c2
        obtain ⟨m1,m2,_⟩:=ng hI c1 c2;rcases vH _ hE with ⟨q1,q2⟩ |⟨q1,q2,q3⟩
        ·rw [q1] at c4
         cases c4
        ·rw [q2] at c5
         cases c5
     ·refine ai (λc5=>?_) (λc5=>?_)
      ·refine ai (λc6=>?_) (λc6=>?_)
       ·cases c5
       ·cases c5
      ·refine ai (λc6=>?_) (λc6=>?_)
       ·have c1:s.k<s.m:=by simpa using c1
        have c2:=wH hI c2
        have hp:s.levels.getD (gi s.l s.k).toNat 0=s.level-1∧s.level≤Bg s.gQ (gi s.l s.k) (gi s.most (gi s.l s.k)):=by
         refine ⟨c2,?_⟩
         have h6:=hI.2.2.1
         simp only [decide_eq_false_iff_not] at c3;rw [←h6] at c3;unfold Bg;omega
        have hE:=xE hI c1 c2
        obtain ⟨m1,m2,_⟩:=ng hI c1 c2
        have hR:=Uk hI c1 c2
        rcases vH _ hE with ⟨q1,q2⟩ |⟨q1,q2,q3⟩
        ·rw [m1] at q2
         have q2:((jg s).getD (gi s.l s.k).toNat []).all (D8 s.bY s.sums (QK s.gQ s.bH (gi s.l s.k) s.level))=true:=q2
         have r1:=am0 _ hR
         rw [m2] at r1
         have r1:(mV (oP s)).sums=CG s.sums (QK s.gQ s.bH (gi s.l s.k) s.level) ((jg s).getD (gi s.l s.k).toNat []):=r1
         have w1:=(Yw hI c2).1
         exact J8 s _ hI (by simpa using c1) (by unfold Gv;rw [if_pos hp,if_pos q2,←r1,←w1]) rfl rfl rfl rfl rfl rfl rfl rfl rfl rfl
        ·rw [q1] at c4
         cases c4
       ·cases c6
  ·rfl) s hE
theorem awy (s:iE) (hE:TK s):((gJ s).sums,(gJ s).levels,(gJ s).some)=swp (jg s) s.bY s.gQ s.bH s.most s.level (s.sums,s.levels,s.some) s.l:=by
 have q3:=amP s hE
 obtain ⟨s',hI,q1,q2⟩:=awz s hE;obtain ⟨h0,h1,_⟩:=hE;simp only at q3;rw [q2,show (gJ s).m=s.m from rfl,show (gJ s).l=s.l from rfl,List.drop_eq_nil_of_le (by omega),h0] at q3
 exact q3
structure ou where
 most:List Int
 order:List Int
 n:Int
 level:Int
 aj:List Cd
 aF:List ByteArray
 ak:List Ko
 af:List Ch
 aN:List Ba
 BG:List Cd
 BD:List ByteArray
 BF:List Ko
 gQ:List Ch
 BH:List Ba
 bY:List Rw
 kL:List Int
 kK:List Int
 kJ:List Int
 kH:List Int
 kG:List Int
 kF:List Int
 kE:List Int
 kD:List Int
 kC:List Int
 kz:List Int
 fA:List Int
 eY:List Int
 eX:List Int
 eU:List Int
 eP:List Int
 eG:List Int
 bH:List Int
 sums:List Int
 levels:List Int
def aPO (s:ou):List LV:=[.xl aSg s.most,.xl aSg s.order,.own 0 0,.v (.int .i64 s.n),.own 1 0,.v (.int .i64 s.level)]
def aOw (s:ou):List aZ:=[⟨[.xl dY s.aj,.xl .str s.aF,.xl fC s.ak,.xl dP s.af,.xl fD s.aN],28,.cl,false⟩,⟨[.xl dY s.BG,.xl .str s.BD,.xl fC s.BF,.xl dP s.gQ,.xl fD s.BH,.xl wE s.bY,.xl aSg s.kL,.xl aSg s.kK,.xl aSg s.kJ,.xl aSg s.kH,.xl aSg s.kG,.xl aSg s.kF,.xl aSg s.kE,.xl aSg s.kD,.xl aSg s.kC,.xl aSg s.kz,.xl aSg s.fA,.xl aSg s.eY,.xl aSg s.eX,.xl aSg s.eU,.xl aSg s.eP,.xl aSg s.eG,.os 2 1 0 (s.sums.length),.xl aSg s.bH,.os 3 1 0 (s.levels.length)],148,.cl,false⟩,⟨[],3,.vec aSg s.sums,false⟩,⟨[],3,.vec aSg s.levels,false⟩]
def NW:Code:=((ax (Tryz.f52.body.getD .skip))[0]?).getD .skip
def iQ (s:ou):iE:=(⟨s.most,s.order,s.n,s.level,false,s.order,(s.order.length:Int),(0:Int),s.aj,s.aF,s.ak,s.af,s.aN,s.BG,s.BD,s.BF,s.gQ,s.BH,s.bY,s.kL,s.kK,s.kJ,s.kH,s.kG,s.kF,s.kE,s.kD,s.kC,s.kz,s.fA,s.eY,s.eX,s.eU,s.eP,s.eG,s.bH,s.sums,s.levels⟩:iE)
def Xy (s:ou):T (Rd ou):=
 .rl s.sums (.rl s.levels (.req (aJl (iQ s)) (.br (!(gJ (iQ s)).some) (.rl (gJ (iQ s)).sums (.rl (gJ (iQ s)).levels (.ok (.stop (.exit 0) {s with sums:=(gJ (iQ s)).sums,levels:=(gJ (iQ s)).levels})))) (.rl (gJ (iQ s)).sums (.rl (gJ (iQ s)).levels (.ok (.next {s with level:=(aSe (s.level+1)),sums:=(gJ (iQ s)).sums,levels:=(gJ (iQ s)).levels})))))))
abbrev ahq (s:ou):=(Xy s).rd s
def wX (s:ou):List (List Int):=[s.kL,s.kK,s.kJ,s.kH,s.kG,s.kF,s.kE,s.kD,s.kC,s.kz,s.fA,s.eY,s.eX,s.eU,s.eP,s.eG]
def akm (s:ou):Prop:=s.level=1∧(s.order.length:Int)≤1000∧s.gQ=s.af∧OkT (wX s) s.bY s.gQ s.bH s.most s.order∧OkS s.bY s.order s.sums s.levels
def OI (s:ou):Prop:=(1≤s.level∧s.level≤81)∧(s.order.length:Int)≤1000∧s.gQ=s.af∧OkT (wX s) s.bY s.gQ s.bH s.most s.order∧OkS s.bY s.order s.sums s.levels
def UJ (s:ou):Nat:=(82-s.level).toNat
def aC7 (x:Ex) (_ _:ou):Prop:=x=.exit 0
theorem aLl:∀s,akm s→OI s:=by
 intro s h;obtain ⟨h0,h1⟩:=h;exact ⟨by omega,h1⟩
theorem amM (s:ou) (hI:OI s):TK (iQ s):=by
 obtain ⟨⟨h0,h1⟩,h2,h3,hT,hS⟩:=hI;exact ⟨rfl,⟨rfl,h2,h0,h1⟩,h3,hT,hS⟩
theorem aAV (s:ou) (hI:OI s):((gJ (iQ s)).sums,(gJ (iQ s)).levels,(gJ (iQ s)).some)=swp (wX s) s.bY s.gQ s.bH s.most s.level (s.sums,s.levels,false) s.order:=awy _ (amM s hI)
theorem aEZ (s:ou) (hI:OI s):bJ (λs'=>OI s'∧UJ s'<UJ s) (λx s'=>aC7 x s s') (ahq s):=by
 unfold ahq Xy;dsimp only [T.rd,T.rl]
 have hr:=aAV s hI
 obtain ⟨⟨h0,h1⟩,h2,h3,hT,hS⟩:=hI;refine ai (λc1=>rfl) (λc1=>?_)
 have c1:(gJ (iQ s)).some=true:=by simpa using c1
 have hk:=aa8 hT h0 h1 s.order (s.sums,s.levels,false) (λ_ h=>h) hS
 have hs:=Dc (O:=wX s) (rows:=s.bY) (gs:=s.gQ) (alive:=s.bH) (most:=s.most) (level:=s.level) s.order (s.sums,s.levels,false)
 rw [←hr] at hk hs
 have h80:s.level≤80:=by
  rcases hs c1 with h|h
  ·cases h
  ·exact h
 rw [aH (x:=s.level+1)];exact ⟨⟨⟨by simp only;omega,by simp only;omega⟩,h2,h3,hT,hk⟩,by simp only [UJ];omega⟩
def PD:bK ou:=⟨0,129,[2,3,4,12,14,15],[.ps 14 6 aSg,.ps 14 7 aSg,.ps 14 8 aSg,.ps 14 9 aSg,.ps 14 10 aSg,.ps 14 11 aSg,.ps 14 12 aSg,.ps 14 13 aSg,.ps 14 14 aSg,.ps 14 15 aSg,.ps 14 16 aSg,.ps 14 17 aSg,.ps 14 18 aSg,.ps 14 19 aSg,.ps 14 20 aSg,.ps 14 21 aSg],aPO,aOw,λv b=>⟨aU aSg (v.getD 0 .junk),aU aSg (v.getD 1 .junk),gI (v.getD 3 .junk),gI (v.getD 5 .junk),aU dY (bn (aT b 0) 0),aU .str (bn (aT b 0) 1),aU fC (bn (aT b 0) 2),aU dP (bn (aT b 0) 3),aU fD (bn (aT b 0) 4),aU dY (bn (aT b 1) 0),aU .str (bn (aT b 1) 1),aU fC (bn (aT b 1) 2),aU dP (bn (aT b 1) 3),aU fD (bn (aT b 1) 4),aU wE (bn (aT b 1) 5),aU aSg (bn (aT b 1) 6),aU aSg (bn (aT b 1) 7),aU aSg (bn (aT b 1) 8),aU aSg (bn (aT b 1) 9),aU aSg (bn (aT b 1) 10),aU aSg (bn (aT b 1) 11),aU aSg (bn (aT b 1) 12),aU aSg (bn (aT b 1) 13),aU aSg (bn (aT b 1) 14),aU aSg (bn (aT b 1) 15),aU aSg (bn (aT b 1) 16),aU aSg (bn (aT b 1) 17),aU aSg (bn (aT b 1) 18),aU aSg (bn (aT b 1) 19),aU aSg (bn (aT b 1) 20),aU aSg (bn (aT b 1) 21),aU aSg (bn (aT b 1) 23),iW aSg (aT b 2),iW aSg (aT b 3)⟩,Xy,λs r=> {r with most:=s.most,order:=s.order,n:=s.n,aj:=s.aj,aF:=s.aF,ak:=s.ak,af:=s.af,aN:=s.aN,BG:=s.BG,BD:=s.BD,BF:=s.BF,gQ:=s.gQ,BH:=s.BH,bY:=s.bY,kL:=s.kL,kK:=s.kK,kJ:=s.kJ,kH:=s.kH,kG:=s.kG,kF:=s.kF,kE:=s.kE,kD:=s.kD,kC:=s.kC,kz:=s.kz,fA:=s.fA,eY:=s.eY,eX:=s.eX,eU:=s.eU,eP:=s.eP,eG:=s.eG,bH:=s.bH},λs=>s,λ_ s=>s,[.exit 0],akm,OI,UJ⟩
abbrev jM:=PD.run
abbrev Xc:=PD.q
theorem aFo (s:ou) (hI:OI s):(Xy s).all (λ_=>True):=by
 refine ⟨aSf,aSf,?_,λc1=>⟨aSf,aSf,trivial⟩,λc1=>⟨aSf,aSf,trivial⟩⟩
 ·exact ⟨amM s hI,rfl,rfl⟩
def Ze:Specs:=aW [(24,qx),(61,uF),(94,uD),(96,uz)]
theorem ahc:∀g S,Ze g=some S→Valid Tryz.prog aP g S:=aS (l:=[(24,qx),(61,uF),(94,uD),(96,uz)]) ⟨Gl,La,KZ,KY,trivial⟩
def aqR:Hand:=inl Tryz.prog aP Ze (dK 97 4 8 (Xf.lp) (dK 93 7 2 (Bv.lp) (dK 95 1 3 (zS.lp) (dK 93 1 2 (yD.lp) (jT Tryz.prog aP (Ze) 20 2))))) 9
theorem aBz:dn Tryz.prog aP aqR:=bV ahc (bg Tryz.func97 rfl (by kernel_rfl) abd (bg Tryz.func93 rfl (by kernel_rfl) J7 (bg Tryz.func95 rfl (by kernel_rfl) Dj (bg Tryz.func93 rfl (by kernel_rfl) zT (dD ahc))))) 9
theorem aoH:PD.Ok:={}
theorem anq:PD.Pf (aC7):=⟨aLl,λ_ _=>rfl,aEZ,aFo⟩
theorem avm:bC Tryz.prog aP (AN 0) (.loop NW) PD.lp:=bK.snd aoH anq (aQ (Γ:=Ze) (K:=aqR) (L:=(λi=>if i=13 then PE.lp else ay i)) ahc aBz NW (λb hb=>by
 rw [show ax _=[Em] by kernel_rfl] at hb
 simp only [List.mem_cons,List.not_mem_nil,or_false] at hb;subst hb;exact avn)) (λs=>by kernel_rfl)
theorem awx (s:ou) (hE:akm s):(jM s).levels=shl (wX s) s.bY s.gQ s.bH s.most s.order 81 1 s.sums s.levels:=by
 have hk:=bK.mD aoH anq (V:=λs:ou=>shl (wX s) s.bY s.gQ s.bH s.most s.order (82-s.level).toNat s.level s.sums s.levels) (K:=λ_ s' v=>s'.levels=v) (λs hI=>by
  have hr:=aAV s hI
  have hs:=Dc (O:=wX s) (rows:=s.bY) (gs:=s.gQ) (alive:=s.bH) (most:=s.most) (level:=s.level) s.order (s.sums,s.levels,false)
  obtain ⟨⟨h0,h1⟩,h2,h3,hT,hS⟩:=hI;rw [←hr] at hs
  have hf:(82-s.level).toNat=(81-s.level).toNat+1:=by omega
  show bJ _ _ (ahq s)
  unfold ahq Xy;dsimp only [T.rd,T.rl];refine ai (λc1=>?_) (λc1=>?_)
  ·have c1:(gJ (iQ s)).some=false:=by simpa using c1
   show (gJ (iQ s)).levels=shl _ _ _ _ _ _ _ _ _ _
   rw [hf,shl,←hr,if_neg (by simp only [c1];simp)]
  ·have c1:(gJ (iQ s)).some=true:=by simpa using c1
   have h80:s.level≤80:=by
    rcases hs c1 with h|h
    ·cases h
    ·exact h
   rw [aH (x:=s.level+1)]
   show shl (wX s) s.bY s.gQ s.bH s.most s.order (82-(s.level+1)).toNat (s.level+1) (gJ (iQ s)).sums (gJ (iQ s)).levels=shl (wX s) s.bY s.gQ s.bH s.most s.order (82-s.level).toNat s.level s.sums s.levels
   rw [hf,show 82-(s.level+1)=81-s.level by omega]
   conv=>rhs;rw [shl,←hr]
   simp only [c1,if_true]) s hE
 rw [hk,hE.1];rfl
structure uG where
 l:List Ch
 m:Int
 k:Int
 BG:List Cd
 BD:List ByteArray
 BF:List Ko
 gQ:List Ch
 BH:List Ba
 bY:List Rw
 kL:List Int
 kK:List Int
 kJ:List Int
 kH:List Int
 kG:List Int
 kF:List Int
 kE:List Int
 kD:List Int
 kC:List Int
 kz:List Int
 fA:List Int
 eY:List Int
 eX:List Int
 eU:List Int
 eP:List Int
 eG:List Int
 bH:List Int
 out:List Int
 sums:List Int
 levels:List Int
def aPN (s:uG):List LV:=[.own 0 0,.os 1 1 0 (s.out.length),.xl dP s.l,.v (.int .i64 s.m),.v (.int .i64 s.k)]
def aOv (s:uG):List aZ:=[⟨[.xl dY s.BG,.xl .str s.BD,.xl fC s.BF,.xl dP s.gQ,.xl fD s.BH,.xl wE s.bY,.xl aSg s.kL,.xl aSg s.kK,.xl aSg s.kJ,.xl aSg s.kH,.xl aSg s.kG,.xl aSg s.kF,.xl aSg s.kE,.xl aSg s.kD,.xl aSg s.kC,.xl aSg s.kz,.xl aSg s.fA,.xl aSg s.eY,.xl aSg s.eX,.xl aSg s.eU,.xl aSg s.eP,.xl aSg s.eG,.os 2 1 0 (s.sums.length),.xl aSg s.bH,.os 3 1 0 (s.levels.length)],148,.cl,false⟩,⟨[],3,.vec aSg s.out,false⟩,⟨[],3,.vec aSg s.sums,false⟩,⟨[],3,.vec aSg s.levels,false⟩]
def Ej:Code:=((ax (Tryz.f52.body.getD .skip))[1]?).getD .skip
def ae8 (s:uG):T (Rd uG):=
 .br (decide (s.k<s.m)) (.req (0≤s.k∧s.k<(s.l.length:Int)) (.req (0≤s.k∧s.k<((s.levels.length:Nat):Int)) (.req (s.k.toNat<s.levels.length) (.req ((1≤(bG s.l s.k).2.2.2.1∧(bG s.l s.k).2.2.2.1≤80∧1≤(bG s.l s.k).2.2.2.2.2.1∧(bG s.l s.k).2.2.2.2.2.1≤80)∧0≤(s.levels.getD s.k.toNat (Ty.dflt aSg))∧(s.levels.getD s.k.toNat (Ty.dflt aSg))≤1000) (.req (0≤s.k∧s.k<((s.out.length:Nat):Int)) (.req (s.k.toNat<s.out.length) (.req (0=0∧(s.out.length)=List.length (s.out.set s.k.toNat (CW (bG s.l s.k).2.2.2.1 (bG s.l s.k).2.2.2.2.2.1 (s.levels.getD s.k.toNat (Ty.dflt aSg))))) (.rl s.sums (.rl s.levels (.ok (.next {s with k:=(aSe (s.k+1)),out:=(s.out.set s.k.toNat (CW (bG s.l s.k).2.2.2.1 (bG s.l s.k).2.2.2.2.2.1 (s.levels.getD s.k.toNat (Ty.dflt aSg))))}))))))))))) (.rl s.out (.rl s.sums (.rl s.levels (.ok (.stop (.exit 4) s)))))
abbrev aCp (s:uG):=(ae8 s).rd s
def akl (s:uG):Prop:=s.k=0∧s.out=List.replicate s.l.length 0∧(s.m=(s.l.length:Int)∧s.m≤1000∧s.levels.length=s.l.length)∧(∀k:Int,0≤k→k<s.m→lH (bG s.l k).2.2.2.1 (bG s.l k).2.2.2.2.1 (bG s.l k).2.2.2.2.2.1=true)∧(∀k:Nat,0≤s.levels.getD k 0∧s.levels.getD k 0≤80)
def RQ (s:uG):Prop:=(0≤s.k∧s.k≤s.m)∧s.out=adC s.l s.levels s.k.toNat++List.replicate (s.l.length-s.k.toNat) 0∧(s.m=(s.l.length:Int)∧s.m≤1000∧s.levels.length=s.l.length)∧(∀k:Int,0≤k→k<s.m→lH (bG s.l k).2.2.2.1 (bG s.l k).2.2.2.2.1 (bG s.l k).2.2.2.2.2.1=true)∧(∀k:Nat,0≤s.levels.getD k 0∧s.levels.getD k 0≤80)
def UI (s:uG):Nat:=(s.m-s.k).toNat
def as7 (x:Ex) (_ s':uG):Prop:=x=.exit 4∧s'.out=jK s'.l s'.levels
theorem aLk:∀s,akl s→RQ s:=by
 intro s h;obtain ⟨h0,h1,h2⟩:=h;exact ⟨by have:=h2.1;omega,by rw [h0,h1];rfl,h2⟩
theorem aEY (s:uG) (hI:RQ s):bJ (λs'=>RQ s'∧UI s'<UI s) (λx s'=>as7 x s s') (aCp s):=by
 unfold aCp ae8;dsimp only [T.rd,T.rl];obtain ⟨⟨h0,h1⟩,h2,⟨h3,h4,h5⟩,h6,h7⟩:=hI;refine ai (λc1=>?_) (λc1=>?_)
 ·have c1:s.k<s.m:=by simpa using c1
  rw [aH (x:=s.k+1)];refine ⟨⟨⟨by simp only;omega,by simp only;omega⟩,?_,⟨h3,h4,h5⟩,h6,h7⟩,by simp only [UI];omega⟩
  simp only
  have e:s.l.length-s.k.toNat=(s.l.length-(s.k+1).toNat)+1:=by omega
  have hs:=afV (xs:=adC s.l s.levels s.k.toNat) (r:=s.l.length-(s.k+1).toNat) (v:=tK s.l s.k (s.levels.getD s.k.toNat 0))
  rw [zG] at hs;rw [h2,e,show (s.k+1).toNat=s.k.toNat+1 by omega,alE,Int.toNat_of_nonneg h0]
  rw [show (s.k+1).toNat=s.k.toNat+1 by omega] at hs
  exact hs
 ·have c1:s.m≤s.k:=by simpa using c1
  refine ⟨rfl,?_⟩;rw [h2,show s.k.toNat=s.l.length by omega,Nat.sub_self,List.replicate_zero,List.append_nil]
  rfl
def IU:bK uG:=⟨0,129,[14,19,108,109,110],[],aPN,aOv,λv b=>⟨aU dP (v.getD 2 .junk),gI (v.getD 3 .junk),gI (v.getD 4 .junk),aU dY (bn (aT b 0) 0),aU .str (bn (aT b 0) 1),aU fC (bn (aT b 0) 2),aU dP (bn (aT b 0) 3),aU fD (bn (aT b 0) 4),aU wE (bn (aT b 0) 5),aU aSg (bn (aT b 0) 6),aU aSg (bn (aT b 0) 7),aU aSg (bn (aT b 0) 8),aU aSg (bn (aT b 0) 9),aU aSg (bn (aT b 0) 10),aU aSg (bn (aT b 0) 11),aU aSg (bn (aT b 0) 12),aU aSg (bn (aT b 0) 13),aU aSg (bn (aT b 0) 14),aU aSg (bn (aT b 0) 15),aU aSg (bn (aT b 0) 16),aU aSg (bn (aT b 0) 17),aU aSg (bn (aT b 0) 18),aU aSg (bn (aT b 0) 19),aU aSg (bn (aT b 0) 20),aU aSg (bn (aT b 0) 21),aU aSg (bn (aT b 0) 23),iW aSg (aT b 1),iW aSg (aT b 2),iW aSg (aT b 3)⟩,ae8,λs r=> {r with l:=s.l,m:=s.m,BG:=s.BG,BD:=s.BD,BF:=s.BF,gQ:=s.gQ,BH:=s.BH,bY:=s.bY,kL:=s.kL,kK:=s.kK,kJ:=s.kJ,kH:=s.kH,kG:=s.kG,kF:=s.kF,kE:=s.kE,kD:=s.kD,kC:=s.kC,kz:=s.kz,fA:=s.fA,eY:=s.eY,eX:=s.eX,eU:=s.eU,eP:=s.eP,eG:=s.eG,bH:=s.bH,sums:=s.sums,levels:=s.levels},λs=>s,λ_ s=>s,[.exit 4],akl,RQ,UI⟩
abbrev jk:=IU.run
abbrev azx:=IU.jf
abbrev Xb:=IU.q
theorem aFn (s:uG) (hI:RQ s):(ae8 s).all (λ_=>True):=by
 refine ⟨λc1=>⟨?_,?_,?_,?_,?_,?_,?_,aSf,aSf,trivial⟩,λc1=>⟨aSf,aSf,aSf,trivial⟩⟩
 iterate 3 · (obtain ⟨⟨h0,h1⟩,h2,⟨h3,h4,h5⟩,h6,h7⟩:=hI;(try simp only [decide_eq_true_eq] at c1);have hl:s.out.length=s.l.length:=(by rw [h2,List.length_append,zG,List.length_replicate];omega);first|omega|exact ⟨rfl,by simp⟩ |exact ⟨rfl,rfl⟩)
 ·(have hh:=fZ.1 (hI.2.2.2.1 s.k hI.1.1 (by simpa using c1));have hb:=hI.2.2.2.2 s.k.toNat;refine ⟨by omega,?_⟩;show 0≤s.levels.getD s.k.toNat 0∧s.levels.getD s.k.toNat 0≤1000;omega)
 iterate 3 · (obtain ⟨⟨h0,h1⟩,h2,⟨h3,h4,h5⟩,h6,h7⟩:=hI;(try simp only [decide_eq_true_eq] at c1);have hl:s.out.length=s.l.length:=(by rw [h2,List.length_append,zG,List.length_replicate];omega);first|omega|exact ⟨rfl,by simp⟩ |exact ⟨rfl,rfl⟩)
theorem aoG:IU.Ok:={}
theorem anp:IU.Pf (as7):=⟨aLk,λ_ _=>rfl,aEY,aFn⟩
theorem avl:bC Tryz.prog aP (AN 0) (.loop Ej) IU.lp:=bK.snd aoG anp (aQ (Γ:=Ze) (K:=aqR) (L:=ay) ahc aBz Ej (λb hb=>by rw [show ax Ej=[] by kernel_rfl] at hb;cases hb)) (λs=>by kernel_rfl)
theorem aww (s:uG) (hE:akl s):∃s',RQ s'∧as7 (azx s) s' (jk s):=bK.fin aoG anp s hE
def ai2:List LV→T LV
 | [.agg [.xl (.pair .str (.pair (.int .i64) (.pair (.int .i64) (.pair (.int .i64) (.pair (.pair (.int .i64) (.int .i64)) (.pair (.int .i64) (.pair (.int .i64) (.pair (.int .i64) (.pair (.int .i64) (.int .i64)))))))))) cs,.xl (.str) os,.xl (.pair .str (.pair (.int .i64) (.pair (.int .i64) (.int .i64)))) ks,.xl (.pair .str (.pair (.int .i64) (.pair (.int .i64) (.pair (.int .i64) (.pair (.int .i64) (.pair (.int .i64) (.pair (.int .i64) (.int .i64)))))))) gs,.xl (.pair .str (.int .i64)) bs],.xl (.int .i64) al,.xl (.int .i64) mo,.xl (.int .i64) od]=> .ok (.iU [.xl aSg (zW cs os ks gs bs al mo od),.v (.int .i64 (shE cs os ks gs bs al mo od))])
 |_=> .no
def Ou:List LV→T LV:=gZ Tryz.prog Tryz.f52.params.toList ai2
def aC (cs:List Cd) (os:List ByteArray) (ks:List Ko) (gs:List Ch) (bs:List Ba) (al _ _:List Int):jh:=letI a:=iG cs os ks gs bs;(⟨al,a,(List.length a:Int),(0:Int),cs,os,ks,gs,bs,cs,os,ks,gs,bs,a,al,([]:List Int),([]:List Int),([]:List Int),([]:List Int),([]:List Int),([]:List Int),([]:List Int),([]:List Int),([]:List Int),([]:List Int),([]:List Int),([]:List Int),([]:List Int),([]:List Int),([]:List Int),([]:List Int),(List.replicate (List.length a:Int).toNat (0:Int)),(List.replicate (al.length:Int).toNat (0:Int))⟩:jh)
def gW (cs:List Cd) (os:List ByteArray) (ks:List Ko) (gs:List Ch) (bs:List Ba) (al mo od:List Int):ou:=letI a:=aB (aC cs os ks gs bs al mo od);(⟨mo,od,(gs.length:Int),(1:Int),cs,os,ks,gs,bs,cs,os,ks,gs,bs,(iG cs os ks gs bs),((a.kL.drop 0).take (List.length a.kL)),((a.kK.drop 0).take (List.length a.kK)),((a.kJ.drop 0).take (List.length a.kJ)),((a.kH.drop 0).take (List.length a.kH)),((a.kG.drop 0).take (List.length a.kG)),((a.kF.drop 0).take (List.length a.kF)),((a.kE.drop 0).take (List.length a.kE)),((a.kD.drop 0).take (List.length a.kD)),((a.kC.drop 0).take (List.length a.kC)),((a.kz.drop 0).take (List.length a.kz)),((a.fA.drop 0).take (List.length a.fA)),((a.eY.drop 0).take (List.length a.eY)),((a.eX.drop 0).take (List.length a.eX)),((a.eU.drop 0).take (List.length a.eU)),((a.eP.drop 0).take (List.length a.eP)),((a.eG.drop 0).take (List.length a.eG)),al,a.sums,(List.replicate (al.length:Int).toNat (0:Int))⟩:ou)
def iI (cs:List Cd) (os:List ByteArray) (ks:List Ko) (gs:List Ch) (bs:List Ba) (al mo od:List Int):uG:=letI a:=aB (aC cs os ks gs bs al mo od);letI b:=jM (gW cs os ks gs bs al mo od);(⟨gs,(gs.length:Int),(0:Int),cs,os,ks,gs,bs,(iG cs os ks gs bs),((a.kL.drop 0).take (List.length a.kL)),((a.kK.drop 0).take (List.length a.kK)),((a.kJ.drop 0).take (List.length a.kJ)),((a.kH.drop 0).take (List.length a.kH)),((a.kG.drop 0).take (List.length a.kG)),((a.kF.drop 0).take (List.length a.kF)),((a.kE.drop 0).take (List.length a.kE)),((a.kD.drop 0).take (List.length a.kD)),((a.kC.drop 0).take (List.length a.kC)),((a.kz.drop 0).take (List.length a.kz)),((a.fA.drop 0).take (List.length a.fA)),((a.eY.drop 0).take (List.length a.eY)),((a.eX.drop 0).take (List.length a.eX)),((a.eU.drop 0).take (List.length a.eU)),((a.eP.drop 0).take (List.length a.eP)),((a.eG.drop 0).take (List.length a.eG)),al,(List.replicate (gs.length:Int).toNat (0:Int)),b.sums,b.levels⟩:uG)
def ahi:Specs:=aW [(24,qx),(61,uF),(94,uD),(96,uz)]
theorem aq7:∀g S,ahi g=some S→Valid Tryz.prog aP g S:=aS (l:=[(24,qx),(61,uF),(94,uD),(96,uz)]) ⟨Gl,La,KZ,KY,trivial⟩
def aBK:Hand:=inl Tryz.prog aP ahi (dK 97 4 8 (Xf.lp) (dK 93 7 2 (Bv.lp) (dK 95 1 3 (zS.lp) (dK 93 1 2 (yD.lp) (jT Tryz.prog aP (ahi) 20 2))))) 9
theorem aM5:dn Tryz.prog aP aBK:=bV aq7 (bg Tryz.func97 rfl (by kernel_rfl) abd (bg Tryz.func93 rfl (by kernel_rfl) J7 (bg Tryz.func95 rfl (by kernel_rfl) Dj (bg Tryz.func93 rfl (by kernel_rfl) zT (dD aq7))))) 9
theorem axN (cs:List Cd) (os:List ByteArray) (ks:List Ko) (gs:List Ch) (bs:List Ba) (al mo od:List Int):letI b:=(List.length (iG cs os ks gs bs):Int);letI c:=iI cs os ks gs bs al mo od;letI d:=(gs.length:Int);letI e:=(al.length:Int);letI f:=gW cs os ks gs bs al mo od;letI g:=(List.replicate e.toNat (0:Int));letI h:=List.length (jk c).out;letI j:=aC cs os ks gs bs al mo od;letI k:=(List.replicate b.toNat (0:Int));letI l:=(List.replicate d.toNat (0:Int));letI m:=(mo.length:Int);letI n:=((jk c).out.drop 0).take h;letI o:=(iV (AB (⟨false,mo,m,(0:Int),cs,os,ks,gs,bs⟩:lC)) (.ret));letI p:=(aeO (⟨false,mo,m,(0:Int),cs,os,ks,gs,bs⟩:lC));letI I:=(xH (⟨false,mo,m,(0:Int),cs,os,ks,gs,bs⟩:lC));letI J:=d≤1000;letI a:=aB j;letI q:=List.length a.kL;letI s:=List.length a.kK;letI t:=List.length a.kJ;letI u:=List.length a.kH;letI w:=List.length a.kG;letI x:=List.length a.kF;letI y:=List.length a.kE;letI z:=List.length a.kD;letI A:=List.length a.kC;letI B:=List.length a.kz;letI C:=List.length a.fA;letI D:=List.length a.eY;letI E:=List.length a.eX;letI F:=List.length a.eU;letI G:=List.length a.eP;letI H:=List.length a.eG;cO Tryz.prog aP (ahi) aBK (λi=>if i=11 then PD.lp else if i=21 then IU.lp else ay i) Tryz.f52 [.agg [.xl dY cs,.xl .str os,.xl fC ks,.xl dP gs,.xl fD bs],.xl aSg al,.xl aSg mo,.xl aSg od]=.br ((BL cs os ks gs bs) !=0) (.ok (.iU [.xl aSg ([]:List Int),.v (.int .i64 1)])) (.br (e !=d) (.ok (.iU [.xl aSg ([]:List Int),.v (.int .i64 1)])) (.br (m !=d) (.ok (.iU [.xl aSg ([]:List Int),.v (.int .i64 1)])) (.req (aeO (⟨false,al,e,(0:Int),cs,os,ks,gs,bs⟩:lC)) (.br (iV (AB (⟨false,al,e,(0:Int),cs,os,ks,gs,bs⟩:lC)) (.ret)) (.br (!(xH (⟨false,al,e,(0:Int),cs,os,ks,gs,bs⟩:lC)).r) (.ok (.iU [.xl aSg ([]:List Int),.v (.int .i64 1)])) (.req p (.br o (.br (! I.r) (.ok (.iU [.xl aSg ([]:List Int),.v (.int .i64 1)])) (.req J (.br (!(oh od d)) (.ok (.iU [.xl aSg ([]:List Int),.v (.int .i64 1)])) (.req (0≤b∧b≤b∧8*b≤2^48∧b<2^63) (.req (0≤e∧e≤e∧8*e≤2^48∧e<2^63) (.req (0=0∧0=List.length ([]:List Int)) (.req (0=0∧0=List.length ([]:List Int)) (.req (0=0∧0=List.length ([]:List Int)) (.req (0=0∧0=List.length ([]:List Int)) (.req (0=0∧0=List.length ([]:List Int)) (.req (0=0∧0=List.length ([]:List Int)) (.req (0=0∧0=List.length ([]:List Int)) (.req (0=0∧0=List.length ([]:List Int)) (.req (0=0∧0=List.length ([]:List Int)) (.req (0=0∧0=List.length ([]:List Int)) (.req (0=0∧0=List.length ([]:List Int)) (.req (0=0∧0=List.length ([]:List Int)) (.req (0=0∧0=List.length ([]:List Int)) (.req (0=0∧0=List.length ([]:List Int)) (.req (0=0∧0=List.length ([]:List Int)) (.req (0=0∧0=List.length ([]:List Int)) (.req (0=0∧b.toNat=List.length k) (.req (0=0∧e.toNat=List.length g) (.req (Xd j) (.req (0+q≤List.length a.kL) (.req (0+s≤List.length a.kK) (.req (0+t≤List.length a.kJ) (.req (0+u≤List.length a.kH) (.req (0+w≤List.length a.kG) (.req (0+x≤List.length a.kF) (.req (0+y≤List.length a.kE) (.req (0+z≤List.length a.kD) (.req (0+A≤List.length a.kC) (.req (0+B≤List.length a.kz) (.req (0+C≤List.length a.fA) (.req (0+D≤List.length a.eY) (.req (0+E≤List.length a.eX) (.req (0+F≤List.length a.eU) (.req (0+G≤List.length a.eP) (.req (0+H≤List.length a.eG) (.rl a.sums (.rl g (.req (Xc f) (.req (0≤d∧d≤d∧8*d≤2^48∧d<2^63) (.req (0=0∧d.toNat=List.length l) (.rl (jM f).sums (.rl (jM f).levels (.req (Xb c) (.req (0+h≤List.length (jk c).out) (.ok (.iU [.xl aSg n,.v (.int .i64 0)]))))))))))))))))))))))))))))))))))))))))))))))))))) (.br (!true) (.ok (.iU [.xl aSg ([]:List Int),.v (.int .i64 1)])) (.req J (.br (!(oh od d)) (.ok (.iU [.xl aSg ([]:List Int),.v (.int .i64 1)])) (.req (0≤b∧b≤b∧8*b≤2^48∧b<2^63) (.req (0≤e∧e≤e∧8*e≤2^48∧e<2^63) (.req (0=0∧0=List.length ([]:List Int)) (.req (0=0∧0=List.length ([]:List Int)) (.req (0=0∧0=List.length ([]:List Int)) (.req (0=0∧0=List.length ([]:List Int)) (.req (0=0∧0=List.length ([]:List Int)) (.req (0=0∧0=List.length ([]:List Int)) (.req (0=0∧0=List.length ([]:List Int)) (.req (0=0∧0=List.length ([]:List Int)) (.req (0=0∧0=List.length ([]:List Int)) (.req (0=0∧0=List.length ([]:List Int)) (.req (0=0∧0=List.length ([]:List Int)) (.req (0=0∧0=List.length ([]:List Int)) (.req (0=0∧0=List.length ([]:List Int)) (.req (0=0∧0=List.length ([]:List Int)) (.req (0=0∧0=List.length ([]:List Int)) (.req (0=0∧0=List.length ([]:List Int)) (.req (0=0∧b.toNat=List.length k) (.req (0=0∧e.toNat=List.length g) (.req (Xd j) (.req (0+q≤List.length a.kL) (.req (0+s≤List.length a.kK) (.req (0+t≤List.length a.kJ) (.req (0+u≤List.length a.kH) (.req (0+w≤List.length a.kG) (.req (0+x≤List.length a.kF) (.req (0+y≤List.length a.kE) (.req (0+z≤List.length a.kD) (.req (0+A≤List.length a.kC) (.req (0+B≤List.length a.kz) (.req (0+C≤List.length a.fA) (.req (0+D≤List.length a.eY) (.req (0+E≤List.length a.eX) (.req (0+F≤List.length a.eU) (.req (0+G≤List.length a.eP) (.req (0+H≤List.length a.eG) (.rl a.sums (.rl g (.req (Xc f) (.req (0≤d∧d≤d∧8*d≤2^48∧d<2^63) (.req (0=0∧d.toNat=List.length l) (.rl (jM f).sums (.rl (jM f).levels (.req (Xb c) (.req (0+h≤List.length (jk c).out) (.ok (.iU [.xl aSg n,.v (.int .i64 0)])))))))))))))))))))))))))))))))))))))))))))))))))))))) (.br (!true) (.ok (.iU [.xl aSg ([]:List Int),.v (.int .i64 1)])) (.req p (.br o (.br (! I.r) (.ok (.iU [.xl aSg ([]:List Int),.v (.int .i64 1)])) (.req J (.br (!(oh od d)) (.ok (.iU [.xl aSg ([]:List Int),.v (.int .i64 1)])) (.req (0≤b∧b≤b∧8*b≤2^48∧b<2^63) (.req (0≤e∧e≤e∧8*e≤2^48∧e<2^63) (.req (0=0∧0=List.length ([]:List Int)) (.req (0=0∧0=List.length ([]:List Int)) (.req (0=0∧0=List.length ([]:List Int)) (.req (0=0∧0=List.length ([]:List Int)) (.req (0=0∧0=List.length ([]:List Int)) (.req (0=0∧0=List.length ([]:List Int)) (.req (0=0∧0=List.length ([]:List Int)) (.req (0=0∧0=List.length ([]:List Int)) (.req (0=0∧0=List.length ([]:List Int)) (.req (0=0∧0=List.length ([]:List Int)) (.req (0=0∧0=List.length ([]:List Int)) (.req (0=0∧0=List.length ([]:List Int)) (.req (0=0∧0=List.length ([]:List Int)) (.req (0=0∧0=List.length ([]:List Int)) (.req (0=0∧0=List.length ([]:List Int)) (.req (0=0∧0=List.length ([]:List Int)) (.req (0=0∧b.toNat=List.length k) (.req (0=0∧e.toNat=List.length g) (.req (Xd j) (.req (0+q≤List.length a.kL) (.req (0+s≤List.length a.kK) (.req (0+t≤List.length a.kJ) (.req (0+u≤List.length a.kH) (.req (0+w≤List.length a.kG) (.req (0+x≤List.length a.kF) (.req (0+y≤List.length a.kE) (.req (0+z≤List.length a.kD) (.req (0+A≤List.length a.kC) (.req (0+B≤List.length a.kz) (.req (0+C≤List.length a.fA) (.req (0+D≤List.length a.eY) (.req (0+E≤List.length a.eX) (.req (0+F≤List.length a.eU) (.req (0+G≤List.length a.eP) (.req (0+H≤List.length a.eG) (.rl a.sums (.rl g (.req (Xc f) (.req (0≤d∧d≤d∧8*d≤2^48∧d<2^63) (.req (0=0∧d.toNat=List.length l) (.rl (jM f).sums (.rl (jM f).levels (.req (Xb c) (.req (0+h≤List.length (jk c).out) (.ok (.iU [.xl aSg n,.v (.int .i64 0)]))))))))))))))))))))))))))))))))))))))))))))))))))) (.br (!true) (.ok (.iU [.xl aSg ([]:List Int),.v (.int .i64 1)])) (.req J (.br (!(oh od d)) (.ok (.iU [.xl aSg ([]:List Int),.v (.int .i64 1)])) (.req (0≤b∧b≤b∧8*b≤2^48∧b<2^63) (.req (0≤e∧e≤e∧8*e≤2^48∧e<2^63) (.req (0=0∧0=List.length ([]:List Int)) (.req (0=0∧0=List.length ([]:List Int)) (.req (0=0∧0=List.length ([]:List Int)) (.req (0=0∧0=List.length ([]:List Int)) (.req (0=0∧0=List.length ([]:List Int)) (.req (0=0∧0=List.length ([]:List Int)) (.req (0=0∧0=List.length ([]:List Int)) (.req (0=0∧0=List.length ([]:List Int)) (.req (0=0∧0=List.length ([]:List Int)) (.req (0=0∧0=List.length ([]:List Int)) (.req (0=0∧0=List.length ([]:List Int)) (.req (0=0∧0=List.length ([]:List Int)) (.req (0=0∧0=List.length ([]:List Int)) (.req (0=0∧0=List.length ([]:List Int)) (.req (0=0∧0=List.length ([]:List Int)) (.req (0=0∧0=List.length ([]:List Int)) (.req (0=0∧b.toNat=List.length k) (.req (0=0∧e.toNat=List.length g) (.req (Xd j) (.req (0+q≤List.length a.kL) (.req (0+s≤List.length a.kK) (.req (0+t≤List.length a.kJ) (.req (0+u≤List.length a.kH) (.req (0+w≤List.length a.kG) (.req (0+x≤List.length a.kF) (.req (0+y≤List.length a.kE) (.req (0+z≤List.length a.kD) (.req (0+A≤List.length a.kC) (.req (0+B≤List.length a.kz) (.req (0+C≤List.length a.fA) (.req (0+D≤List.length a.eY) (.req (0+E≤List.length a.eX) (.req (0+F≤List.length a.eU) (.req (0+G≤List.length a.eP) (.req (0+H≤List.length a.eG) (.rl a.sums (.rl g (.req (Xc f) (.req (0≤d∧d≤d∧8*d≤2^48∧d<2^63) (.req (0=0∧d.toNat=List.length l) (.rl (jM f).sums (.rl (jM f).levels (.req (Xb c) (.req (0+h≤List.length (jk c).out) (.ok (.iU [.xl aSg n,.v (.int .i64 0)])))))))))))))))))))))))))))))))))))))))))))))))))))))))))):=by kernel_rfl
theorem al7:Valid Tryz.prog aP 52 Ou:=aI Tryz.func52 rfl aq7 aM5 (L:=(λi=>if i=11 then PD.lp else if i=21 then IU.lp else ay i)) (λb hb=>by
 rw [show ax _=[NW,Ej] by kernel_rfl] at hb
 simp only [List.mem_cons,List.not_mem_nil,or_false] at hb;rcases hb with rfl|rfl
 ·exact avm
 ·exact avl) (λargs lv h=>by
 unfold ai2 at h;split at h
 ·simp only [canL,canX]
  rw [axN];rename_i cs os ks gs bs al mo od;obtain rfl:=h
  have err:sQ cs os ks gs bs al mo od=false→LV.iU [.xl aSg ([]:List Int),.v (.int .i64 1)]=LV.iU [.xl aSg (zW cs os ks gs bs al mo od),.v (.int .i64 (shE cs os ks gs bs al mo od))]:=λh=>by
   unfold zW shE;rw [h];rfl
  have no_:∀ {p:Prop},¬p→(sQ cs os ks gs bs al mo od=true→p)→sQ cs os ks gs bs al mo od=false:=λh1 h2=>by
   rw [Bool.eq_false_iff];exact λh=>h1 (h2 h)
  refine ⟨λc=>err (no_ (p:=fH cs os ks gs bs=true) (λh=>?_) (λh=>(iJ.1 h).1)),λc=>?_⟩
  ·unfold BL at c
   rw [h] at c
   simp at c
  have hv:fH cs os ks gs bs=true:=by
   cases e:fH cs os ks gs bs with
   |true=>rfl
   |false=>unfold BL at c;rw [e] at c;simp at c
  have hl:=(fK.1 hv).1
  refine ⟨λc2=>err (no_ (p:=al.length=gs.length) (by simp at c2;omega) (λh=>(iJ.1 h).2.1)),λc2=>?_⟩
  refine ⟨λc3=>err (no_ (p:=mo.length=gs.length) (by simp at c3;omega) (λh=>(iJ.1 h).2.2.1)),λc3=>?_⟩
  have c2:al.length=gs.length:=by simp at c2;omega
  have c3:mo.length=gs.length:=by simp at c3;omega
  refine lK ⟨⟨rfl,by simp only;omega,by simp only;omega,rfl⟩,rfl,rfl⟩ (λhE1=>?_)
  rcases aiv _ hE1.1 with ⟨q1,q2⟩ |⟨q1,q2,q3⟩
  rotate_left
  ·rw [q1,q2]
   refine ⟨λ_=>⟨λ_=>err (no_ (p:=al.all pV=true) (by have q3:al.all pV=false:=q3;rw [q3];simp) (λh=>(iJ.1 h).2.2.2.1)),λh=>by cases h⟩,λh=>by cases h⟩
  rw [q1];refine ⟨λh=>(by cases h),λ_=>⟨λh=>(by cases h),λ_=>?_⟩⟩
  have q2:al.all pV=true:=q2
  refine lK ⟨⟨rfl,by simp only;omega,by simp only;omega,rfl⟩,rfl,rfl⟩ (λhE2=>?_)
  rcases aiv _ hE2.1 with ⟨p1,p2⟩ |⟨p1,p2,p3⟩
  rotate_left
  ·rw [p1,p2]
   refine ⟨λ_=>⟨λ_=>err (no_ (p:=mo.all pV=true) (by have p3:mo.all pV=false:=p3;rw [p3];simp) (λh=>(iJ.1 h).2.2.2.2.1)),λh=>by cases h⟩,λh=>by cases h⟩
  rw [p1];refine ⟨λh=>(by cases h),λ_=>⟨λh=>(by cases h),λ_=>?_⟩⟩
  have p2:mo.all pV=true:=p2
  refine ⟨by omega,λc4=>err (no_ (p:=oh od (gs.length:Int)=true) (by simp at c4;rw [c4];simp) (λh=>(iJ.1 h).2.2.2.2.2)),λc4=>?_⟩
  have c4:oh od (gs.length:Int)=true:=by simpa using c4
  have hok:sQ cs os ks gs bs al mo od=true:=iJ.2 ⟨hv,c2,c3,q2,p2,c4⟩
  obtain ⟨hT,hS⟩:=aMz hok
  have er:iG cs os ks gs bs=jZ cs gs cs.length:=by unfold iG;rw [if_pos hv]
  have hrl:=wJ (cs:=cs) (gs:=gs) (k:=cs.length)
  have hod:od.length=gs.length:=by
   unfold oh at c4;simp only [Bool.and_eq_true,decide_eq_true_eq] at c4;omega
  have hrn:(List.length (iG cs os ks gs bs):Int)≤1000:=by rw [er];omega
  refine ⟨by omega,by omega,aSf,aSf,aSf,aSf,aSf,aSf,aSf,aSf,aSf,aSf,aSf,aSf,aSf,aSf,aSf,aSf,⟨rfl,by simp⟩,⟨rfl,by simp⟩,?_⟩
  have hN:TL (aC cs os ks gs bs al mo od):=by
   refine ⟨rfl,λo ho=>?_,rfl,rfl,hrn,λr hr=>?_,hT.al,by show List.length (List.replicate _ _)=List.length (iG cs os ks gs bs);simp⟩
   ·simpa [nG,aC] using ho
   ·have hr:r∈jZ cs gs cs.length:=by rw [←er];exact hr
    obtain ⟨m1,m2,m3,m4⟩:=row_mem hr;refine ⟨by omega,λm hm=>?_⟩
    have:=m2 m hm
    show 0≤m∧m<16∧m<(al.length:Int)
    omega
  obtain ⟨nr1,nr2⟩:=axq _ hN
  have nr1:nG (aB (aC cs os ks gs bs al mo od))=OL (jZ cs gs cs.length):=by rw [nr1,←er];rfl
  have nr2:(aB (aC cs os ks gs bs al mo od)).sums=SM al (jZ cs gs cs.length):=by rw [nr2,←er];rfl
  refine ⟨⟨hN,rfl,rfl⟩,by omega,by omega,by omega,by omega,by omega,by omega,by omega,by omega,by omega,by omega,by omega,by omega,by omega,by omega,by omega,by omega,aSf,aSf,?_⟩
  have eO:wX (gW cs os ks gs bs al mo od)=nG (aB (aC cs os ks gs bs al mo od)):=by
   unfold wX nG gW;simp only [List.drop_zero,List.take_length]
  have hSh:akm (gW cs os ks gs bs al mo od):=by
   refine ⟨rfl,by show (od.length:Int)≤1000;omega,rfl,?_,?_⟩
   ·show OkT (wX (gW cs os ks gs bs al mo od)) (iG cs os ks gs bs) gs al mo od
    rw [eO,nr1,er];exact hT
   ·show OkS (iG cs os ks gs bs) od (aB (aC cs os ks gs bs al mo od)).sums _
    rw [nr2,er];exact hS
  have sr:=awx _ hSh
  have sr:(jM (gW cs os ks gs bs al mo od)).levels=shV (jZ cs gs cs.length) gs al mo od:=by
   rw [sr]
   show shl (wX (gW cs os ks gs bs al mo od)) (iG cs os ks gs bs) gs al mo od 81 1 (aB (aC cs os ks gs bs al mo od)).sums _=_
   rw [eO,nr1,nr2,er];rfl
  obtain ⟨sl,sb⟩:=amN hT 81 1 _ _ (by omega) (by omega) hS
  refine ⟨⟨hSh,rfl,rfl⟩,by omega,⟨rfl,by simp⟩,aSf,aSf,?_⟩
  have hX:akl (iI cs os ks gs bs al mo od):=by
   refine ⟨rfl,rfl,⟨rfl,by show (gs.length:Int)≤1000;omega,?_⟩,λk h0 h1=>?_,?_⟩
   ·show (jM (gW cs os ks gs bs al mo od)).levels.length=gs.length
    rw [sr];exact sl.trans (by rw [List.length_replicate];exact c2)
   ·have:=tY hv h0 h1
    unfold JZ chW at this;simp only [Bool.and_eq_true,dV] at this
    show lH (bG gs k).2.2.2.1 (bG gs k).2.2.2.2.1 (bG gs k).2.2.2.2.2.1=true
    exact fZ.2 (by omega)
   ·show ∀k:Nat,0≤(jM (gW cs os ks gs bs al mo od)).levels.getD k 0∧(jM (gW cs os ks gs bs al mo od)).levels.getD k 0≤80
    rw [sr];exact sb
  refine ⟨⟨hX,rfl,rfl⟩,by omega,?_⟩
  obtain ⟨s',_,_,x2⟩:=aww _ hX
  have x2:(jk (iI cs os ks gs bs al mo od)).out=jK gs (jM (gW cs os ks gs bs al mo od)).levels:=x2
  show LV.iU [LV.xl _ _,_]=_
  rw [List.drop_zero,List.take_length,x2,sr];unfold zW shE;rw [if_pos hok,if_pos hok]
 ·cases h)
structure qg where
 m:List Ch
 k:Int
 i:Int
 out:List Int
def aQT (s:qg):List LV:=[.os 0 1 0 (s.out.length),.xl dP s.m,.v (.int .i64 s.k),.v (.int .i64 s.i)]
def aPB (s:qg):List aZ:=[⟨[],3,.vec aSg s.out,false⟩]
def FI:Code:=((ax (Tryz.f72.body.getD .skip))[0]?).getD .skip
def afK (s:qg):T (Rd qg):=
 .br (decide (s.i<s.k)) (.req (0≤s.i∧s.i<(s.m.length:Int)) (.req (0≤s.i∧s.i<((s.out.length:Nat):Int)) (.req (s.i.toNat<s.out.length) (.req (0=0∧(s.out.length)=List.length (s.out.set s.i.toNat (bG s.m s.i).2.2.2.2.2.2.1)) (.ok (.next {s with i:=(aSe (s.i+1)),out:=(s.out.set s.i.toNat (bG s.m s.i).2.2.2.2.2.2.1)})))))) (.rl s.out (.ok (.stop (.exit 0) s)))
abbrev aC0 (s:qg):=(afK s).rd s
def akQ (s:qg):Prop:=s.i=0∧s.k=(s.m.length:Int)∧s.k≤1000∧s.out.length=s.m.length∧(∀j,0≤j→j<s.k→gi s.out j=0)∧True
def TD (s:qg):Prop:=(0≤s.i∧s.i≤s.k)∧s.k=(s.m.length:Int)∧s.k≤1000∧s.out.length=s.m.length∧(∀j,0≤j→j<s.k→gi s.out j=if j<s.i then CV (bG s.m j) else 0)∧True
def VK (s:qg):Nat:=(s.k-s.i).toNat
def atT (x:Ex) (_ s':qg):Prop:=x=.exit 0∧s'.out=sW s'.m.length (λj=>CV (bG s'.m j))
theorem aNV:∀s,akQ s→TD s:=by
 intro s h;obtain ⟨h0,h2,h3,h4,h5,h6⟩:=h;exact ⟨by omega,h2,h3,h4,λj j0 j1=>by rw [h5 j j0 j1,if_neg (by omega)],h6⟩
theorem aIO (s:qg) (hI:TD s):bJ (λs'=>TD s'∧VK s'<VK s) (λx s'=>atT x s s') (aC0 s):=by
 unfold aC0 afK;dsimp only [T.rd,T.rl];obtain ⟨⟨h0,h1⟩,h2,h3,h4,h5,h6⟩:=hI;refine ai (λc1=>?_) (λc1=>?_)
 ·have c1:s.i<s.k:=by simpa using c1
  rw [aH (x:=s.i+1)];refine ⟨⟨⟨by simp only;omega,by simp only;omega⟩,h2,h3,by simp only [List.length_set];exact h4,λj j0 j1=>?_,h6⟩,by simp only [VK];omega⟩
  simp only
  have hi:=h5 s.i h0 c1
  rw [if_neg (show ¬s.i<s.i by omega)] at hi
  rw [mW h0 (by rw [h4];omega) j0]
  by_cases e:j=s.i
  ·subst e
   rw [if_pos rfl,if_pos (show s.i<s.i+1 by omega)]
   rfl
  ·rw [if_neg e,h5 j j0 j1]
   by_cases q:j<s.i
   ·rw [if_pos q,if_pos (show j<s.i+1 by omega)]
   ·rw [if_neg q,if_neg (show ¬j<s.i+1 by omega)]
 ·have c1:s.k≤s.i:=by simpa using c1
  refine ⟨rfl,?_⟩;refine kP (by rw [dH];exact h4) λj j0 j1=>?_
  rw [dH] at j1;rw [lq j0 j1,h5 j j0 (by omega),if_pos (show j<s.i by omega)]
def JP:bK qg:=⟨0,31,[3,17,18,19],[],aQT,aPB,λv b=>⟨aU dP (v.getD 1 .junk),gI (v.getD 2 .junk),gI (v.getD 3 .junk),iW aSg (aT b 0)⟩,afK,λs r=> {r with m:=s.m,k:=s.k},λs=>s,λ_ s=>s,[.exit 0],akQ,TD,VK⟩
abbrev Ah:=JP.run
abbrev az6:=JP.jf
abbrev aKn:=JP.q
theorem aGt (s:qg) (hI:TD s):(afK s).all (λ_=>True):=by
 refine ⟨λc1=>⟨?_,?_,?_,?_,trivial⟩,λc1=>⟨aSf,trivial⟩⟩
 all_goals ((obtain ⟨⟨h0,h1⟩,h2,h3,h4,h5,h6⟩:=hI;(try simp only [decide_eq_true_eq] at c1);first|omega|exact ⟨rfl,by simp⟩ |(omega)))
def ars:Specs:=aW []
theorem aBS:∀g S,ars g=some S→Valid Tryz.prog aP g S:=aS (l:=[]) trivial
theorem apC:JP.Ok:={}
theorem aol:JP.Pf (atT):=⟨aNV,λ_ _=>rfl,aIO,aGt⟩
theorem awr:bC Tryz.prog aP (AN 0) (.loop FI) JP.lp:=bK.snd apC aol (aQ (Γ:=ars) (K:=dR) (L:=ay) aBS aA FI (λb hb=>by rw [show ax FI=[] by kernel_rfl] at hb;cases hb)) (λs=>by kernel_rfl)
theorem aAo (s:qg) (hE:akQ s):∃s',TD s'∧atT (az6 s) s' (Ah s):=bK.fin apC aol s hE
def aj2:List LV→T LV
 | [.xq 9 q0]=>(match ([q0 0,q0 1,q0 2,q0 3,q0 4,q0 5,q0 6,q0 7,q0 8]:List LV) with
  | [.xl (.pair .str (.pair (.int .i64) (.pair (.int .i64) (.pair (.int .i64) (.pair (.pair (.int .i64) (.int .i64)) (.pair (.int .i64) (.pair (.int .i64) (.pair (.int .i64) (.pair (.int .i64) (.int .i64)))))))))) _,.xl (.str) _,.xl (.pair .str (.pair (.int .i64) (.pair (.int .i64) (.int .i64)))) _,.xl (.pair .str (.pair (.int .i64) (.pair (.int .i64) (.pair (.int .i64) (.pair (.int .i64) (.pair (.int .i64) (.pair (.int .i64) (.int .i64)))))))) gs,.xl (.pair .str (.int .i64)) _,.xl (.pair (.int .i64) (.pair (.int .i64) (.pair (.int .i64) (.pair (.int .i64) (.int .i64))))) _,.xl (.pair .bool (.pair (.int .i64) (.pair (.int .i64) (.int .i64)))) _,.v (.int .i64 _),.xl (.int .i64) _]=> .req ((gs.length:Int)≤1000) (.ok (.xl aSg (mG gs)))
  |_=> .no)
 |_=> .no
def aeC:List LV→T LV:=gZ Tryz.prog Tryz.f72.params.toList aj2
theorem ayN (cs:List Cd) (os:List ByteArray) (ks:List Ko) (gs:List Ch) (bs:List Ba) (l:List Le) (d:List Dm) (t:Int) (od:List Int):letI b:=(gs.length:Int);letI c:=(List.replicate b.toNat (0:Int));letI a:=(Ah (⟨gs,b,(0:Int),c⟩:qg));cO Tryz.prog aP (ars) dR (λi=>if i=3 then JP.lp else ay i) Tryz.f72 [.xq 9 (λj=>([.xl dY cs,.xl .str os,.xl fC ks,.xl dP gs,.xl fD bs,.xl kY l,.xl jr d,.v (.int .i64 t),.xl aSg od]:List LV).getD j .junk)]=.req (0≤b∧b≤b∧8*b≤2^48∧b<2^63) (.req (0=0∧b.toNat=List.length c) (.req (aKn (⟨gs,b,(0:Int),c⟩:qg)) (.req (0+(List.length a.out)≤List.length a.out) (.ok (.xl aSg ((a.out.drop 0).take (List.length a.out))))))):=by kernel_rfl
theorem aEy:Valid Tryz.prog aP 72 aeC:=aI Tryz.func72 rfl aBS aA (L:=(λi=>if i=3 then JP.lp else ay i)) (λb hb=>by
 rw [show ax _=[FI] by kernel_rfl] at hb
 simp only [List.mem_cons,List.not_mem_nil,or_false] at hb;subst hb;exact awr) (λargs lv h=>by
 unfold aj2 at h;split at h
 ·split at h
  case h_2=>cases h
  rename_i heq0;simp only [canL,canX];rw [rU (n:=9) heq0];simp only [canL,canX];rw [ayN];rename_i cs os ks gs bs l d t od;obtain ⟨hn,rfl⟩:=h
  have hE:akQ ⟨gs,(gs.length:Int),0,List.replicate (gs.length:Int).toNat 0⟩:=⟨rfl,rfl,hn,by simp,λj _ _=>vT,trivial⟩
  obtain ⟨_,_,q1,q2⟩:=aAo _ hE
  have q2:(Ah ⟨gs,(gs.length:Int),0,List.replicate (gs.length:Int).toNat 0⟩).out=mG gs:=q2
  refine ⟨by omega,⟨rfl,by simp⟩,⟨hE,rfl,rfl⟩,by omega,?_⟩
  show LV.xl _ _=_
  rw [List.drop_zero,List.take_length,q2]
 ·cases h)
structure oK where
 cs:List Cd
 os:List ByteArray
 ks:List Ko
 gs:List Ch
 bs:List Ba
 l:List Le
 d:List Dm
 t:Int
 od:List Int
 m:List Ch
 k:Int
 i:Int
 wanted:List Int
def aQO (s:oK):List LV:=[.xq 9 (λj=>([.xl dY s.cs,.xl .str s.os,.xl fC s.ks,.xl dP s.gs,.xl fD s.bs,.xl kY s.l,.xl jr s.d,.v (.int .i64 s.t),.xl aSg s.od]:List LV).getD j .junk),.os 0 1 0 (s.wanted.length),.xl dP s.m,.v (.int .i64 s.k),.v (.int .i64 s.i)]
def aPw (s:oK):List aZ:=[⟨[],3,.vec aSg s.wanted,false⟩]
def FC:Code:=((ax (Tryz.f71.body.getD .skip))[0]?).getD .skip
def afG (s:oK):T (Rd oK):=
 .br (decide (s.i<s.k)) (.req (0≤s.i∧s.i<(s.m.length:Int)) (.req (0≤s.i∧s.i<(s.d.length:Int)) (.br (jG s.d s.i).1 (.req (0≤s.i∧s.i<((s.wanted.length:Nat):Int)) (.req (s.i.toNat<s.wanted.length) (.req (0=0∧(s.wanted.length)=List.length (s.wanted.set s.i.toNat (bG s.m s.i).2.2.2.2.1)) (.ok (.next {s with i:=(aSe (s.i+1)),wanted:=(s.wanted.set s.i.toNat (bG s.m s.i).2.2.2.2.1)}))))) (.rl s.wanted (.ok (.next {s with i:=(aSe (s.i+1))})))))) (.rl s.wanted (.ok (.stop (.exit 0) s)))
abbrev aCX (s:oK):=(afG s).rd s
def akM (s:oK):Prop:=s.i=0∧s.k=(s.m.length:Int)∧s.k≤1000∧s.wanted.length=s.m.length∧(∀j,0≤j→j<s.k→gi s.wanted j=0)∧s.d.length=s.m.length
def Tz (s:oK):Prop:=(0≤s.i∧s.i≤s.k)∧s.k=(s.m.length:Int)∧s.k≤1000∧s.wanted.length=s.m.length∧(∀j,0≤j→j<s.k→gi s.wanted j=if j<s.i then if (jG s.d j).1=true then (bG s.m j).2.2.2.2.1 else 0 else 0)∧s.d.length=s.m.length
def MN (s:oK):Nat:=(s.k-s.i).toNat
def atP (x:Ex) (_ s':oK):Prop:=x=.exit 0∧s'.wanted=sW s'.m.length (λj=>if (jG s'.d j).1=true then (bG s'.m j).2.2.2.2.1 else 0)
theorem aNP:∀s,akM s→Tz s:=by
 intro s h;obtain ⟨h0,h2,h3,h4,h5,h6⟩:=h;exact ⟨by omega,h2,h3,h4,λj j0 j1=>by rw [h5 j j0 j1,if_neg (by omega)],h6⟩
theorem aIE (s:oK) (hI:Tz s):bJ (λs'=>Tz s'∧MN s'<MN s) (λx s'=>atP x s s') (aCX s):=by
 unfold aCX afG;dsimp only [T.rd,T.rl];obtain ⟨⟨h0,h1⟩,h2,h3,h4,h5,h6⟩:=hI;refine ai (λc1=>?_) (λc1=>?_)
 ·refine ai (λc2=>?_) (λc2=>?_)
  ·have c1:s.i<s.k:=by simpa using c1
   rw [aH (x:=s.i+1)];refine ⟨⟨⟨by simp only;omega,by simp only;omega⟩,h2,h3,by simp only [List.length_set];exact h4,λj j0 j1=>?_,h6⟩,by simp only [MN];omega⟩
   simp only
   have hi:=h5 s.i h0 c1
   rw [if_neg (show ¬s.i<s.i by omega)] at hi
   rw [mW h0 (by rw [h4];omega) j0]
   by_cases e:j=s.i
   ·subst e
    rw [if_pos rfl,if_pos (show s.i<s.i+1 by omega)]
    first|(rw [if_pos (by simpa using c2)]) |(rw [if_neg (by simpa using c2)])
   ·rw [if_neg e,h5 j j0 j1]
    by_cases q:j<s.i
    ·rw [if_pos q,if_pos (show j<s.i+1 by omega)]
    ·rw [if_neg q,if_neg (show ¬j<s.i+1 by omega)]
  ·have c1:s.i<s.k:=by simpa using c1
   rw [aH (x:=s.i+1)];refine ⟨⟨⟨by simp only;omega,by simp only;omega⟩,h2,h3,h4,λj j0 j1=>?_,h6⟩,by simp only [MN];omega⟩
   simp only
   have hi:=h5 s.i h0 c1
   rw [if_neg (show ¬s.i<s.i by omega)] at hi
   rw [h5 j j0 j1]
   by_cases e:j=s.i
   ·subst e
    rw [if_neg (show ¬s.i<s.i by omega),if_pos (show s.i<s.i+1 by omega)]
    first|(rw [if_pos (by simpa using c2)]) |(rw [if_neg (by simpa using c2)])
   ·by_cases q:j<s.i
    ·rw [if_pos q,if_pos (show j<s.i+1 by omega)]
    ·rw [if_neg q,if_neg (show ¬j<s.i+1 by omega)]
 ·have c1:s.k≤s.i:=by simpa using c1
  refine ⟨rfl,?_⟩;refine kP (by rw [dH];exact h4) λj j0 j1=>?_
  rw [dH] at j1;rw [lq j0 j1,h5 j j0 (by omega),if_pos (show j<s.i by omega)]
def JL:bK oK:=⟨0,53,[0,4,18,19,20],[],aQO,aPw,λv b=>⟨aU dY (pR (v.getD 0 .junk) 0),aU .str (pR (v.getD 0 .junk) 1),aU fC (pR (v.getD 0 .junk) 2),aU dP (pR (v.getD 0 .junk) 3),aU fD (pR (v.getD 0 .junk) 4),aU kY (pR (v.getD 0 .junk) 5),aU jr (pR (v.getD 0 .junk) 6),gI (pR (v.getD 0 .junk) 7),aU aSg (pR (v.getD 0 .junk) 8),aU dP (v.getD 2 .junk),gI (v.getD 3 .junk),gI (v.getD 4 .junk),iW aSg (aT b 0)⟩,afG,λs r=> {r with cs:=s.cs,os:=s.os,ks:=s.ks,gs:=s.gs,bs:=s.bs,l:=s.l,d:=s.d,t:=s.t,od:=s.od,m:=s.m,k:=s.k},λs=>s,λ_ s=>s,[.exit 0],akM,Tz,MN⟩
abbrev uZ:=JL.run
abbrev az3:=JL.jf
abbrev aKi:=JL.q
theorem aGo (s:oK) (hI:Tz s):(afG s).all (λ_=>True):=by
 refine ⟨λc1=>⟨?_,?_,λc2=>⟨?_,?_,?_,trivial⟩,λc2=>⟨aSf,trivial⟩⟩,λc1=>⟨aSf,trivial⟩⟩
 all_goals ((obtain ⟨⟨h0,h1⟩,h2,h3,h4,h5,h6⟩:=hI;(try simp only [decide_eq_true_eq] at c1);first|omega|exact ⟨rfl,by simp⟩ |(omega)))
def arq:Specs:=aW [(52,Ou),(72,aeC)]
theorem aBR:∀g S,arq g=some S→Valid Tryz.prog aP g S:=aS (l:=[(52,Ou),(72,aeC)]) ⟨al7,aEy,trivial⟩
theorem apy:JL.Ok:={}
theorem aoh:JL.Pf (atP):=⟨aNP,λ_ _=>rfl,aIE,aGo⟩
theorem awm:bC Tryz.prog aP (AN 0) (.loop FC) JL.lp:=bK.snd apy aoh (aQ (Γ:=arq) (K:=dR) (L:=ay) aBR aA FC (λb hb=>by rw [show ax FC=[] by kernel_rfl] at hb;cases hb)) (λs=>by kernel_rfl)
theorem aAh (s:oK) (hE:akM s):∃s',Tz s'∧atP (az3 s) s' (uZ s):=bK.fin apy aoh s hE
def ajZ:List LV→T LV
 | [.xq 9 q0]=>(match ([q0 0,q0 1,q0 2,q0 3,q0 4,q0 5,q0 6,q0 7,q0 8]:List LV) with
  | [.xl (.pair .str (.pair (.int .i64) (.pair (.int .i64) (.pair (.int .i64) (.pair (.pair (.int .i64) (.int .i64)) (.pair (.int .i64) (.pair (.int .i64) (.pair (.int .i64) (.pair (.int .i64) (.int .i64)))))))))) cs,.xl (.str) os,.xl (.pair .str (.pair (.int .i64) (.pair (.int .i64) (.int .i64)))) ks,.xl (.pair .str (.pair (.int .i64) (.pair (.int .i64) (.pair (.int .i64) (.pair (.int .i64) (.pair (.int .i64) (.pair (.int .i64) (.int .i64)))))))) gs,.xl (.pair .str (.int .i64)) bs,.xl (.pair (.int .i64) (.pair (.int .i64) (.pair (.int .i64) (.pair (.int .i64) (.int .i64))))) _,.xl (.pair .bool (.pair (.int .i64) (.pair (.int .i64) (.int .i64)))) d,.v (.int .i64 _),.xl (.int .i64) od]=> .req ((gs.length:Int)≤1000∧d.length=gs.length) (.ok (.iU [.xl aSg (zW cs os ks gs bs (mG gs) (qj gs d) od),.v (.int .i64 (shE cs os ks gs bs (mG gs) (qj gs d) od))]))
  |_=> .no)
 |_=> .no
def aez:List LV→T LV:=gZ Tryz.prog Tryz.f71.params.toList ajZ
theorem ayK (cs:List Cd) (os:List ByteArray) (ks:List Ko) (gs:List Ch) (bs:List Ba) (l:List Le) (d:List Dm) (t:Int) (od:List Int):letI b:=(gs.length:Int);letI c:=(List.replicate b.toNat (0:Int));letI a:=(uZ (⟨cs,os,ks,gs,bs,l,d,t,od,gs,b,(0:Int),c⟩:oK));letI e:=(a.wanted.drop 0).take (List.length a.wanted);cO Tryz.prog aP (arq) dR (λi=>if i=3 then JL.lp else ay i) Tryz.f71 [.xq 9 (λj=>([.xl dY cs,.xl .str os,.xl fC ks,.xl dP gs,.xl fD bs,.xl kY l,.xl jr d,.v (.int .i64 t),.xl aSg od]:List LV).getD j .junk)]=.req (0≤b∧b≤b∧8*b≤2^48∧b<2^63) (.req (0=0∧b.toNat=List.length c) (.req (aKi (⟨cs,os,ks,gs,bs,l,d,t,od,gs,b,(0:Int),c⟩:oK)) (.req (b≤1000) (.req (0+(List.length a.wanted)≤List.length a.wanted) (.ok (.iU [.xl aSg (zW cs os ks gs bs (mG gs) e od),.v (.int .i64 (shE cs os ks gs bs (mG gs) e od))])))))):=by kernel_rfl
theorem aEv:Valid Tryz.prog aP 71 aez:=aI Tryz.func71 rfl aBR aA (L:=(λi=>if i=3 then JL.lp else ay i)) (λb hb=>by
 rw [show ax _=[FC] by kernel_rfl] at hb
 simp only [List.mem_cons,List.not_mem_nil,or_false] at hb;subst hb;exact awm) (λargs lv h=>by
 unfold ajZ at h;split at h
 ·split at h
  case h_2=>cases h
  rename_i heq0;simp only [canL,canX];rw [rU (n:=9) heq0];simp only [canL,canX];rw [ayK];rename_i cs os ks gs bs l d t od;obtain ⟨⟨hn,hd⟩,rfl⟩:=h
  have hE:akM ⟨cs,os,ks,gs,bs,l,d,t,od,gs,(gs.length:Int),0,List.replicate (gs.length:Int).toNat 0⟩:=⟨rfl,rfl,hn,by simp,λj _ _=>vT,hd⟩
  obtain ⟨_,_,q1,q2⟩:=aAh _ hE
  have q2:(uZ ⟨cs,os,ks,gs,bs,l,d,t,od,gs,(gs.length:Int),0,List.replicate (gs.length:Int).toNat 0⟩).wanted=qj gs d:=q2
  refine ⟨by omega,⟨rfl,by simp⟩,⟨hE,rfl,rfl⟩,hn,by omega,?_⟩
  show LV.iU [LV.xl _ _,_]=_
  rw [List.drop_zero,List.take_length,q2]
 ·cases h)
structure mQ where
 m:List Ch
 k:Int
 i:Int
 out:List Int
def aQR (s:mQ):List LV:=[.os 0 1 0 (s.out.length),.xl dP s.m,.v (.int .i64 s.k),.v (.int .i64 s.i)]
def aPz (s:mQ):List aZ:=[⟨[],3,.vec aSg s.out,false⟩]
def ZK:Code:=((ax (Tryz.f72.body.getD .skip))[0]?).getD .skip
def afI (s:mQ):T (Rd mQ):=
 .br (decide (s.i<s.k)) (.req (0≤s.i∧s.i<(s.m.length:Int)) (.req (0≤s.i∧s.i<((s.out.length:Nat):Int)) (.req (s.i.toNat<s.out.length) (.req (0=0∧(s.out.length)=List.length (s.out.set s.i.toNat (bG s.m s.i).2.2.2.2.2.2.1)) (.ok (.next {s with i:=(aSe (s.i+1)),out:=(s.out.set s.i.toNat (bG s.m s.i).2.2.2.2.2.2.1)})))))) (.rl s.out (.ok (.stop (.exit 0) s)))
abbrev aCZ (s:mQ):=(afI s).rd s
def akP (s:mQ):Prop:=s.i=0∧s.k=(s.m.length:Int)∧s.k≤1000∧s.out.length=s.m.length∧(∀j,0≤j→j<s.k→gi s.out j=0)∧True
def TB (s:mQ):Prop:=(0≤s.i∧s.i≤s.k)∧s.k=(s.m.length:Int)∧s.k≤1000∧s.out.length=s.m.length∧(∀j,0≤j→j<s.k→gi s.out j=if j<s.i then CV (bG s.m j) else 0)∧True
def VJ (s:mQ):Nat:=(s.k-s.i).toNat
def atS (x:Ex) (_ s':mQ):Prop:=x=.exit 0∧s'.out=sW s'.m.length (λj=>CV (bG s'.m j))
theorem aNS:∀s,akP s→TB s:=by
 intro s h;obtain ⟨h0,h2,h3,h4,h5,h6⟩:=h;exact ⟨by omega,h2,h3,h4,λj j0 j1=>by rw [h5 j j0 j1,if_neg (by omega)],h6⟩
theorem aIH (s:mQ) (hI:TB s):bJ (λs'=>TB s'∧VJ s'<VJ s) (λx s'=>atS x s s') (aCZ s):=by
 unfold aCZ afI;dsimp only [T.rd,T.rl];obtain ⟨⟨h0,h1⟩,h2,h3,h4,h5,h6⟩:=hI;refine ai (λc1=>?_) (λc1=>?_)
 ·have c1:s.i<s.k:=by simpa using c1
  rw [aH (x:=s.i+1)];refine ⟨⟨⟨by simp only;omega,by simp only;omega⟩,h2,h3,by simp only [List.length_set];exact h4,λj j0 j1=>?_,h6⟩,by simp only [VJ];omega⟩
  simp only
  have hi:=h5 s.i h0 c1
  rw [if_neg (show ¬s.i<s.i by omega)] at hi
  rw [mW h0 (by rw [h4];omega) j0]
  by_cases e:j=s.i
  ·subst e
   rw [if_pos rfl,if_pos (show s.i<s.i+1 by omega)]
   rfl
  ·rw [if_neg e,h5 j j0 j1]
   by_cases q:j<s.i
   ·rw [if_pos q,if_pos (show j<s.i+1 by omega)]
   ·rw [if_neg q,if_neg (show ¬j<s.i+1 by omega)]
 ·have c1:s.k≤s.i:=by simpa using c1
  refine ⟨rfl,?_⟩;refine kP (by rw [dH];exact h4) λj j0 j1=>?_
  rw [dH] at j1;rw [lq j0 j1,h5 j j0 (by omega),if_pos (show j<s.i by omega)]
def PY:bK mQ:=⟨0,31,[3,17,18,19],[],aQR,aPz,λv b=>⟨aU dP (v.getD 1 .junk),gI (v.getD 2 .junk),gI (v.getD 3 .junk),iW aSg (aT b 0)⟩,afI,λs r=> {r with m:=s.m,k:=s.k},λs=>s,λ_ s=>s,[.exit 0],akP,TB,VJ⟩
abbrev nP:=PY.run
abbrev az5:=PY.jf
abbrev aKl:=PY.q
def DX:Specs:=aW [(52,Ou),(66,aeH),(71,aez)]
theorem Ih:∀g S,DX g=some S→Valid Tryz.prog aP g S:=aS (l:=[(52,Ou),(66,aeH),(71,aez)]) ⟨al7,aED,aEv,trivial⟩
def aqP:Hand:=inl Tryz.prog aP DX (jT Tryz.prog aP (DX) 20 2) 9
theorem aBx:dn Tryz.prog aP aqP:=bV Ih (dD Ih) 9
theorem aGr (s:mQ) (hI:TB s):(afI s).all (λ_=>True):=by
 refine ⟨λc1=>⟨?_,?_,?_,?_,trivial⟩,λc1=>⟨aSf,trivial⟩⟩
 all_goals ((obtain ⟨⟨h0,h1⟩,h2,h3,h4,h5,h6⟩:=hI;(try simp only [decide_eq_true_eq] at c1);first|omega|exact ⟨rfl,by simp⟩ |(omega)))
theorem apB:PY.Ok:={}
theorem aok:PY.Pf (atS):=⟨aNS,λ_ _=>rfl,aIH,aGr⟩
theorem awp:bC Tryz.prog aP (AN 0) (.loop ZK) PY.lp:=bK.snd apB aok (bI (Γ:=DX) (K:=aqP) (L:=(ql Tryz.prog aP DX aqP 20 2)) Ih aBx ZK (λb _=>dA Ih aBx 20 2 b)) (λs=>by kernel_rfl)
theorem aAk (s:mQ) (hE:akP s):∃s',TB s'∧atS (az5 s) s' (nP s):=bK.fin apB aok s hE
structure oL where
 cs:List Cd
 os:List ByteArray
 ks:List Ko
 gs:List Ch
 bs:List Ba
 l:List Le
 d:List Dm
 t:Int
 od:List Int
 targets:List Int
 m:List Int
 k:Int
 i:Int
 alive:List Int
def aQP (s:oL):List LV:=[.xq 9 (λj=>([.xl dY s.cs,.xl .str s.os,.xl fC s.ks,.xl dP s.gs,.xl fD s.bs,.xl kY s.l,.xl jr s.d,.v (.int .i64 s.t),.xl aSg s.od]:List LV).getD j .junk),.xl aSg s.targets,.os 0 1 0 (s.alive.length),.xl aSg s.m,.v (.int .i64 s.k),.v (.int .i64 s.i)]
def aPx (s:oL):List aZ:=[⟨[],3,.vec aSg s.alive,false⟩]
def FD:Code:=((ax (Tryz.f36.body.getD .skip))[0]?).getD .skip
def afH (s:oL):T (Rd oL):=
 .br (decide (s.i<s.k)) (.req (0≤s.i∧s.i<(s.m.length:Int)) (.req (0≤s.i∧s.i<((s.alive.length:Nat):Int)) (.req (s.i.toNat<s.alive.length) (.req (0≤s.i∧s.i<((s.alive.length:Nat):Int)) (.req (s.i.toNat<s.alive.length) (.req (0=0∧(s.alive.length)=List.length (s.alive.set s.i.toNat (if (s.alive.getD s.i.toNat (Ty.dflt aSg))<(gi s.m s.i) then (gi s.m s.i) else (s.alive.getD s.i.toNat (Ty.dflt aSg))))) (.ok (.next {s with i:=(aSe (s.i+1)),alive:=(s.alive.set s.i.toNat (if (s.alive.getD s.i.toNat (Ty.dflt aSg))<(gi s.m s.i) then (gi s.m s.i) else (s.alive.getD s.i.toNat (Ty.dflt aSg))))})))))))) (.rl s.alive (.ok (.stop (.exit 0) s)))
abbrev aCY (s:oL):=(afH s).rd s
def akN (s:oL):Prop:=s.i=0∧s.k=(s.m.length:Int)∧s.k≤1000∧s.alive.length=s.m.length∧(∀j,0≤j→j<s.k→gi s.alive j=CV (bG s.gs j))∧True
def TA (s:oL):Prop:=(0≤s.i∧s.i≤s.k)∧s.k=(s.m.length:Int)∧s.k≤1000∧s.alive.length=s.m.length∧(∀j,0≤j→j<s.k→gi s.alive j=if j<s.i then mx (CV (bG s.gs j)) (gi s.m j) else CV (bG s.gs j))∧True
def VH (s:oL):Nat:=(s.k-s.i).toNat
def atQ (x:Ex) (_ s':oL):Prop:=x=.exit 0∧s'.alive=sW s'.m.length (λj=>mx (CV (bG s'.gs j)) (gi s'.m j))
theorem aNQ:∀s,akN s→TA s:=by
 intro s h;obtain ⟨h0,h2,h3,h4,h5,h6⟩:=h;exact ⟨by omega,h2,h3,h4,λj j0 j1=>by rw [h5 j j0 j1,if_neg (by omega)],h6⟩
theorem aIF (s:oL) (hI:TA s):bJ (λs'=>TA s'∧VH s'<VH s) (λx s'=>atQ x s s') (aCY s):=by
 unfold aCY afH;dsimp only [T.rd,T.rl];obtain ⟨⟨h0,h1⟩,h2,h3,h4,h5,h6⟩:=hI;refine ai (λc1=>?_) (λc1=>?_)
 ·have c1:s.i<s.k:=by simpa using c1
  rw [aH (x:=s.i+1)];refine ⟨⟨⟨by simp only;omega,by simp only;omega⟩,h2,h3,by simp only [List.length_set];exact h4,λj j0 j1=>?_,h6⟩,by simp only [VH];omega⟩
  simp only
  have hi:=h5 s.i h0 c1
  rw [if_neg (show ¬s.i<s.i by omega)] at hi
  rw [mW h0 (by rw [h4];omega) j0]
  by_cases e:j=s.i
  ·subst e
   rw [if_pos rfl,if_pos (show s.i<s.i+1 by omega)]
   show mx (gi s.alive s.i) (gi s.m s.i)=_
   rw [hi]
  ·rw [if_neg e,h5 j j0 j1]
   by_cases q:j<s.i
   ·rw [if_pos q,if_pos (show j<s.i+1 by omega)]
   ·rw [if_neg q,if_neg (show ¬j<s.i+1 by omega)]
 ·have c1:s.k≤s.i:=by simpa using c1
  refine ⟨rfl,?_⟩;refine kP (by rw [dH];exact h4) λj j0 j1=>?_
  rw [dH] at j1;rw [lq j0 j1,h5 j j0 (by omega),if_pos (show j<s.i by omega)]
def JM:bK oL:=⟨0,71,[0,4,7,41,42,43],[],aQP,aPx,λv b=>⟨aU dY (pR (v.getD 0 .junk) 0),aU .str (pR (v.getD 0 .junk) 1),aU fC (pR (v.getD 0 .junk) 2),aU dP (pR (v.getD 0 .junk) 3),aU fD (pR (v.getD 0 .junk) 4),aU kY (pR (v.getD 0 .junk) 5),aU jr (pR (v.getD 0 .junk) 6),gI (pR (v.getD 0 .junk) 7),aU aSg (pR (v.getD 0 .junk) 8),aU aSg (v.getD 1 .junk),aU aSg (v.getD 3 .junk),gI (v.getD 4 .junk),gI (v.getD 5 .junk),iW aSg (aT b 0)⟩,afH,λs r=> {r with cs:=s.cs,os:=s.os,ks:=s.ks,gs:=s.gs,bs:=s.bs,l:=s.l,d:=s.d,t:=s.t,od:=s.od,targets:=s.targets,m:=s.m,k:=s.k},λs=>s,λ_ s=>s,[.exit 0],akN,TA,VH⟩
abbrev ve:=JM.run
abbrev az4:=JM.jf
abbrev aKj:=JM.q
theorem aGp (s:oL) (hI:TA s):(afH s).all (λ_=>True):=by
 refine ⟨λc1=>⟨?_,?_,?_,?_,?_,?_,trivial⟩,λc1=>⟨aSf,trivial⟩⟩
 all_goals ((obtain ⟨⟨h0,h1⟩,h2,h3,h4,h5,h6⟩:=hI;(try simp only [decide_eq_true_eq] at c1);first|omega|exact ⟨rfl,by simp⟩ |(omega)))
def aqO:Hand:=inl Tryz.prog aP DX (dK 72 0 3 (PY.lp) (jT Tryz.prog aP (DX) 20 2)) 9
theorem aBw:dn Tryz.prog aP aqO:=bV Ih (bg Tryz.func72 rfl (by kernel_rfl) awp (dD Ih)) 9
theorem apz:JM.Ok:={}
theorem aoi:JM.Pf (atQ):=⟨aNQ,λ_ _=>rfl,aIF,aGp⟩
theorem awn:bC Tryz.prog aP (AN 0) (.loop FD) JM.lp:=bK.snd apz aoi (aQ (Γ:=DX) (K:=aqO) (L:=ay) Ih aBw FD (λb hb=>by rw [show ax FD=[] by kernel_rfl] at hb;cases hb)) (λs=>by kernel_rfl)
theorem aAi (s:oL) (hE:akN s):∃s',TA s'∧atQ (az4 s) s' (ve s):=bK.fin apz aoi s hE
def aj0:List LV→T LV
 | [.xq 9 q0]=>(match ([q0 0,q0 1,q0 2,q0 3,q0 4,q0 5,q0 6,q0 7,q0 8]:List LV) with
  | [.xl (.pair .str (.pair (.int .i64) (.pair (.int .i64) (.pair (.int .i64) (.pair (.pair (.int .i64) (.int .i64)) (.pair (.int .i64) (.pair (.int .i64) (.pair (.int .i64) (.pair (.int .i64) (.int .i64)))))))))) cs,.xl (.str) os,.xl (.pair .str (.pair (.int .i64) (.pair (.int .i64) (.int .i64)))) ks,.xl (.pair .str (.pair (.int .i64) (.pair (.int .i64) (.pair (.int .i64) (.pair (.int .i64) (.pair (.int .i64) (.pair (.int .i64) (.int .i64)))))))) gs,.xl (.pair .str (.int .i64)) bs,.xl (.pair (.int .i64) (.pair (.int .i64) (.pair (.int .i64) (.pair (.int .i64) (.int .i64))))) l,.xl (.pair .bool (.pair (.int .i64) (.pair (.int .i64) (.int .i64)))) d,.v (.int .i64 t),.xl (.int .i64) od]=> .req (d.length=gs.length∧sQ cs os ks gs bs (mG gs) (qj gs d) od=true∧Ho l (gs.length:Int) t=true∧sQ cs os ks gs bs (qw gs l t) (zW cs os ks gs bs (mG gs) (qj gs d) od) od=true) (.ok (.iU [.xl aSg (Uz cs os ks gs bs l d t od),.v (.int .i64 0)]))
  |_=> .no)
 |_=> .no
def aeA:List LV→T LV:=gZ Tryz.prog Tryz.f36.params.toList aj0
theorem ayL (cs:List Cd) (os:List ByteArray) (ks:List Ko) (gs:List Ch) (bs:List Ba) (l:List Le) (d:List Dm) (t:Int) (od:List Int):letI b:=(gs.length:Int);letI c:=(List.replicate b.toNat (0:Int));letI e:=zW cs os ks gs bs (mG gs) (qj gs d) od;letI f:=(nP (⟨gs,b,(0:Int),c⟩:mQ));letI h:=shE cs os ks gs bs (mG gs) (qj gs d) od;letI k:=(List.length (qO l b t):Int);letI a:=(ve (⟨cs,os,ks,gs,bs,l,d,t,od,e,(qO l b t),k,(0:Int),f.out⟩:oL));letI g:=(a.alive.drop 0).take (List.length a.alive);cO Tryz.prog aP (DX) aqO (λi=>if i=9 then JM.lp else ay i) Tryz.f36 [.xq 9 (λj=>([.xl dY cs,.xl .str os,.xl fC ks,.xl dP gs,.xl fD bs,.xl kY l,.xl jr d,.v (.int .i64 t),.xl aSg od]:List LV).getD j .junk)]=.req (b≤1000∧d.length=gs.length) (.br (h !=0) (.ok (.iU [.xl aSg ([]:List Int),.v (.int .i64 h)])) (.br ((ZT l b t) !=0) (.ok (.iU [.xl aSg ([]:List Int),.v (.int .i64 (ZT l b t))])) (.req (0≤b∧b≤b∧8*b≤2^48∧b<2^63) (.req (0=0∧b.toNat=List.length c) (.req (aKl (⟨gs,b,(0:Int),c⟩:mQ)) (.rl f.out (.req (aKj (⟨cs,os,ks,gs,bs,l,d,t,od,e,(qO l b t),k,(0:Int),f.out⟩:oL)) (.req (0+(List.length a.alive)≤List.length a.alive) (.ok (.iU [.xl aSg (zW cs os ks gs bs g e od),.v (.int .i64 (shE cs os ks gs bs g e od))])))))))))):=by kernel_rfl
theorem aEw:Valid Tryz.prog aP 36 aeA:=aI Tryz.func36 rfl Ih aBw (L:=(λi=>if i=9 then JM.lp else ay i)) (λb hb=>by
 rw [show ax _=[FD] by kernel_rfl] at hb
 simp only [List.mem_cons,List.not_mem_nil,or_false] at hb;subst hb;exact awn) (λargs lv h=>by
 unfold aj0 at h;split at h
 ·split at h
  case h_2=>cases h
  rename_i heq0;simp only [canL,canX];rw [rU (n:=9) heq0];simp only [canL,canX];rw [ayL];rename_i cs os ks gs bs l d t od;obtain ⟨⟨hd,hk,hv,hk2⟩,rfl⟩:=h
  have gl:=(fK.1 (iJ.1 hk).1).1.2.2.2.2.1
  have ea:qO l (gs.length:Int) t=ZR gs.length l t:=by unfold qO;rw [if_pos hv,Int.toNat_natCast]
  rw [aAX hk,show ZT l (gs.length:Int) t=0 by unfold ZT;rw [if_pos hv]]
  refine ⟨⟨by omega,hd⟩,λc=>absurd c (by decide),λ_=>⟨λc=>absurd c (by decide),λ_=>?_⟩⟩
  have hE:akP ⟨gs,(gs.length:Int),0,List.replicate (gs.length:Int).toNat 0⟩:=⟨rfl,rfl,by simp only;omega,by simp,λj _ _=>vT,trivial⟩
  obtain ⟨_,_,q1,q2⟩:=aAk _ hE
  have q2:(nP ⟨gs,(gs.length:Int),0,List.replicate (gs.length:Int).toNat 0⟩).out=mG gs:=q2
  have hE2:akN ⟨cs,os,ks,gs,bs,l,d,t,od,zW cs os ks gs bs (mG gs) (qj gs d) od,qO l (gs.length:Int) t,(List.length (qO l (gs.length:Int) t):Int),0,(nP ⟨gs,(gs.length:Int),0,List.replicate (gs.length:Int).toNat 0⟩).out⟩:=⟨rfl,rfl,by simp only;rw [ea,zH];omega,by simp only;rw [q2,ea,zH];exact dH,λj j0 j1=>by
   simp only at j1⊢;rw [ea,zH] at j1;rw [q2];exact lq j0 j1,trivial⟩
  obtain ⟨_,_,q3,q4⟩:=aAi _ hE2
  have q4:(ve ⟨cs,os,ks,gs,bs,l,d,t,od,zW cs os ks gs bs (mG gs) (qj gs d) od,qO l (gs.length:Int) t,(List.length (qO l (gs.length:Int) t):Int),0,(nP ⟨gs,(gs.length:Int),0,List.replicate (gs.length:Int).toNat 0⟩).out⟩).alive=qw gs l t:=q4.trans (by
   show sW (qO l (gs.length:Int) t).length (λj=>mx (CV (bG gs j)) (gi (qO l (gs.length:Int) t) j))=_
   rw [ea,zH];rfl)
  refine ⟨by omega,⟨rfl,by simp⟩,⟨hE,rfl,rfl⟩,aSf,⟨hE2,rfl,rfl⟩,by omega,?_⟩
  show LV.iU [LV.xl _ _,_]=_
  rw [List.drop_zero,List.take_length,q4,aAX hk2];rfl
 ·cases h)
def am3:Array Tmp×Code×Code:=((lF (Tryz.f38.body.getD .skip))[0]?).getD (#[],.skip,.skip)
def aLQ:Array Tmp:=am3.1
def aMj:Code:=am3.2.1
def aMe:Code:=am3.2.2
structure pM where
 i:Int
 cs:List Cd
 os:List ByteArray
 ks:List Ko
 gs:List Ch
 bs:List Ba
 l:List Le
 d:List Dm
 t:Int
 od:List Int
 c:Int
 a:Int
 r:Bool
 m:List Le
 st:LS
def aQQ (s:pM):List LV:=[.yt 5,.own 4 0,.v (.int .i64 s.i)]
def aPy (s:pM):List aZ:=[⟨[.xq 9 (λj=>([.xl dY s.cs,.xl .str s.os,.xl fC s.ks,.xl dP s.gs,.xl fD s.bs,.xl kY s.l,.xl jr s.d,.v (.int .i64 s.t),.xl aSg s.od]:List LV).getD j .junk)],73,.cl,false⟩,⟨[.v (.int .i64 s.c)],3,.cl,false⟩,⟨[.v (.int .i64 s.a)],3,.cl,false⟩,⟨[.v (.bool s.r)],4,.cl,false⟩,⟨[.xl kY s.m],29,.cl,false⟩,⟨[.junk,.junk,.junk,.own 0 0,.own 1 0,.own 2 0,.own 3 0,.junk,.v (.tuple #[]),.junk,.junk,.junk,.junk,.junk,.junk,.junk,.junk,.junk,.junk,.junk,.junk,.junk,.junk,.junk,.junk,.junk,.v (.tuple #[]),.v (.tuple #[]),.v (.tuple #[]),.v (.tuple #[]),.v (.tuple #[]),.v (.tuple #[]),.v (.tuple #[]),.v (.tuple #[]),.v (.tuple #[]),.v (.tuple #[]),.v (.tuple #[]),.v (.tuple #[]),.v (.tuple #[]),.v (.tuple #[]),.v (.tuple #[]),.v (.tuple #[]),.v (.tuple #[]),.v (.tuple #[]),.v (.tuple #[])],0,.ni aLQ aMj aMe s.st,false⟩]
def ZJ:Code:=((ax (Tryz.f115.body.getD .skip))[0]?).getD .skip
def X4 (s:pM):T (Rd pM):=
 .br (decide (s.i≥0)) (.req (0≤s.i∧s.i<(s.m.length:Int)) (.br ((gV s.m s.i).2.1==s.c) (.ok (.stop (.ret) {s with r:=(((gV s.m s.i).2.2.1 !=s.a) ||(decide ((gV s.m s.i).2.2.2.1≤(aSe (s.t-6))))),st:=(.done (.ret))})) (.ok (.next {s with i:=(aSe (s.i-1))})))) (.ok (.stop (.exit 0) s))
abbrev ahR (s:pM):=(X4 s).rd s
def akO (s:pM):Prop:=s.st=.ready∧s.i=(s.m.length:Int)-1∧(s.m.length:Int)≤1000∧0≤s.t∧s.t≤1000000
def aaA (s:pM):Prop:=s.st=.ready∧(-1≤s.i∧s.i<(s.m.length:Int))∧(s.m.length:Int)≤1000∧0≤s.t∧s.t≤1000000
def VI (s:pM):Nat:=(s.i+1).toNat
def aDo (_:Ex) (_ _:pM):Prop:=True
theorem aNR:∀s,akO s→aaA s:=by
 intro s h;obtain ⟨h0,h1,h2⟩:=h;exact ⟨h0,by omega,h2⟩
theorem aIG (s:pM) (hI:aaA s):bJ (λs'=>aaA s'∧VI s'<VI s) (λx s'=>aDo x s s') (ahR s):=by
 unfold ahR X4;dsimp only [T.rd,T.rl];obtain ⟨hs,⟨h0,h1⟩,h2⟩:=hI;refine ai (λc1=>ai (λc2=>trivial) (λc2=>?_)) (λc1=>trivial)
 have c1:0≤s.i:=by simpa using c1
 rw [aH (x:=s.i-1)];exact ⟨⟨hs,⟨by simp only;omega,by simp only;omega⟩,h2⟩,by simp only [VI];omega⟩
def PX:bK pM:=⟨6,19,[0,1,3],[],aQQ,aPy,λv b=>⟨gI (v.getD 2 .junk),aU dY (pR (bn (aT b 0) 0) 0),aU .str (pR (bn (aT b 0) 0) 1),aU fC (pR (bn (aT b 0) 0) 2),aU dP (pR (bn (aT b 0) 0) 3),aU fD (pR (bn (aT b 0) 0) 4),aU kY (pR (bn (aT b 0) 0) 5),aU jr (pR (bn (aT b 0) 0) 6),gI (pR (bn (aT b 0) 0) 7),aU aSg (pR (bn (aT b 0) 0) 8),gI (bn (aT b 1) 0),gI (bn (aT b 2) 0),vW (bn (aT b 3) 0),aU kY (bn (aT b 4) 0),.ready⟩,X4,λs r=> {r with cs:=s.cs,os:=s.os,ks:=s.ks,gs:=s.gs,bs:=s.bs,l:=s.l,d:=s.d,t:=s.t,od:=s.od,c:=s.c,a:=s.a,m:=s.m},λs=> {s with st:=.ready},λx s=> {s with st:=(match x with| .ret=>(.done (.ret)) | .exit 0=> .ready|_=> .ready)},[.ret,.exit 0],akO,aaA,VI⟩
abbrev agl:=PX.run
abbrev ais:=PX.jf
abbrev aKk:=PX.q
def Il:Specs:=aW []
theorem Np:∀g S,Il g=some S→Valid Tryz.prog aP g S:=aS (l:=[]) trivial
def aqN:Hand:=inl Tryz.prog aP Il (jT Tryz.prog aP (Il) 20 2) 9
theorem aBv:dn Tryz.prog aP aqN:=bV Np (dD Np) 9
theorem aGq (s:pM) (hI:aaA s):(X4 s).all (λ_=>True):=by
 refine ⟨λc1=>⟨?_,λ_=>trivial,λ_=>trivial⟩,λ_=>trivial⟩
 ·(obtain ⟨hs,⟨h0,h1⟩,h2⟩:=hI;simp only [decide_eq_true_eq] at c1;omega)
theorem apA:PX.Ok:={}
theorem aoj:PX.Pf (aDo):=⟨aNR,λs h=>by
 obtain ⟨i,cs,os,ks,gs,bs,l,d,t,od,c,a,r,m,st⟩:=s
 have e:st=.ready:=h.1
 subst e;rfl,aIG,aGq⟩
theorem awo:bC Tryz.prog aP (AN 6) (.loop ZJ) PX.lp:=bK.snd apA aoj (bI (Γ:=Il) (K:=aqN) (L:=(ql Tryz.prog aP Il aqN 20 2)) Np aBv ZJ (λb _=>dA Np aBv 20 2 b)) (λs=>by kernel_rfl)
theorem aAj (s:pM) (hE:akO s):(λ(x:Ex) (s':pM) (v:Bool)=>(x=.ret∧s'.r=v)∨(x=.exit 0∧v=true)) (ais s) (agl s) ((λs:pM=>L9 s.a s.t ((s.m.take (s.i+1).toNat).reverse.find? (λx=>x.2.1==s.c))) s):=by
 exact bK.mD apA aoj (λs:pM=>L9 s.a s.t ((s.m.take (s.i+1).toNat).reverse.find? (λx=>x.2.1==s.c))) (λx s' v=>(x=.ret∧s'.r=v)∨(x=.exit 0∧v=true)) (λs hI=>by
  show bJ _ _ (ahR s)
  unfold ahR X4;dsimp only [T.rd,T.rl];obtain ⟨hs,⟨h0,h1⟩,h2⟩:=hI;refine ai (λc1=>?_) (λc1=>?_)
  ·have c1:0≤s.i:=by simpa using c1
   have e:=(o9 c1 (show s.i<(s.m.length:Int) by omega)).2
   refine ai (λc2=> .inl ⟨rfl,?_⟩) (λc2=>?_)
   ·rw [e,List.reverse_append]
    show _=L9 s.a s.t (List.find? _ (gV s.m s.i::_))
    rw [List.find?_cons_of_pos (by exact c2)]
    simp only [L9];rw [aH (x:=s.t-6)]
   ·show L9 _ _ _=L9 _ _ _
    simp only;rw [aH (x:=s.i-1),e,List.reverse_append]
    show _=L9 s.a s.t (List.find? _ (gV s.m s.i::_))
    rw [List.find?_cons_of_neg (by rw [c2];decide),show (s.i-1+1).toNat=s.i.toNat by omega]
    rfl
  ·have c1:s.i<0:=by simpa using c1
   refine .inr ⟨rfl,?_⟩;rw [show (s.i+1).toNat=0 by omega]
   rfl) s hE
def aj1:List LV→T LV
 | [.xq 9 q0,.v (.int .i64 i),.v (.int .i64 a)]=>(match ([q0 0,q0 1,q0 2,q0 3,q0 4,q0 5,q0 6,q0 7,q0 8]:List LV) with
  | [.xl (.pair .str (.pair (.int .i64) (.pair (.int .i64) (.pair (.int .i64) (.pair (.pair (.int .i64) (.int .i64)) (.pair (.int .i64) (.pair (.int .i64) (.pair (.int .i64) (.pair (.int .i64) (.int .i64)))))))))) _,.xl (.str) _,.xl (.pair .str (.pair (.int .i64) (.pair (.int .i64) (.int .i64)))) _,.xl (.pair .str (.pair (.int .i64) (.pair (.int .i64) (.pair (.int .i64) (.pair (.int .i64) (.pair (.int .i64) (.pair (.int .i64) (.int .i64)))))))) gs,.xl (.pair .str (.int .i64)) _,.xl (.pair (.int .i64) (.pair (.int .i64) (.pair (.int .i64) (.pair (.int .i64) (.int .i64))))) l,.xl (.pair .bool (.pair (.int .i64) (.pair (.int .i64) (.int .i64)))) _,.v (.int .i64 t),.xl (.int .i64) _]=> .req ((0≤i∧i<(gs.length:Int))∧(l.length:Int)≤1000∧0≤t∧t≤1000000) (.ok (.v (.bool (nwB gs l t i a))))
  |_=> .no)
 |_=> .no
def aeB:List LV→T LV:=gZ Tryz.prog Tryz.f38.params.toList aj1
def aBG:Hand:=inl Tryz.prog aP Il (dK 115 6 1 (PX.lp) (jT Tryz.prog aP (Il) 20 2)) 9
theorem aM1:dn Tryz.prog aP aBG:=bV Np (bg Tryz.func115 rfl (by kernel_rfl) awo (dD Np)) 9
theorem ayM (cs:List Cd) (os:List ByteArray) (ks:List Ko) (gs:List Ch) (bs:List Ba) (l:List Le) (d:List Dm) (t:Int) (od:List Int) (i a:Int):letI b:=(aSe ((l.length:Int)-1));cO Tryz.prog aP (Il) aBG ay Tryz.f38 [.xq 9 (λj=>([.xl dY cs,.xl .str os,.xl fC ks,.xl dP gs,.xl fD bs,.xl kY l,.xl jr d,.v (.int .i64 t),.xl aSg od]:List LV).getD j .junk),.v (.int .i64 i),.v (.int .i64 a)]=.req (0≤i∧i<(gs.length:Int)) (.br (decide (a≤(bG gs i).2.2.2.2.2.2.1)) (.ok (.v (.bool false))) (.req (aKk (⟨b,cs,os,ks,gs,bs,l,d,t,od,i,a,false,l,.ready⟩:pM)) (.br (iV (ais (⟨b,cs,os,ks,gs,bs,l,d,t,od,i,a,false,l,.ready⟩:pM)) (.ret)) (.ok (.v (.bool (agl (⟨b,cs,os,ks,gs,bs,l,d,t,od,i,a,false,l,.ready⟩:pM)).r))) (.ok (.v (.bool true)))))):=by kernel_rfl
theorem aEx:Valid Tryz.prog aP 38 aeB:=aI Tryz.func38 rfl Np aM1 (bf (by kernel_rfl)) (λargs lv h=>by
 unfold aj1 at h;split at h
 ·split at h
  case h_2=>cases h
  rename_i heq0;simp only [canL,canX];rw [rU (n:=9) heq0];simp only [canL,canX];rw [ayM];rename_i i a _ cs os ks gs bs l d t od;obtain ⟨⟨hi,hl,ht⟩,rfl⟩:=h;refine ⟨hi,λc=>congrArg (λz=>LV.v (.bool z)) ?_,λc=>?_⟩
  ·have c:a≤CV (bG gs i):=of_decide_eq_true c
   unfold nwB;rw [decide_eq_true c];rfl
  have c:¬a≤CV (bG gs i):=of_decide_eq_false c
  have hE:akO ⟨aSe ((l.length:Int)-1),cs,os,ks,gs,bs,l,d,t,od,i,a,false,l,.ready⟩:=⟨rfl,by show aSe ((l.length:Int)-1)=_;rw [aH],hl,ht⟩
  have ev:nwB gs l t i a=L9 a t ((l.take (aSe ((l.length:Int)-1)+1).toNat).reverse.find? (λx=>x.2.1==i)):=by
   unfold nwB;rw [decide_eq_false c,aH (x:=(l.length:Int)-1),show ((l.length:Int)-1+1).toNat=l.length by omega,List.take_length]
   rfl
  refine ⟨⟨hE,rfl,rfl⟩,?_⟩;rcases aAj _ hE with ⟨q1,q2⟩ |⟨q1,q2⟩<;>rw [q1]
  ·exact ⟨λ_=>congrArg (λz=>LV.v (.bool z)) (q2.trans ev.symm),λh=>by cases h⟩
  ·exact ⟨λh=>(by cases h),λ_=>congrArg (λz=>LV.v (.bool z)) (q2.symm.trans ev.symm)⟩
 ·cases h)
def Z9:List LV→T LV
 | [.v (.int .i64 _)]=> .ok (.v (.bool false))
 |_=> .no
def WS:List LV→T LV:=gZ Tryz.prog Tryz.f85.params.toList Z9
def Za:Specs:=aW []
theorem ag8:∀g S,Za g=some S→Valid Tryz.prog aP g S:=aS (l:=[]) trivial
theorem apW (x:Int):cO Tryz.prog aP (Za) dR ay Tryz.f85 [.v (.int .i64 x)]=.ok (.v (.bool (x !=x))):=by kernel_rfl
theorem auV:Valid Tryz.prog aP 85 WS:=aI Tryz.func85 rfl ag8 aA (bf (by kernel_rfl)) (λargs lv h=>by
 unfold Z9 at h;split at h
 ·simp only [canL,canX]
  rw [apW];obtain rfl:=h;exact congrArg (λz=>LV.v (.bool z)) (by simp)
 ·cases h)
def aj6:List LV→T LV
 | [.v (.int .i64 x),.v (.int .i64 y)]=> .ok (.v (.int .i64 (cm x y)))
 |_=> .no
def aeE:List LV→T LV:=gZ Tryz.prog Tryz.f47.params.toList aj6
def aCd:Specs:=aW [(85,WS)]
theorem aNn:∀g S,aCd g=some S→Valid Tryz.prog aP g S:=aS (l:=[(85,WS)]) ⟨auV,trivial⟩
theorem ayP (x y:Int):cO Tryz.prog aP (aCd) dR ay Tryz.f47 [.v (.int .i64 x),.v (.int .i64 y)]=.br false (.br false (.ok (.v (.int .i64 0))) (.ok (.v (.int .i64 (-1))))) (.br false (.ok (.v (.int .i64 1))) (.br (decide (x<y)) (.ok (.v (.int .i64 (-1)))) (.br (decide (x>y)) (.ok (.v (.int .i64 1))) (.ok (.v (.int .i64 0)))))):=by kernel_rfl
theorem aEA:Valid Tryz.prog aP 47 aeE:=aI Tryz.func47 rfl aNn aA (bf (by kernel_rfl)) (λargs lv h=>by
 unfold aj6 at h;split at h
 ·simp only [canL,canX]
  rw [ayP];obtain rfl:=h;unfold cm;refine ⟨λh=>(by cases h),λ_=>⟨λh=>(by cases h),λ_=>⟨λc=>?_,λc=>⟨λc2=>?_,λc2=>?_⟩⟩⟩⟩<;>refine congrArg (λz=>LV.v (.int .i64 z)) ?_
  ·rw [if_pos (by simpa using c)]
  ·rw [if_neg (by simpa using c),if_pos (by simpa using c2)]
  ·rw [if_neg (by simpa using c),if_neg (by simpa using c2)]
 ·cases h)
structure pO where
 r:Int
 z:Int
 l:List Int
 n:Int
 i:Int
def aQU (s:pO):List LV:=[.v (.int .i64 s.r),.v (.int .i64 s.z),.xl aSg s.l,.v (.int .i64 s.n),.v (.int .i64 s.i)]
def aPC (_:pO):List aZ:=[]
def FK:Code:=((ax (Tryz.f46.body.getD .skip))[0]?).getD .skip
def X5 (s:pO):T (Rd pO):=
 .br (decide (s.i<s.n)) (.req (0≤s.i∧s.i<(s.l.length:Int)) (.br ((gi s.l s.i) !=s.z) (.ok (.stop (.ret) {s with r:=(gi s.l s.i)})) (.ok (.next {s with i:=(aSe (s.i+1))})))) (.ok (.stop (.exit 0) s))
abbrev ahS (s:pO):=(X5 s).rd s
def akR (s:pO):Prop:=s.i=0∧s.n=(s.l.length:Int)∧s.n≤1000∧s.z=0
def aaB (s:pO):Prop:=(0≤s.i∧s.i≤s.n)∧s.n=(s.l.length:Int)∧s.n≤1000∧s.z=0
def VL (s:pO):Nat:=(s.n-s.i).toNat
def aDp (_:Ex) (_ _:pO):Prop:=True
theorem aNW:∀s,akR s→aaB s:=by
 intro s h;obtain ⟨h0,h2,h3,h4⟩:=h;exact ⟨by omega,h2,h3,h4⟩
theorem aIQ (s:pO) (hI:aaB s):bJ (λs'=>aaB s'∧VL s'<VL s) (λx s'=>aDp x s s') (ahS s):=by
 unfold ahS X5;dsimp only [T.rd,T.rl];obtain ⟨⟨h0,h1⟩,h2,h3,h4⟩:=hI;refine ai (λc1=>?_) (λc1=>?_)
 ·refine ai (λc2=>?_) (λc2=>?_)
  ·exact trivial
  ·have c1:s.i<s.n:=by simpa using c1
   rw [aH (x:=s.i+1)];exact ⟨⟨⟨by simp only;omega,by simp only;omega⟩,h2,h3,h4⟩,by simp only [VL];omega⟩
 ·exact trivial
def JQ:bK pO:=⟨0,18,[2,3,6,7,8],[],aQU,aPC,λv _=>⟨gI (v.getD 0 .junk),gI (v.getD 1 .junk),aU aSg (v.getD 2 .junk),gI (v.getD 3 .junk),gI (v.getD 4 .junk)⟩,X5,λs r=> {r with z:=s.z,l:=s.l,n:=s.n},λs=>s,λ_ s=>s,[.ret,.exit 0],akR,aaB,VL⟩
abbrev agm:=JQ.run
abbrev ait:=JQ.jf
abbrev aKo:=JQ.q
theorem aGu (s:pO) (hI:aaB s):(X5 s).all (λ_=>True):=by
 refine ⟨λc1=>⟨?_,λ_=>trivial,λ_=>trivial⟩,λ_=>trivial⟩
 ·(obtain ⟨⟨h0,h1⟩,h2,h3⟩:=hI;simp only [decide_eq_true_eq] at c1;omega)
theorem apD:JQ.Ok:={}
theorem aom:JQ.Pf (aDp):=⟨aNW,λ_ _=>rfl,aIQ,aGu⟩
theorem aws:bC Tryz.prog aP (AN 0) (.loop FK) JQ.lp:=bK.snd apD aom (aQ (Γ:=Za) (K:=dR) (L:=ay) ag8 aA FK (λb hb=>by rw [show ax FK=[] by kernel_rfl] at hb;cases hb)) (λs=>by kernel_rfl)
theorem aAp (s:pO) (hE:akR s):(λ(x:Ex) (s':pO) (v:Int)=>(x=.ret∧s'.r=v)∨(x=.exit 0∧s'.z=v)) (ait s) (agm s) ((λs:pO=>orI (s.l.drop s.i.toNat)) s):=by
 exact bK.mD apD aom (λs:pO=>orI (s.l.drop s.i.toNat)) (λx s' v=>(x=.ret∧s'.r=v)∨(x=.exit 0∧s'.z=v)) (λs hI=>by
  show bJ _ _ (ahS s)
  unfold ahS X5;dsimp only [T.rd,T.rl];obtain ⟨⟨h0,h1⟩,h2,h3,h4⟩:=hI;refine ai (λc1=>?_) (λc1=>?_)
  ·have c1:s.i<s.n:=by simpa using c1
   have e:s.l.drop s.i.toNat=gi s.l s.i::s.l.drop (s.i+1).toNat:=(gi_step h0 (show s.i<(s.l.length:Int) by omega)).1
   rw [aH (x:=s.i+1)];refine ai (λc2=>?_) (λc2=>?_)
   ·refine .inl ⟨rfl,?_⟩
    simp only;rw [e,orI,if_pos (by rw [h4] at c2;exact c2)]
   ·show orI _=orI _
    simp only;rw [e,orI,if_neg (by rw [h4] at c2;rw [c2];simp)]
  ·have c1:s.n≤s.i:=by simpa using c1
   refine .inr ⟨rfl,?_⟩;rw [List.drop_eq_nil_of_le (by omega),h4]
   rfl) s hE
def aj7:List LV→T LV
 | [.xl (.int .i64) l]=> .req ((l.length:Int)≤1000) (.ok (.v (.int .i64 (orI l))))
 |_=> .no
def aeF:List LV→T LV:=gZ Tryz.prog Tryz.f46.params.toList aj7
theorem ayQ (l:List Int):letI a:=(l.length:Int);cO Tryz.prog aP (Za) dR (λi=>if i=3 then JQ.lp else ay i) Tryz.f46 [.xl aSg l]=.req (aKo (⟨(0:Int),(0:Int),l,a,(0:Int)⟩:pO)) (.br (iV (ait (⟨(0:Int),(0:Int),l,a,(0:Int)⟩:pO)) (.ret)) (.ok (.v (.int .i64 (agm (⟨(0:Int),(0:Int),l,a,(0:Int)⟩:pO)).r))) (.ok (.v (.int .i64 (0:Int))))):=by kernel_rfl
theorem aEB:Valid Tryz.prog aP 46 aeF:=aI Tryz.func46 rfl ag8 aA (L:=(λi=>if i=3 then JQ.lp else ay i)) (λb hb=>by
 rw [show ax _=[FK] by kernel_rfl] at hb
 simp only [List.mem_cons,List.not_mem_nil,or_false] at hb;subst hb;exact aws) (λargs lv h=>by
 unfold aj7 at h;split at h
 ·simp only [canL,canX]
  rw [ayQ];rename_i l;obtain ⟨hl,rfl⟩:=h
  have hE:akR ⟨0,0,l,(l.length:Int),0⟩:=⟨rfl,rfl,hl,rfl⟩
  refine ⟨⟨hE,rfl,rfl⟩,?_⟩;rcases aAp _ hE with ⟨q1,q2⟩ |⟨q1,q2⟩<;>rw [q1]
  ·exact ⟨λ_=>congrArg (λz=>LV.v (.int .i64 z)) q2,λh=>by cases h⟩
  ·exact ⟨λh=>(by cases h),λ_=>congrArg (λz=>LV.v (.int .i64 z)) q2⟩
 ·cases h)
def ai1:List LV→T LV
 | [.v (.int .i64 i),.xq 1 q0,.xq 1 q1]=>(match ([q0 0]:List LV) with
  | [.xl (.pair .bool (.pair (.int .i64) (.pair (.int .i64) (.int .i64)))) d]=>(match ([q1 0]:List LV) with
  | [.v (.int .i64 t)]=> .req (kX d t∧0≤i∧i<(d.length:Int)) (.ok (.v (.int .i64 (Uj d t i))))
  |_=> .no)
  |_=> .no)
 |_=> .no
def nX:List LV→T LV:=gZ Tryz.prog Tryz.f43.params.toList ai1
theorem axM (i:Int) (d:List Dm) (t:Int):cO Tryz.prog aP (Za) dR ay Tryz.f43 [.v (.int .i64 i),.xq 1 (λj=>([.xl jr d]:List LV).getD j .junk),.xq 1 (λj=>([.v (.int .i64 t)]:List LV).getD j .junk)]=.req (0≤i∧i<(d.length:Int)) (.req (0≤i∧i<(d.length:Int)) (.ok (.v (.int .i64 (aSe ((aSe ((jG d i).2.2.1-t))-(jG d i).2.1)))))):=by kernel_rfl
theorem BB:Valid Tryz.prog aP 43 nX:=aI Tryz.func43 rfl ag8 aA (bf (by kernel_rfl)) (λargs lv h=>by
 unfold ai1 at h;split at h
 ·split at h
  case h_2=>cases h
  rename_i heq0;split at h
  case h_2=>cases h
  rename_i heq1;simp only [canL,canX];rw [rU (n:=1) heq0];simp only [canL,canX];rw [rU (n:=1) heq1];simp only [canL,canX];rw [axM];rename_i i _ _ _ d _ t;obtain ⟨⟨hw,hi⟩,rfl⟩:=h
  have b:=aa3 hw hi.1 hi.2
  have ht:=hw.2
  refine ⟨hi,hi,congrArg (λz=>LV.v (.int .i64 z)) ?_⟩
  unfold Uj;rw [aH (x:=(jG d i).2.2.1-t),aH]
 ·cases h)
def asW:List LV→T LV
 | [.v (.int .i64 a),.v (.int .i64 b),.xq 1 q0,.xq 1 q1]=>(match ([q0 0]:List LV) with
  | [.xl (.pair .bool (.pair (.int .i64) (.pair (.int .i64) (.int .i64)))) d]=>(match ([q1 0]:List LV) with
  | [.fn 43 [.xq 1 q2,.xq 1 q3]]=>(match ([q2 0]:List LV) with
  | [.xl (.pair .bool (.pair (.int .i64) (.pair (.int .i64) (.int .i64)))) e]=>(match ([q3 0]:List LV) with
  | [.v (.int .i64 t)]=> .req (d=e∧kX d t∧(0≤a∧a<(d.length:Int))∧0≤b∧b<(d.length:Int)) (.ok (.v (.int .i64 (cmD d t a b))))
  |_=> .no)
  |_=> .no)
  |_=> .no)
  |_=> .no)
 |_=> .no
def wW:List LV→T LV:=gZ Tryz.prog Tryz.f45.params.toList asW
def aCc:Specs:=aW [(43,nX),(46,aeF),(47,aeE)]
theorem aNm:∀g S,aCc g=some S→Valid Tryz.prog aP g S:=aS (l:=[(43,nX),(46,aeF),(47,aeE)]) ⟨BB,aEB,aEA,trivial⟩
theorem aHC (a b:Int) (d e:List Dm) (t:Int):letI c:=cm (jG d a).2.2.2 (jG d b).2.2.2;letI f:=cm (Uj e t a) (Uj e t b);cO Tryz.prog aP (aCc) dR ay Tryz.f45 [.v (.int .i64 a),.v (.int .i64 b),.xq 1 (λj=>([.xl jr d]:List LV).getD j .junk),.xq 1 (λj=>([.fn 43 [.xq 1 (λj=>([.xl jr e]:List LV).getD j .junk),.xq 1 (λj=>([.v (.int .i64 t)]:List LV).getD j .junk)]]:List LV).getD j .junk)]=.req (0≤a∧a<(d.length:Int)) (.req (0≤b∧b<(d.length:Int)) (.req (kX e t∧0≤a∧a<(e.length:Int)) (.req (kX e t∧0≤b∧b<(e.length:Int)) (.req ((List.length ([c,f,(cm a b)]):Int)≤1000) (.ok (.v (.int .i64 (orI ([c,f,(cm a b)]))))))))):=by kernel_rfl
theorem Qw:Valid Tryz.prog aP 45 wW:=aI Tryz.func45 rfl aNm aA (bf (by kernel_rfl)) (λargs lv h=>by
 unfold asW at h;split at h
 ·split at h
  case h_2=>cases h
  rename_i heq0;split at h
  case h_2=>cases h
  rename_i heq1;split at h
  case h_2=>cases h
  rename_i heq2;split at h
  case h_2=>cases h
  rename_i heq3;simp only [canL,canX];rw [rU (n:=1) heq0];simp only [canL,canX];rw [rU (n:=1) heq1];simp only [canL,canX];rw [rU (n:=1) heq2];simp only [canL,canX];rw [rU (n:=1) heq3];simp only [canL,canX];rw [aHC];rename_i a b _ d _ _ _ _ e _ t;obtain ⟨⟨rfl,hw,ha,hb⟩,rfl⟩:=h;exact ⟨ha,hb,⟨hw,ha⟩,⟨hw,hb⟩,by simp,rfl⟩
 ·cases h)
structure uK where
 n:Int
 i:Int
 d:List Dm
 tick:Int
 out:List Int
def aQs (s:uK):List LV:=[.own 0 0,.own 1 0,.os 2 1 0 (s.out.length),.v (.int .i64 s.n),.v (.int .i64 s.i)]
def aPa (s:uK):List aZ:=[⟨[.xl jr s.d],31,.cl,false⟩,⟨[.v (.int .i64 s.tick)],3,.cl,false⟩,⟨[],3,.vec aSg s.out,false⟩]
def EZ:Code:=((ax (Tryz.f19.body.getD .skip))[0]?).getD .skip
def afv (s:uK):T (Rd uK):=
 .br (decide (s.i<s.n)) (.req (0≤s.i∧s.i<((s.out.length:Nat):Int)) (.req (s.i.toNat<s.out.length) (.req (0=0∧(s.out.length)=List.length (s.out.set s.i.toNat s.i)) (.ok (.next {s with i:=(aSe (s.i+1)),out:=(s.out.set s.i.toNat s.i)}))))) (.rl s.out (.ok (.stop (.exit 0) s)))
abbrev aCM (s:uK):=(afv s).rd s
def akC (s:uK):Prop:=s.i=0∧s.out=List.replicate s.d.length 0∧s.n=(s.d.length:Int)∧s.n≤1000∧s.out.length=s.d.length
def SL (s:uK):Prop:=(0≤s.i∧s.i≤s.n)∧s.out=BM s.i.toNat++List.replicate (s.d.length-s.i.toNat) 0∧s.n=(s.d.length:Int)∧s.n≤1000∧s.out.length=s.d.length
def Vk (s:uK):Nat:=(s.n-s.i).toNat
def atv (x:Ex) (_ s':uK):Prop:=x=.exit 0∧s'.out=BM s'.d.length
theorem aMA:∀s,akC s→SL s:=by
 intro s h;obtain ⟨h0,h1,h2⟩:=h;exact ⟨by omega,by rw [h0,h1];rfl,h2⟩
theorem aHd (s:uK) (hI:SL s):bJ (λs'=>SL s'∧Vk s'<Vk s) (λx s'=>atv x s s') (aCM s):=by
 unfold aCM afv;dsimp only [T.rd,T.rl];obtain ⟨⟨h0,h1⟩,h2,h3,h4,h5⟩:=hI;refine ai (λc1=>?_) (λc1=>?_)
 ·have c1:s.i<s.n:=by simpa using c1
  rw [aH (x:=s.i+1)]
  have e:s.d.length-s.i.toNat=(s.d.length-(s.i+1).toNat)+1:=by omega
  refine ⟨⟨⟨by simp only;omega,by simp only;omega⟩,?_,h3,h4,by simp only [List.length_set];exact h5⟩,by simp only [Vk];omega⟩
  simp only
  have hs:=afV (xs:=BM s.i.toNat) (r:=s.d.length-(s.i+1).toNat) (v:=s.i)
  rw [Dw] at hs;rw [h2,e,hs,show (s.i+1).toNat=s.i.toNat+1 by omega,QC,Int.toNat_of_nonneg h0]
 ·have c1:s.n≤s.i:=by simpa using c1
  refine ⟨rfl,?_⟩;rw [h2,show s.i.toNat=s.d.length by omega]
  simp
def Jv:bK uK:=⟨0,26,[2,3,5,12,13],[],aQs,aPa,λv b=>⟨gI (v.getD 3 .junk),gI (v.getD 4 .junk),aU jr (bn (aT b 0) 0),gI (bn (aT b 1) 0),iW aSg (aT b 2)⟩,afv,λs r=> {r with n:=s.n,d:=s.d,tick:=s.tick},λs=>s,λ_ s=>s,[.exit 0],akC,SL,Vk⟩
abbrev iC:=Jv.run
abbrev azU:=Jv.jf
abbrev aJY:=Jv.q
theorem aF2 (s:uK) (hI:SL s):(afv s).all (λ_=>True):=by
 refine ⟨λc1=>⟨?_,?_,?_,trivial⟩,λc1=>⟨aSf,trivial⟩⟩
 all_goals ((obtain ⟨⟨h0,h1⟩,h2,h3,h4,h5⟩:=hI;simp only [decide_eq_true_eq] at c1;first|omega|exact ⟨rfl,by simp⟩))
def ahf:Specs:=aW [(43,nX),(45,wW)]
theorem aq4:∀g S,ahf g=some S→Valid Tryz.prog aP g S:=aS (l:=[(43,nX),(45,wW)]) ⟨BB,Qw,trivial⟩
def aBJ:Hand:=inl Tryz.prog aP ahf (jT Tryz.prog aP (ahf) 20 2) 9
theorem aM4:dn Tryz.prog aP aBJ:=bV aq4 (dD aq4) 9
theorem apl:Jv.Ok:={}
theorem an5:Jv.Pf (atv):=⟨aMA,λ_ _=>rfl,aHd,aF2⟩
theorem av2:bC Tryz.prog aP (AN 0) (.loop EZ) Jv.lp:=bK.snd apl an5 (aQ (Γ:=ahf) (K:=aBJ) (L:=ay) aq4 aM4 EZ (λb hb=>by rw [show ax EZ=[] by kernel_rfl] at hb;cases hb)) (λs=>by kernel_rfl)
theorem axp (s:uK) (hE:akC s):∃s',SL s'∧atv (azU s) s' (iC s):=bK.fin apl an5 s hE
def fG (d:List Dm) (t:Int):uK:=(⟨(((d.length:Int).toNat:Nat):Int),(0:Int),d,t,(List.replicate (d.length:Int).toNat (0:Int))⟩:uK)
end Go.Proofs.YtlihnbimgclogaaGreatDoor
namespace Go.Sx
open Go.Proofs.YtlihnbimgclogaaGreatDoor
variable {P : Program} {G : dI} {Γ : Specs} {σ : Type}
structure CpD (σ:Type) where
 A:σ→List LV
 B:σ→List aZ
 g:List LV→List aZ→σ
 E:σ→Prop
 mu:σ→Nat
 r:σ→σ
namespace CpD
variable (D : CpD σ)
def m (n:Nat) (args:List LV) (H:List aZ):T (LV×List aZ):=(Zm H args).bind λa=>(ade H H).bind λb=>
 .req (D.E (D.g a b)∧D.mu (D.g a b)<n∧D.A (D.g a b)=a∧D.B (D.g a b)=b) (.ok (.v (.tuple #[]),D.B (D.r (D.g a b))))
def mm (args:List LV) (H:List aZ):T (LV×List aZ):=(Zm H args).bind λa=>(ade H H).bind λb=>
 .req (D.E (D.g a b)∧D.A (D.g a b)=a∧D.B (D.g a b)=b) (.ok (.v (.tuple #[]),D.B (D.r (D.g a b))))
variable {D}
theorem aqg {n:Nat}{args:List LV}{H:List aZ}{q:LV×List aZ}(h:(D.m n args H).all (λz=>z=q)):∃s,D.E s∧D.mu s<n∧D.A s=args∧D.B s=H∧q=(.v (.tuple #[]),D.B (D.r s)):=by
 unfold m at h;obtain ⟨a,h1,h2⟩:=T.bF h;obtain ⟨b,h3,h4⟩:=T.bF h2
 have e1:=KI h1
 have e2:=Wy h3
 obtain ⟨⟨g1,g2,g3,g4⟩,g5⟩:=h4;exact ⟨_,g1,g2,g3.trans e1,g4.trans e2,g5.symm⟩
theorem ayU {args:List LV}{H:List aZ}{q:LV×List aZ}(h:(D.mm args H).all (λz=>z=q)):∃a b,(Zm H args).all (λz=>z=a)∧(ade H H).all (λz=>z=b)∧(D.E (D.g a b)∧D.A (D.g a b)=a∧D.B (D.g a b)=b)∧q=(.v (.tuple #[]),D.B (D.r (D.g a b))):=by
 unfold mm at h;obtain ⟨a,h1,h2⟩:=T.bF h;obtain ⟨b,h3,h4⟩:=T.bF h2;exact ⟨a,b,h1,h3,h4.1,h4.2.symm⟩
theorem aRn {n:Nat}{args:List LV}{H:List aZ}{q:LV×List aZ}(h:(D.mm args H).all (λz=>z=q)):∃n,(D.m n args H).all (λz=>z=q):=by
 obtain ⟨a,b,h1,h3,⟨g1,g2,g3⟩,g4⟩:=ayU h;refine ⟨D.mu (D.g a b)+1,?_⟩;unfold m;rw [T.all_bind];refine T.bQ (λx hx=>?_) h1
 rw [T.all_bind,hx];refine T.bQ (λy hy=>?_) h3
 rw [hy];exact ⟨⟨g1,Nat.lt_succ_self _,g2,g3⟩,g4.symm⟩
def one (c:FuncId) (m:List LV→List aZ→T (LV×List aZ)):Does:=λg=>if g=c then some m else none
theorem y9 {c:FuncId}{m:List LV→List aZ→T (LV×List aZ)}(h:uO P G c m):∀g m',one c m g=some m'→uO P G g m':=λg m' e=>by
 unfold one at e;split at e
 ·rename_i q
  subst q;cases e;exact h
 ·cases e
theorem sound {LL:vK}{c:FuncId}{d:Nat}(hΓ:∀g S,Γ g=some S→Valid P G g S) (hLL:W9 P G LL)
  (hstep:∀(n:Nat) (s:σ),D.E s→D.mu s≤n→aKu (λq=>q=(.v (.tuple #[]),D.B (D.r s))) ((Bd P G Γ LL (Wh P G Γ LL (one c (D.m n)) d)).k c (D.A s) (D.B s))):∀n,uO P G c (D.m n)
 |0=>λw0 Z0 Z β H w args vals lv H' hW hr hok hq=>by
  obtain ⟨s,_,h,_⟩:=aqg hq;exact absurd h (Nat.not_lt_zero _)
 |n+1=>uO.walk hΓ hLL (xP hΓ hLL (y9 (sound hΓ hLL hstep n)) d) λargs H lv H' hq=>by
  obtain ⟨s,h1,h2,h3,h4,h5⟩:=aqg hq;rw [←h3,←h4,h5];exact (hstep n s h1 (Nat.le_of_lt_succ h2)).out
theorem amF {c:FuncId}(h:∀n,uO P G c (D.m n)):uO P G c D.mm:=λw0 Z0 Z β H w args vals lv H' hW hr hok hq=>by
 obtain ⟨n,hq⟩:=aRn (n:=0) hq;exact h n w0 Z0 Z β H w args vals lv H' hW hr hok hq
end CpD
end Go.Sx
namespace Go.Proofs.YtlihnbimgclogaaGreatDoor
open Go.Sx
structure mP where
 a:Int
 b:Int
 i:Int
 j:Int
 b0:List Dm
 b1:Int
 data:List Int
def aQG (s:mP):List LV:=[.os 2 1 0 (s.data.length),.v (.int .i64 s.a),.v (.int .i64 s.b),.fn 45 [.own 0 0,.own 3 0],.v (.int .i64 s.i),.v (.int .i64 s.j)]
def aPo (s:mP):List aZ:=[⟨[.xl jr s.b0],31,.cl,false⟩,⟨[.v (.int .i64 s.b1)],3,.cl,false⟩,⟨[],3,.vec aSg s.data,false⟩,⟨[.fn 43 [.own 0 0,.own 1 0]],84,.cl,false⟩]
def Oc:Code:=((ax (((ax (Tryz.f120.body.getD .skip))[0]?).getD .skip))[0]?).getD .skip
def X0 (s:mP):T (Rd mP):=
 .br (decide (s.j>s.a)) (.req (0≤s.j∧s.j<((s.data.length:Nat):Int)) (.req (s.j.toNat<s.data.length) (.req (0≤(aSe (s.j-1))∧(aSe (s.j-1))<((s.data.length:Nat):Int)) (.req ((aSe (s.j-1)).toNat<s.data.length) (.req (s.b0=s.b0∧kX s.b0 s.b1∧(0≤(s.data.getD s.j.toNat (Ty.dflt aSg))∧(s.data.getD s.j.toNat (Ty.dflt aSg))<(s.b0.length:Int))∧0≤(s.data.getD (aSe (s.j-1)).toNat (Ty.dflt aSg))∧(s.data.getD (aSe (s.j-1)).toNat (Ty.dflt aSg))<(s.b0.length:Int)) (.br (decide ((cmD s.b0 s.b1 (s.data.getD s.j.toNat (Ty.dflt aSg)) (s.data.getD (aSe (s.j-1)).toNat (Ty.dflt aSg)))<0)) (.req (0≤(aSe (s.j-1))∧(aSe (s.j-1))<((s.data.length:Nat):Int)) (.req (0≤s.j∧s.j<((s.data.length:Nat):Int)) (.req ((aSe (s.j-1)).toNat<s.data.length) (.req (s.j.toNat<s.data.length) (.req (0≤s.j∧s.j<((s.data.length:Nat):Int)) (.req (s.j.toNat<s.data.length) (.req (0≤(aSe (s.j-1))∧(aSe (s.j-1))<((s.data.length:Nat):Int)) (.req ((aSe (s.j-1)).toNat<List.length (s.data.set s.j.toNat (s.data.getD (aSe (s.j-1)).toNat (Ty.dflt aSg)))) (.req (0=0∧(s.data.length)=List.length ((s.data.set s.j.toNat (s.data.getD (aSe (s.j-1)).toNat (Ty.dflt aSg))).set (aSe (s.j-1)).toNat (s.data.getD s.j.toNat (Ty.dflt aSg)))) (.ok (.next {s with j:=(aSe (s.j-1)),data:=((s.data.set s.j.toNat (s.data.getD (aSe (s.j-1)).toNat (Ty.dflt aSg))).set (aSe (s.j-1)).toNat (s.data.getD s.j.toNat (Ty.dflt aSg)))}))))))))))) (.rl s.data (.ok (.stop (.exit 2) s))))))))) (.rl s.data (.ok (.stop (.exit 2) s)))
abbrev ahP (s:mP):=(X0 s).rd s
def Pq (s:mP):Prop:=((0≤s.a∧s.a≤s.j)∧(s.j≤s.i∧s.i<s.b)∧s.b≤(s.data.length:Int))∧((s.data.length=s.b0.length∧(s.data.length:Int)≤1000)∧wR s.data s.b0.length∧kX s.b0 s.b1)∧acH (ltD s.b0 s.b1) s.data s.a s.i s.j
def Ti (s:mP):Prop:=((0≤s.a∧s.a≤s.j)∧(s.j≤s.i∧s.i<s.b)∧s.b≤(s.data.length:Int))∧((s.data.length=s.b0.length∧(s.data.length:Int)≤1000)∧wR s.data s.b0.length∧kX s.b0 s.b1)∧acH (ltD s.b0 s.b1) s.data s.a s.i s.j
def Vy (s:mP):Nat:=(s.j-s.a).toNat
def atI (x:Ex) (_ s':mP):Prop:=x=.exit 2∧mJ (ltD s'.b0 s'.b1) s'.data s'.a (s'.i+1)
theorem aMX:∀s,Pq s→Ti s:=by
 exact λs h=>h
theorem aHT (s:mP) (hI:Ti s):bJ (λs'=>Ti s'∧Vy s'<Vy s) (λx s'=>atI x s s') (ahP s):=by
 unfold ahP X0;dsimp only [T.rd,T.rl];obtain ⟨⟨⟨h0,h1⟩,⟨h2,h3⟩,h4⟩,⟨⟨k0,k1⟩,k2,k3⟩,h5⟩:=hI;refine ai (λc1=>?_) (λc1=>?_)
 ·have c1:s.a<s.j:=by simpa using c1
  rw [aH (x:=s.j-1)];refine ai (λc2=>?_) (λc2=>?_)
  ·have hp:=NQ (l:=s.data) (i:=s.j) (j:=s.j-1) (by omega) (by omega) (by omega) (by omega)
   exact ⟨⟨⟨⟨h0,by simp only;omega⟩,⟨by simp only;omega,h3⟩,by simp only [List.length_set];exact h4⟩,⟨⟨by simp only [List.length_set];exact k0,by simp only [List.length_set];exact k1⟩,jB hp k2,k3⟩,(show acH (ltD s.b0 s.b1) (exZ s.data s.j (s.j-1)) s.a s.i (s.j-1) from alr jy h0 c1 h2 (by omega) h5 c2)⟩,by simp only [Vy];omega⟩
  ·exact ⟨rfl,Y4 jy h1 h2 h5 (.inr c2)⟩
 ·have c1:s.j≤s.a:=by simpa using c1
  exact ⟨rfl,Y4 jy h1 h2 h5 (.inl (by omega))⟩
def PW:bK mP:=⟨4,53,[0,1,2,3,8,9],[],aQG,aPo,λv b=>⟨gI (v.getD 1 .junk),gI (v.getD 2 .junk),gI (v.getD 4 .junk),gI (v.getD 5 .junk),aU jr (bn (aT b 0) 0),gI (bn (aT b 1) 0),iW aSg (aT b 2)⟩,X0,λs r=> {r with a:=s.a,b:=s.b,i:=s.i,b0:=s.b0,b1:=s.b1},λs=>s,λ_ s=>s,[.exit 2],Pq,Ti,Vy⟩
abbrev sS:=PW.run
abbrev aim:=PW.jf
abbrev aKa:=PW.q
def vV:Specs:=aW [(43,nX),(45,wW)]
theorem xW:∀g S,vV g=some S→Valid Tryz.prog aP g S:=aS (l:=[(43,nX),(45,wW)]) ⟨BB,Qw,trivial⟩
def Wj:Hand:=inl Tryz.prog aP vV (jT Tryz.prog aP (vV) 20 2) 9
theorem acJ:dn Tryz.prog aP Wj:=bV xW (dD xW) 9
theorem aGg (s:mP) (hI:Ti s):(X0 s).all (λ_=>True):=by
 refine ⟨λc1=>⟨?_,?_,?_,?_,?_,λc2=>⟨?_,?_,?_,?_,?_,?_,?_,?_,?_,trivial⟩,λc2=>⟨aSf,trivial⟩⟩,λc1=>⟨aSf,trivial⟩⟩
 all_goals ((obtain ⟨⟨⟨h0,h1⟩,⟨h2,h3⟩,h4⟩,⟨⟨k0,k1⟩,k2,k3⟩,h5⟩:=hI;simp only [decide_eq_true_eq,gt_iff_lt] at c1;(try rw [aH (x:=s.j-1)]);have g1:=vX k2 (k:=s.j) (by omega) (by omega);have g2:=vX k2 (k:=s.j-1) (by omega) (by omega);first|omega|exact ⟨rfl,k3,g1,g2⟩ |(simp only [List.length_set];omega) |exact ⟨rfl,by simp⟩))
theorem acd:PW.Ok:={}
theorem abM:PW.Pf (atI):=⟨aMX,λ_ _=>rfl,aHT,aGg⟩
theorem awg:bC Tryz.prog aP (AN 4) (.loop Oc) PW.lp:=bK.snd acd abM (bI (Γ:=vV) (K:=Wj) (L:=(ql Tryz.prog aP vV Wj 20 2)) xW acJ Oc (λb _=>dA xW acJ 20 2 b)) (λs=>by kernel_rfl)
theorem agU (s:mP) (hE:Pq s):∃s',Ti s'∧atI (aim s) s' (sS s):=bK.fin acd abM s hE
theorem V8 (s:mP) (hE:Pq s):(λ(x:Ex) (s':mP) (v:List Int)=>x=.exit 2∧gU (ltD s'.b0 s'.b1) s'.data s'.a s'.b=v) (aim s) (sS s) ((λs:mP=>gU (ltD s.b0 s.b1) s.data s.a s.b) s):=by
 exact bK.mD acd abM (λs:mP=>gU (ltD s.b0 s.b1) s.data s.a s.b) (λx s' v=>x=.exit 2∧gU (ltD s'.b0 s'.b1) s'.data s'.a s'.b=v) (λs hI=>by
  show bJ _ _ (ahP s)
  unfold ahP X0;dsimp only [T.rd,T.rl];obtain ⟨⟨⟨h0,h1⟩,⟨h2,h3⟩,h4⟩,⟨⟨k0,k1⟩,k2,k3⟩,h5⟩:=hI;refine ai (λc1=>?_) (λc1=>⟨rfl,rfl⟩)
  have c1:s.a<s.j:=by simpa using c1
  rw [aH (x:=s.j-1)];refine ai (λc2=>?_) (λc2=>⟨rfl,rfl⟩)
  show gU _ (exZ s.data s.j (s.j-1)) s.a s.b=gU _ s.data s.a s.b
  exact az9 dw h0 h4 h1 (by omega) (by omega) (by omega)) s hE
structure lV where
 a:Int
 b:Int
 i:Int
 b0:List Dm
 b1:Int
 data:List Int
def aQF (s:lV):List LV:=[.os 2 1 0 (s.data.length),.v (.int .i64 s.a),.v (.int .i64 s.b),.fn 45 [.own 0 0,.own 3 0],.v (.int .i64 s.i)]
def aPn (s:lV):List aZ:=[⟨[.xl jr s.b0],31,.cl,false⟩,⟨[.v (.int .i64 s.b1)],3,.cl,false⟩,⟨[],3,.vec aSg s.data,false⟩,⟨[.fn 43 [.own 0 0,.own 1 0]],84,.cl,false⟩]
def ZG:Code:=((ax (Tryz.f120.body.getD .skip))[0]?).getD .skip
def XZ (s:lV):T (Rd lV):=
 .br (decide (s.i<s.b)) (.rl s.data (.req (aKa (⟨s.a,s.b,s.i,s.i,s.b0,s.b1,s.data⟩:mP)) (.rl (sS (⟨s.a,s.b,s.i,s.i,s.b0,s.b1,s.data⟩:mP)).data (.ok (.next {s with i:=(aSe (s.i+1)),data:=(sS (⟨s.a,s.b,s.i,s.i,s.b0,s.b1,s.data⟩:mP)).data}))))) (.rl s.data (.ok (.stop (.exit 0) s)))
abbrev ahO (s:lV):=(XZ s).rd s
def Po (s:lV):Prop:=s.i=s.a+1∧((0≤s.a∧s.a≤s.b)∧s.b≤(s.data.length:Int))∧(s.data.length=s.b0.length∧(s.data.length:Int)≤1000)∧wR s.data s.b0.length∧kX s.b0 s.b1
def OT (s:lV):Prop:=((s.a<s.i∧(s.i≤s.b∨s.i=s.a+1))∧mJ (ltD s.b0 s.b1) s.data s.a s.i)∧((0≤s.a∧s.a≤s.b)∧s.b≤(s.data.length:Int))∧(s.data.length=s.b0.length∧(s.data.length:Int)≤1000)∧wR s.data s.b0.length∧kX s.b0 s.b1
def Vx (s:lV):Nat:=(s.b-s.i).toNat
def atH (x:Ex) (_ s':lV):Prop:=x=.exit 0∧mJ (ltD s'.b0 s'.b1) s'.data s'.a s'.b
theorem aMW:∀s,Po s→OT s:=by
 intro s h;obtain ⟨h0,h1⟩:=h;exact ⟨⟨by omega,λx y x0 xy y1=>by omega⟩,h1⟩
theorem acF (s:lV) (hI:OT s) (c1:s.i<s.b):Pq ⟨s.a,s.b,s.i,s.i,s.b0,s.b1,s.data⟩:=by
 obtain ⟨⟨h0,h1⟩,⟨⟨h2,h3⟩,h4⟩,⟨k0,k1⟩,k2,k3⟩:=hI;exact ⟨⟨⟨h2,by simp only;omega⟩,⟨Int.le_refl _,c1⟩,h4⟩,⟨⟨k0,k1⟩,k2,k3⟩,aHW h1⟩
theorem aqt (s:mP) (hE:Pq s):(sS s).data.length=s.data.length:=by
 have q:=(V8 s hE).2
 obtain ⟨s',hI,q1,q2⟩:=agU s hE;obtain ⟨⟨⟨h0,h1⟩,⟨h2,h3⟩,h4⟩,_⟩:=hE
 have q:gU (ltD s.b0 s.b1) (sS s).data s.a s.b=gU (ltD s.b0 s.b1) s.data s.a s.b:=q
 have e:=congrArg List.length q
 rwa [sO (by omega),sO (by omega)] at e
theorem aHS (s:mP) (hE:Pq s) {n:Nat}(h:wR s.data n):wR (sS s).data n:=by
 have q:=(V8 s hE).2
 obtain ⟨⟨⟨h0,h1⟩,⟨h2,h3⟩,h4⟩,_⟩:=hE;refine jB ?_ h
 have e1:=iO (lt:=ltD s.b0 s.b1) (l:=(sS s).data) (a:=s.a) (b:=s.b) (by omega)
 have e2:=iO (lt:=ltD s.b0 s.b1) (l:=s.data) (a:=s.a) (b:=s.b) (by omega)
 have q:gU (ltD s.b0 s.b1) (sS s).data s.a s.b=gU (ltD s.b0 s.b1) s.data s.a s.b:=q
 rw [q] at e1;exact e1.symm.trans e2
theorem aHR (s:lV) (hI:OT s):bJ (λs'=>OT s'∧Vx s'<Vx s) (λx s'=>atH x s s') (ahO s):=by
 unfold ahO XZ;dsimp only [T.rd,T.rl]
 have hin:=λc1=>acF s hI c1
 obtain ⟨⟨h0,h1⟩,⟨⟨h2,h3⟩,h4⟩,⟨k0,k1⟩,k2,k3⟩:=hI;refine ai (λc1=>?_) (λc1=>?_)
 ·have c1:s.i<s.b:=by simpa using c1
  obtain ⟨_,⟨⟨_,_,g4⟩,⟨⟨g5,g6⟩,g7,_⟩,_⟩,q1,q2⟩:=agU _ (hin c1)
  have q3:=aqt _ (hin c1)
  rw [aH (x:=s.i+1)];exact ⟨⟨⟨by simp only;omega,q2⟩,⟨⟨h2,h3⟩,by simp only;rw [q3];exact h4⟩,⟨by simp only;rw [q3];exact k0,by simp only;rw [q3];exact k1⟩,aHS _ (hin c1) k2,k3⟩,by simp only [Vx];omega⟩
 ·have c1:s.b≤s.i:=by simpa using c1
  exact ⟨rfl,Yp h1 (Int.le_refl _) c1⟩
def rH:bK lV:=⟨4,53,[0,1,2,3,8],[],aQF,aPn,λv b=>⟨gI (v.getD 1 .junk),gI (v.getD 2 .junk),gI (v.getD 4 .junk),aU jr (bn (aT b 0) 0),gI (bn (aT b 1) 0),iW aSg (aT b 2)⟩,XZ,λs r=> {r with a:=s.a,b:=s.b,b0:=s.b0,b1:=s.b1},λs=>s,λ_ s=>s,[.exit 0],Po,OT,Vx⟩
abbrev jl:=rH.run
abbrev WC:=rH.jf
abbrev auF:=rH.q
theorem aGf (s:lV) (hI:OT s):(XZ s).all (λ_=>True):=by
 refine ⟨λc1=>⟨aSf,?_,aSf,trivial⟩,λc1=>⟨aSf,trivial⟩⟩
 ·exact ⟨acF s hI (by simpa using c1),rfl,rfl⟩
theorem ab9:rH.Ok:={}
theorem abL:rH.Pf (atH):=⟨aMW,λ_ _=>rfl,aHR,aGf⟩
theorem oU:bC Tryz.prog aP (AN 4) (.loop ZG) rH.lp:=bK.snd ab9 abL (bI (Γ:=vV) (K:=Wj) (L:=(alA (λi=>if i=4 then PW.lp else ay i))) xW acJ ZG (λb hb=>by
 rw [show ax _=[Oc] by kernel_rfl] at hb
 simp only [List.mem_cons,List.not_mem_nil,or_false] at hb;subst hb;exact awg)) (λs=>by kernel_rfl)
theorem azb (s:lV) (hE:Po s):∃s',OT s'∧atH (WC s) s' (jl s):=bK.fin ab9 abL s hE
theorem aza (s:lV) (hE:Po s):(λ(x:Ex) (s':lV) (v:List Int)=>x=.exit 0∧gU (ltD s'.b0 s'.b1) s'.data s'.a s'.b=v) (WC s) (jl s) ((λs:lV=>gU (ltD s.b0 s.b1) s.data s.a s.b) s):=by
 exact bK.mD ab9 abL (λs:lV=>gU (ltD s.b0 s.b1) s.data s.a s.b) (λx s' v=>x=.exit 0∧gU (ltD s'.b0 s'.b1) s'.data s'.a s'.b=v) (λs hI=>by
  show bJ _ _ (ahO s)
  unfold ahO XZ;dsimp only [T.rd,T.rl]
  have hin:=λc1=>acF s hI c1
  obtain ⟨⟨h0,h1⟩,⟨⟨h2,h3⟩,h4⟩,⟨k0,k1⟩,k2,k3⟩:=hI;refine ai (λc1=>?_) (λc1=>⟨rfl,rfl⟩)
  have c1:s.i<s.b:=by simpa using c1
  exact (V8 _ (hin c1)).2) s hE
theorem KD (s:lV) (hE:Po s):WC s=.exit 0∧(jl s).data=gU (ltD s.b0 s.b1) s.data s.a s.b:=by
 obtain ⟨q1,q2⟩:=aza s hE;obtain ⟨s',hI,q3,q4⟩:=azb s hE;obtain ⟨_,⟨⟨h2,h3⟩,h4⟩,_⟩:=hE
 have q2:gU (ltD s.b0 s.b1) (jl s).data s.a s.b=gU (ltD s.b0 s.b1) s.data s.a s.b:=q2
 have hl:(jl s).data.length=s.data.length:=by
  have e:=congrArg List.length q2
  rwa [sO h3,sO h3] at e
 refine ⟨q1,?_⟩;rw [←q2];exact (Lr dw h2 h3 (by omega) q4).symm
structure mO where
 n:Int
 aK:Int
 a:Int
 b:Int
 b0:List Dm
 b1:Int
 data:List Int
def aPM (s:mO):List LV:=[.os 2 1 0 (s.data.length),.v (.int .i64 s.n),.fn 45 [.own 0 0,.own 3 0],.v (.int .i64 s.aK),.v (.int .i64 s.a),.v (.int .i64 s.b)]
def aOu (s:mO):List aZ:=[⟨[.xl jr s.b0],31,.cl,false⟩,⟨[.v (.int .i64 s.b1)],3,.cl,false⟩,⟨[],3,.vec aSg s.data,false⟩,⟨[.fn 43 [.own 0 0,.own 1 0]],84,.cl,false⟩]
def ZA:Code:=((ax (Tryz.f84.body.getD .skip))[0]?).getD .skip
def tX (s:mO):lV:=(⟨s.a,s.b,(aSe (s.a+1)),s.b0,s.b1,s.data⟩:lV)
def Xx (s:mO):T (Rd mO):=
 .br (decide (s.b≤s.n)) (.rl s.data (.req (auF (tX s)) (.req (0=0∧(s.data.length)=List.length (jl (tX s)).data) (.ok (.next {s with a:=s.b,b:=(aSe (s.b+s.aK)),data:=(jl (tX s)).data}))))) (.rl s.data (.ok (.stop (.exit 0) s)))
abbrev ahp (s:mO):=(Xx s).rd s
def aaG (s:mO):Prop:=(s.aK=20∧s.a=0∧s.b=20)∧s.n=(s.data.length:Int)∧((s.data.length=s.b0.length∧(s.data.length:Int)≤1000)∧wR s.data s.b0.length∧kX s.b0 s.b1)
def F7 (s:mO):Prop:=(s.aK=20∧s.b=s.a+20∧(0≤s.a∧s.a%20=0)∧s.a≤s.n)∧s.n=(s.data.length:Int)∧((s.data.length=s.b0.length∧(s.data.length:Int)≤1000)∧wR s.data s.b0.length∧kX s.b0 s.b1)∧blk (ltD s.b0 s.b1) s.data 20 s.a
def UH (s:mO):Nat:=(s.n-s.a).toNat
def as6 (x:Ex) (_ s':mO):Prop:=x=.exit 0∧F7 s'∧s'.n<s'.b
theorem aLi:∀s,aaG s→F7 s:=by
 intro s h;obtain ⟨⟨h0,h1,h2⟩,h3,h4⟩:=h;exact ⟨⟨h0,by omega,by omega,by omega⟩,h3,h4,λx y x0 xy y1=>by omega⟩
theorem aEP (s:mO) (hI:F7 s):s.a≤s.b:=by
 obtain ⟨⟨h0,h1,⟨h2,h3⟩,h4⟩,h5,⟨⟨k0,k1⟩,k2,k3⟩,h6⟩:=hI;omega
theorem Ud (s:mO) (hI:F7 s) (c1:s.b≤s.n):Po (tX s):=by
 obtain ⟨⟨h0,h1,⟨h2,h3⟩,h4⟩,h5,⟨⟨k0,k1⟩,k2,k3⟩,h6⟩:=hI;exact ⟨by show aSe (s.a+1)=s.a+1;exact aH,⟨⟨h2,by show s.a≤s.b;omega⟩,by show s.b≤(s.data.length:Int);omega⟩,⟨k0,k1⟩,k2,k3⟩
theorem aEO (s:mO) (hI:F7 s):bJ (λs'=>F7 s'∧UH s'<UH s) (λx s'=>as6 x s s') (ahp s):=by
 unfold ahp Xx;dsimp only [T.rd,T.rl]
 have hin:=λc1=>Ud s hI c1
 have hI':=hI
 obtain ⟨⟨h0,h1,⟨h2,h3⟩,h4⟩,h5,⟨⟨k0,k1⟩,k2,k3⟩,h6⟩:=hI;refine ai (λc1=>?_) (λc1=>⟨rfl,hI',by simpa using c1⟩)
 have c1:s.b≤s.n:=by simpa using c1
 obtain ⟨q1,q2⟩:=KD _ (hin c1)
 have q2:(jl (tX s)).data=gU (ltD s.b0 s.b1) s.data s.a s.b:=q2
 rw [aH (x:=s.b+s.aK),q2]
 have hp:=iO (lt:=ltD s.b0 s.b1) (l:=s.data) (a:=s.a) (b:=s.b) (by omega)
 exact ⟨⟨⟨h0,by simp only;omega,by simp only;omega,c1⟩,by simp only [hp.length_eq];exact h5,⟨⟨by simp only [hp.length_eq];exact k0,by simp only [hp.length_eq];exact k1⟩,jB hp k2,k3⟩,asb jy h2 h3 (by omega) (by omega) (by omega) h6⟩,by simp only [UH];omega⟩
def sK:bK mO:=⟨4,63,[0,1,2,6,7,8],[],aPM,aOu,λv b=>⟨gI (v.getD 1 .junk),gI (v.getD 3 .junk),gI (v.getD 4 .junk),gI (v.getD 5 .junk),aU jr (bn (aT b 0) 0),gI (bn (aT b 1) 0),iW aSg (aT b 2)⟩,Xx,λs r=> {r with n:=s.n,aK:=s.aK,b0:=s.b0,b1:=s.b1},λs=>s,λ_ s=>s,[.exit 0],aaG,F7,UH⟩
abbrev iZ:=sK.run
abbrev ah1:=sK.jf
abbrev aJk:=sK.q
def acR:Hand:=inl Tryz.prog aP vV (dK 120 4 1 (rH.lp) (jT Tryz.prog aP (vV) 20 2)) 9
theorem aqK:dn Tryz.prog aP acR:=bV xW (bg Tryz.func120 rfl (by kernel_rfl) oU (dD xW)) 9
theorem aFm (s:mO) (hI:F7 s):(Xx s).all (λ_=>True):=by
 refine ⟨λc1=>⟨aSf,?_,?_,trivial⟩,λc1=>⟨aSf,trivial⟩⟩
 ·exact ⟨Ud s hI (by simpa using c1),rfl,rfl⟩
 ·(have q3:=(KD _ (Ud s hI (by simpa using c1))).2;have hb:=aEP s hI;refine ⟨rfl,?_⟩;rw [q3];exact (sO hb).symm)
theorem abX:sK.Ok:={}
theorem abz:sK.Pf (as6):=⟨aLi,λ_ _=>rfl,aEO,aFm⟩
theorem qA:bC Tryz.prog aP (AN 4) (.loop ZA) sK.lp:=bK.snd abX abz (bI (Γ:=vV) (K:=acR) (L:=(ql Tryz.prog aP vV acR 20 2)) xW aqK ZA (λb _=>dA xW aqK 20 2 b)) (λs=>by kernel_rfl)
theorem avd (s:mO) (hE:aaG s):∃s',F7 s'∧as6 (ah1 s) s' (iZ s):=bK.fin abX abz s hE
theorem avc (s:mO) (hE:aaG s):(λ(x:Ex) (s':mO) (v:List Int)=>x=.exit 0∧sortB (ltD s'.b0 s'.b1) s'.data=v) (ah1 s) (iZ s) ((λs:mO=>sortB (ltD s.b0 s.b1) s.data) s):=by
 exact bK.mD abX abz (λs:mO=>sortB (ltD s.b0 s.b1) s.data) (λx s' v=>x=.exit 0∧sortB (ltD s'.b0 s'.b1) s'.data=v) (λs hI=>by
  show bJ _ _ (ahp s)
  unfold ahp Xx;dsimp only [T.rd,T.rl]
  have hin:=λc1=>Ud s hI c1
  obtain ⟨⟨h0,h1,⟨h2,h3⟩,h4⟩,h5,⟨⟨k0,k1⟩,k2,k3⟩,h6⟩:=hI;refine ai (λc1=>?_) (λc1=>⟨rfl,rfl⟩)
  have c1:s.b≤s.n:=by simpa using c1
  have q2:(jl (tX s)).data=gU (ltD s.b0 s.b1) s.data s.a s.b:=(KD _ (hin c1)).2
  show sortB _ (jl (tX s)).data=sortB _ s.data
  rw [q2];exact qy dw (iO (by omega))) s hE
structure dJ where
 a:Int
 m:Int
 b:Int
 b0:List Dm
 b1:Int
 data:List Int
def P5 (s:dJ):List LV:=[.os 2 1 0 (s.data.length),.v (.int .i64 s.a),.v (.int .i64 s.m),.v (.int .i64 s.b),.fn 45 [.own 0 0,.own 3 0]]
def kV (s:dJ):List aZ:=[⟨[.xl jr s.b0],31,.cl,false⟩,⟨[.v (.int .i64 s.b1)],3,.cl,false⟩,⟨[],3,.vec aSg s.data,false⟩,⟨[.fn 43 [.own 0 0,.own 1 0]],84,.cl,false⟩]
structure yL where
 a:Int
 i:Int
 j:Int
 b0:List Dm
 b1:Int
 data:List Int
def aRV (s:yL):List LV:=[.os 2 1 0 (s.data.length),.v (.int .i64 s.a),.fn 45 [.own 0 0,.own 3 0],.v (.int .i64 s.i),.v (.int .i64 s.j)]
def aRH (s:yL):List aZ:=[⟨[.xl jr s.b0],31,.cl,false⟩,⟨[.v (.int .i64 s.b1)],3,.cl,false⟩,⟨[],3,.vec aSg s.data,false⟩,⟨[.fn 43 [.own 0 0,.own 1 0]],84,.cl,false⟩]
def aiM:Code:=((ax (Tryz.f121.body.getD .skip))[0]?).getD .skip
def ams (s:yL):T (Rd yL):=
 .br (decide (s.i<s.j)) (.req (0≤(aSe ((IntKind.u64.wrap (aSe (s.i+s.j))).fdiv (2^1)))∧(aSe ((IntKind.u64.wrap (aSe (s.i+s.j))).fdiv (2^1)))<((s.data.length:Nat):Int)) (.req ((aSe ((IntKind.u64.wrap (aSe (s.i+s.j))).fdiv (2^1))).toNat<s.data.length) (.req (0≤s.a∧s.a<((s.data.length:Nat):Int)) (.req (s.a.toNat<s.data.length) (.req (s.b0=s.b0∧kX s.b0 s.b1∧(0≤(s.data.getD (aSe ((IntKind.u64.wrap (aSe (s.i+s.j))).fdiv (2^1))).toNat (Ty.dflt aSg))∧(s.data.getD (aSe ((IntKind.u64.wrap (aSe (s.i+s.j))).fdiv (2^1))).toNat (Ty.dflt aSg))<(s.b0.length:Int))∧0≤(s.data.getD s.a.toNat (Ty.dflt aSg))∧(s.data.getD s.a.toNat (Ty.dflt aSg))<(s.b0.length:Int)) (.br (decide ((cmD s.b0 s.b1 (s.data.getD (aSe ((IntKind.u64.wrap (aSe (s.i+s.j))).fdiv (2^1))).toNat (Ty.dflt aSg)) (s.data.getD s.a.toNat (Ty.dflt aSg)))<0)) (.rl s.data (.ok (.next {s with i:=(aSe ((aSe ((IntKind.u64.wrap (aSe (s.i+s.j))).fdiv (2^1)))+1))}))) (.rl s.data (.ok (.next {s with j:=(aSe ((IntKind.u64.wrap (aSe (s.i+s.j))).fdiv (2^1)))}))))))))) (.rl s.data (.ok (.stop (.exit 0) s)))
abbrev azu (s:yL):=(ams s).rd s
def aAI (s:yL):Prop:=letI b:=(s.data.length:Int);((0≤s.i∧s.i≤s.j)∧s.j≤b)∧((s.data.length=s.b0.length∧b≤1000)∧wR s.data s.b0.length∧kX s.b0 s.b1)∧0≤s.a∧s.a<b
def aua (s:yL):Prop:=letI b:=(s.data.length:Int);((0≤s.i∧s.i≤s.j)∧s.j≤b)∧((s.data.length=s.b0.length∧b≤1000)∧wR s.data s.b0.length∧kX s.b0 s.b1)∧0≤s.a∧s.a<b
def YS (s:yL):Nat:=(s.j-s.i).toNat
def aOc (x:Ex) (_ _:yL):Prop:=x=.exit 0
theorem aRb:∀s,aAI s→aua s:=by
 exact λs h=>h
theorem aKM (s:yL) (hI:aua s):bJ (λs'=>aua s'∧YS s'<YS s) (λx s'=>aOc x s s') (azu s):=by
 unfold azu ams;dsimp only [T.rd,T.rl];obtain ⟨⟨⟨h0,h1⟩,h2⟩,⟨⟨k0,k1⟩,k2,k3⟩,g0,g1⟩:=hI;refine ai (λc1=>?_) (λc1=>rfl)
 have c1:s.i<s.j:=by simpa using c1
 rw [hlf (x:=s.i+s.j) (by omega) (by omega),aH (x:=(s.i+s.j) / 2+1)]
 refine ai (λc2=>?_) (λc2=>?_)
 ·exact ⟨⟨⟨⟨by simp only;omega,by simp only;omega⟩,h2⟩,⟨⟨k0,k1⟩,k2,k3⟩,g0,g1⟩,by simp only [YS];omega⟩
 ·exact ⟨⟨⟨⟨h0,by simp only;omega⟩,by simp only;omega⟩,⟨⟨k0,k1⟩,k2,k3⟩,g0,g1⟩,by simp only [YS];omega⟩
def CU:bK yL:=⟨4,220,[0,1,4,10,11],[],aRV,aRH,λv b=>⟨gI (v.getD 1 .junk),gI (v.getD 3 .junk),gI (v.getD 4 .junk),aU jr (bn (aT b 0) 0),gI (bn (aT b 1) 0),iW aSg (aT b 2)⟩,ams,λs r=> {r with a:=s.a,b0:=s.b0,b1:=s.b1,data:=s.data},λs=>s,λ_ s=>s,[.exit 0],aAI,aua,YS⟩
abbrev Gs:=CU.run
abbrev aIs:=CU.jf
abbrev aOh:=CU.q
def iD:Specs:=aW [(43,nX),(45,wW)]
theorem iH:∀g S,iD g=some S→Valid Tryz.prog aP g S:=aS (l:=[(43,nX),(45,wW)]) ⟨BB,Qw,trivial⟩
def acQ:Hand:=inl Tryz.prog aP iD (dK 84 4 2 (sK.lp) (dK 120 4 1 (rH.lp) (jT Tryz.prog aP (iD) 20 2))) 9
theorem aqJ:dn Tryz.prog aP acQ:=bV iH (bg Tryz.func84 rfl (by kernel_rfl) qA (bg Tryz.func120 rfl (by kernel_rfl) oU (dD iH))) 9
theorem aLH (s:yL) (hI:aua s):(ams s).all (λ_=>True):=by
 refine ⟨λc1=>⟨?_,?_,?_,?_,?_,λc2=>⟨aSf,trivial⟩,λc2=>⟨aSf,trivial⟩⟩,λc1=>⟨aSf,trivial⟩⟩
 all_goals ((obtain ⟨⟨⟨h0,h1⟩,h2⟩,⟨⟨k0,k1⟩,k2,k3⟩,g0,g1⟩:=hI;simp only [decide_eq_true_eq] at c1;have hh:=hlf (x:=s.i+s.j) (by omega) (by omega);(try rw [hh]);first|omega|exact ⟨rfl,k3,vX k2 (by omega) (by omega),vX k2 (by omega) (by omega)⟩))
theorem aBi:CU.Ok:={}
theorem aA4:CU.Pf (aOc):=⟨aRb,λ_ _=>rfl,aKM,aLH⟩
theorem xC:bC Tryz.prog aP (AN 4) (.loop aiM) CU.lp:=bK.snd aBi aA4 (bI (Γ:=iD) (K:=acQ) (L:=(ql Tryz.prog aP iD acQ 20 2)) iH aqJ aiM (λb _=>dA iH aqJ 20 2 b)) (λs=>by kernel_rfl)
theorem aDy (s:yL) (hE:aAI s):(λ(x:Ex) (s':yL) (v:Int)=>x=.exit 0∧s'.i=v) (aIs s) (Gs s) ((λs:yL=>yO (λh=>ltD s.b0 s.b1 (gi s.data h) (gi s.data s.a)) s.i s.j) s):=by
 exact bK.mD aBi aA4 (λs:yL=>yO (λh=>ltD s.b0 s.b1 (gi s.data h) (gi s.data s.a)) s.i s.j) (λx s' v=>x=.exit 0∧s'.i=v) (λs hI=>by
  show bJ _ _ (azu s)
  unfold azu ams;dsimp only [T.rd,T.rl];obtain ⟨⟨⟨h0,h1⟩,h2⟩,⟨⟨k0,k1⟩,k2,k3⟩,g0,g1⟩:=hI;refine ai (λc1=>?_) (λc1=>?_)
  ·have c1:s.i<s.j:=by simpa using c1
   rw [hlf (x:=s.i+s.j) (by omega) (by omega),aH (x:=(s.i+s.j) / 2+1)]
   refine ai (λc2=>?_) (λc2=>?_)
   ·show yO _ _ _=yO _ _ _
    conv=>rhs;rw [uq c1]
    exact (if_pos (by exact c2)).symm
   ·show yO _ _ _=yO _ _ _
    conv=>rhs;rw [uq c1]
    exact (if_neg (λhh=>absurd ((show true=_ from hh.symm).trans c2) (by decide))).symm
  ·have c1:s.j≤s.i:=by simpa using c1
   exact ⟨rfl,(KO (by omega)).symm⟩) s hE
structure yJ where
 i:Int
 k:Int
 b0:List Dm
 b1:Int
 data:List Int
def aRS (s:yJ):List LV:=[.os 2 1 0 (s.data.length),.v (.int .i64 s.i),.v (.int .i64 s.k)]
def aRE (s:yJ):List aZ:=[⟨[.xl jr s.b0],31,.cl,false⟩,⟨[.v (.int .i64 s.b1)],3,.cl,false⟩,⟨[],3,.vec aSg s.data,false⟩,⟨[.fn 43 [.own 0 0,.own 1 0]],84,.cl,false⟩]
def aiJ:Code:=((ax (Tryz.f121.body.getD .skip))[1]?).getD .skip
def amo (s:yJ):T (Rd yJ):=
 .br (decide (s.k<(aSe (s.i-1)))) (.req (0≤(aSe (s.k+1))∧(aSe (s.k+1))<((s.data.length:Nat):Int)) (.req (0≤s.k∧s.k<((s.data.length:Nat):Int)) (.req ((aSe (s.k+1)).toNat<s.data.length) (.req (s.k.toNat<s.data.length) (.req (0≤s.k∧s.k<((s.data.length:Nat):Int)) (.req (s.k.toNat<s.data.length) (.req (0≤(aSe (s.k+1))∧(aSe (s.k+1))<((s.data.length:Nat):Int)) (.req ((aSe (s.k+1)).toNat<List.length (s.data.set s.k.toNat (s.data.getD (aSe (s.k+1)).toNat (Ty.dflt aSg)))) (.req (0=0∧(s.data.length)=List.length ((s.data.set s.k.toNat (s.data.getD (aSe (s.k+1)).toNat (Ty.dflt aSg))).set (aSe (s.k+1)).toNat (s.data.getD s.k.toNat (Ty.dflt aSg)))) (.ok (.next {s with k:=(aSe (s.k+1)),data:=((s.data.set s.k.toNat (s.data.getD (aSe (s.k+1)).toNat (Ty.dflt aSg))).set (aSe (s.k+1)).toNat (s.data.getD s.k.toNat (Ty.dflt aSg)))}))))))))))) (.rl s.data (.ok (.stop (.exit 2) s)))
abbrev azr (s:yJ):=(amo s).rd s
def aAG (s:yJ):Prop:=(0≤s.k∧s.k≤s.i-1)∧s.i≤(s.data.length:Int)∧(s.data.length:Int)≤1000
def at1 (s:yJ):Prop:=(0≤s.k∧s.k≤s.i-1)∧s.i≤(s.data.length:Int)∧(s.data.length:Int)≤1000
def agJ (s:yJ):Nat:=(s.i-s.k).toNat
def aN9 (x:Ex) (_ _:yJ):Prop:=x=.exit 2
theorem aQ8:∀s,aAG s→at1 s:=by
 exact λs h=>h
theorem aKJ (s:yJ) (hI:at1 s):bJ (λs'=>at1 s'∧agJ s'<agJ s) (λx s'=>aN9 x s s') (azr s):=by
 unfold azr amo;dsimp only [T.rd,T.rl];obtain ⟨⟨h0,h1⟩,h2⟩:=hI;refine ai (λc1=>?_) (λc1=>rfl)
 rw [aH (x:=s.i-1)] at c1
 have c1:s.k<s.i-1:=by simpa using c1
 try rw [aH (x:=s.k+1)]
 exact ⟨⟨⟨by simp only;omega,by simp only;omega⟩,by simp only [List.length_set];exact h2⟩,by simp only [agJ];omega⟩
def Gg:bK yJ:=⟨4,220,[0,10,13],[],aRS,aRE,λv b=>⟨gI (v.getD 1 .junk),gI (v.getD 2 .junk),aU jr (bn (aT b 0) 0),gI (bn (aT b 1) 0),iW aSg (aT b 2)⟩,amo,λs r=> {r with i:=s.i,b0:=s.b0,b1:=s.b1},λs=>s,λ_ s=>s,[.exit 2],aAG,at1,agJ⟩
abbrev abk:=Gg.run
abbrev aIp:=Gg.jf
abbrev aOf:=Gg.q
def acP:Hand:=inl Tryz.prog aP iD (dK 121 4 3 (CU.lp) (dK 84 4 2 (sK.lp) (dK 120 4 1 (rH.lp) (jT Tryz.prog aP (iD) 20 2)))) 9
theorem aqI:dn Tryz.prog aP acP:=bV iH (bg Tryz.func121 rfl (by kernel_rfl) xC (bg Tryz.func84 rfl (by kernel_rfl) qA (bg Tryz.func120 rfl (by kernel_rfl) oU (dD iH)))) 9
theorem aLE (s:yJ) (hI:at1 s):(amo s).all (λ_=>True):=by
 refine ⟨λc1=>⟨?_,?_,?_,?_,?_,?_,?_,?_,?_,trivial⟩,λc1=>⟨aSf,trivial⟩⟩
 all_goals ((obtain ⟨⟨h0,h1⟩,h2⟩:=hI;simp only [decide_eq_true_eq] at c1;rw [aH (x:=s.i-1)] at c1;have c1:s.k<s.i-1:=c1;(try rw [aH (x:=s.k+1)]);first|omega|(simp only [List.length_set];omega) |exact ⟨rfl,by simp⟩))
theorem aBf:Gg.Ok:={}
theorem aA1:Gg.Pf (aN9):=⟨aQ8,λ_ _=>rfl,aKJ,aLE⟩
theorem yU:bC Tryz.prog aP (AN 4) (.loop aiJ) Gg.lp:=bK.snd aBf aA1 (bI (Γ:=iD) (K:=acP) (L:=(ql Tryz.prog aP iD acP 20 2)) iH aqI aiJ (λb _=>dA iH aqI 20 2 b)) (λs=>by kernel_rfl)
theorem aDw (s:yJ) (hE:aAG s):(λ(x:Ex) (s':yJ) (v:List Int)=>x=.exit 2∧s'.data=v) (aIp s) (abk s) ((λs:yJ=>fU s.data s.k (s.k+1) s.i) s):=by
 exact bK.mD aBf aA1 (λs:yJ=>fU s.data s.k (s.k+1) s.i) (λx s' v=>x=.exit 2∧s'.data=v) (λs hI=>by
  show bJ _ _ (azr s)
  unfold azr amo;dsimp only [T.rd,T.rl];obtain ⟨⟨h0,h1⟩,h2⟩:=hI;refine ai (λc1=>?_) (λc1=>?_)
  ·rw [aH (x:=s.i-1)] at c1
   have c1:s.k<s.i-1:=by simpa using c1
   try rw [aH (x:=s.k+1)]
   show fU (exZ s.data s.k (s.k+1)) (s.k+1) (s.k+1+1) s.i=_
   rw [show s.k+1+1=s.k+2 by omega]
   exact aGA h0 c1 h2.1
  ·rw [aH (x:=s.i-1)] at c1
   have c1:s.i-1≤s.k:=by simpa using c1
   refine ⟨rfl,?_⟩;rw [show s.k+1=s.i by omega,abp]) s hE
structure yK where
 m:Int
 i:Int
 j:Int
 b0:List Dm
 b1:Int
 data:List Int
def aRU (s:yK):List LV:=[.os 2 1 0 (s.data.length),.v (.int .i64 s.m),.fn 45 [.own 0 0,.own 3 0],.v (.int .i64 s.i),.v (.int .i64 s.j)]
def aRG (s:yK):List aZ:=[⟨[.xl jr s.b0],31,.cl,false⟩,⟨[.v (.int .i64 s.b1)],3,.cl,false⟩,⟨[],3,.vec aSg s.data,false⟩,⟨[.fn 43 [.own 0 0,.own 1 0]],84,.cl,false⟩]
def aiL:Code:=((ax (Tryz.f121.body.getD .skip))[2]?).getD .skip
def amr (s:yK):T (Rd yK):=
 .br (decide (s.i<s.j)) (.req (0≤s.m∧s.m<((s.data.length:Nat):Int)) (.req (s.m.toNat<s.data.length) (.req (0≤(aSe ((IntKind.u64.wrap (aSe (s.i+s.j))).fdiv (2^1)))∧(aSe ((IntKind.u64.wrap (aSe (s.i+s.j))).fdiv (2^1)))<((s.data.length:Nat):Int)) (.req ((aSe ((IntKind.u64.wrap (aSe (s.i+s.j))).fdiv (2^1))).toNat<s.data.length) (.req (s.b0=s.b0∧kX s.b0 s.b1∧(0≤(s.data.getD s.m.toNat (Ty.dflt aSg))∧(s.data.getD s.m.toNat (Ty.dflt aSg))<(s.b0.length:Int))∧0≤(s.data.getD (aSe ((IntKind.u64.wrap (aSe (s.i+s.j))).fdiv (2^1))).toNat (Ty.dflt aSg))∧(s.data.getD (aSe ((IntKind.u64.wrap (aSe (s.i+s.j))).fdiv (2^1))).toNat (Ty.dflt aSg))<(s.b0.length:Int)) (.br (!(decide ((cmD s.b0 s.b1 (s.data.getD s.m.toNat (Ty.dflt aSg)) (s.data.getD (aSe ((IntKind.u64.wrap (aSe (s.i+s.j))).fdiv (2^1))).toNat (Ty.dflt aSg)))<0))) (.rl s.data (.ok (.next {s with i:=(aSe ((aSe ((IntKind.u64.wrap (aSe (s.i+s.j))).fdiv (2^1)))+1))}))) (.rl s.data (.ok (.next {s with j:=(aSe ((IntKind.u64.wrap (aSe (s.i+s.j))).fdiv (2^1)))}))))))))) (.rl s.data (.ok (.stop (.exit 4) s)))
abbrev azt (s:yK):=(amr s).rd s
def aAH (s:yK):Prop:=letI a:=(s.data.length:Int);((0≤s.i∧s.i≤s.j)∧s.j≤a)∧((s.data.length=s.b0.length∧a≤1000)∧wR s.data s.b0.length∧kX s.b0 s.b1)∧0≤s.m∧s.m<a
def at7 (s:yK):Prop:=letI a:=(s.data.length:Int);((0≤s.i∧s.i≤s.j)∧s.j≤a)∧((s.data.length=s.b0.length∧a≤1000)∧wR s.data s.b0.length∧kX s.b0 s.b1)∧0≤s.m∧s.m<a
def YR (s:yK):Nat:=(s.j-s.i).toNat
def aOb (x:Ex) (_ _:yK):Prop:=x=.exit 4
theorem aRa:∀s,aAH s→at7 s:=by
 exact λs h=>h
theorem aKL (s:yK) (hI:at7 s):bJ (λs'=>at7 s'∧YR s'<YR s) (λx s'=>aOb x s s') (azt s):=by
 unfold azt amr;dsimp only [T.rd,T.rl];obtain ⟨⟨⟨h0,h1⟩,h2⟩,⟨⟨k0,k1⟩,k2,k3⟩,g0,g1⟩:=hI;refine ai (λc1=>?_) (λc1=>rfl)
 have c1:s.i<s.j:=by simpa using c1
 rw [hlf (x:=s.i+s.j) (by omega) (by omega),aH (x:=(s.i+s.j) / 2+1)]
 refine ai (λc2=>?_) (λc2=>?_)
 ·exact ⟨⟨⟨⟨by simp only;omega,by simp only;omega⟩,h2⟩,⟨⟨k0,k1⟩,k2,k3⟩,g0,g1⟩,by simp only [YR];omega⟩
 ·exact ⟨⟨⟨⟨h0,by simp only;omega⟩,by simp only;omega⟩,⟨⟨k0,k1⟩,k2,k3⟩,g0,g1⟩,by simp only [YR];omega⟩
def Hz:bK yK:=⟨4,220,[0,2,4,14,15],[],aRU,aRG,λv b=>⟨gI (v.getD 1 .junk),gI (v.getD 3 .junk),gI (v.getD 4 .junk),aU jr (bn (aT b 0) 0),gI (bn (aT b 1) 0),iW aSg (aT b 2)⟩,amr,λs r=> {r with m:=s.m,b0:=s.b0,b1:=s.b1,data:=s.data},λs=>s,λ_ s=>s,[.exit 4],aAH,at7,YR⟩
abbrev Lu:=Hz.run
abbrev aIr:=Hz.jf
abbrev aOg:=Hz.q
def acO:Hand:=inl Tryz.prog aP iD (dK 121 4 9 (Gg.lp) (dK 121 4 3 (CU.lp) (dK 84 4 2 (sK.lp) (dK 120 4 1 (rH.lp) (jT Tryz.prog aP (iD) 20 2))))) 9
theorem aqH:dn Tryz.prog aP acO:=bV iH (bg Tryz.func121 rfl (by kernel_rfl) yU (bg Tryz.func121 rfl (by kernel_rfl) xC (bg Tryz.func84 rfl (by kernel_rfl) qA (bg Tryz.func120 rfl (by kernel_rfl) oU (dD iH))))) 9
theorem aLG (s:yK) (hI:at7 s):(amr s).all (λ_=>True):=by
 refine ⟨λc1=>⟨?_,?_,?_,?_,?_,λc2=>⟨aSf,trivial⟩,λc2=>⟨aSf,trivial⟩⟩,λc1=>⟨aSf,trivial⟩⟩
 all_goals ((obtain ⟨⟨⟨h0,h1⟩,h2⟩,⟨⟨k0,k1⟩,k2,k3⟩,g0,g1⟩:=hI;simp only [decide_eq_true_eq] at c1;have hh:=hlf (x:=s.i+s.j) (by omega) (by omega);(try rw [hh]);first|omega|exact ⟨rfl,k3,vX k2 (by omega) (by omega),vX k2 (by omega) (by omega)⟩))
theorem aBh:Hz.Ok:={}
theorem aA3:Hz.Pf (aOb):=⟨aRa,λ_ _=>rfl,aKL,aLG⟩
theorem BJ:bC Tryz.prog aP (AN 4) (.loop aiL) Hz.lp:=bK.snd aBh aA3 (bI (Γ:=iD) (K:=acO) (L:=(ql Tryz.prog aP iD acO 20 2)) iH aqH aiL (λb _=>dA iH aqH 20 2 b)) (λs=>by kernel_rfl)
theorem aDx (s:yK) (hE:aAH s):(λ(x:Ex) (s':yK) (v:Int)=>x=.exit 4∧s'.i=v) (aIr s) (Lu s) ((λs:yK=>yO (λh=>!ltD s.b0 s.b1 (gi s.data s.m) (gi s.data h)) s.i s.j) s):=by
 exact bK.mD aBh aA3 (λs:yK=>yO (λh=>!ltD s.b0 s.b1 (gi s.data s.m) (gi s.data h)) s.i s.j) (λx s' v=>x=.exit 4∧s'.i=v) (λs hI=>by
  show bJ _ _ (azt s)
  unfold azt amr;dsimp only [T.rd,T.rl];obtain ⟨⟨⟨h0,h1⟩,h2⟩,⟨⟨k0,k1⟩,k2,k3⟩,g0,g1⟩:=hI;refine ai (λc1=>?_) (λc1=>?_)
  ·have c1:s.i<s.j:=by simpa using c1
   rw [hlf (x:=s.i+s.j) (by omega) (by omega),aH (x:=(s.i+s.j) / 2+1)]
   refine ai (λc2=>?_) (λc2=>?_)
   ·show yO _ _ _=yO _ _ _
    conv=>rhs;rw [uq c1]
    exact (if_pos (by exact c2)).symm
   ·show yO _ _ _=yO _ _ _
    conv=>rhs;rw [uq c1]
    exact (if_neg (λhh=>absurd ((show true=_ from hh.symm).trans c2) (by decide))).symm
  ·have c1:s.j≤s.i:=by simpa using c1
   exact ⟨rfl,(KO (by omega)).symm⟩) s hE
structure yI where
 i:Int
 k:Int
 b0:List Dm
 b1:Int
 data:List Int
def aRR (s:yI):List LV:=[.os 2 1 0 (s.data.length),.v (.int .i64 s.i),.v (.int .i64 s.k)]
def aRD (s:yI):List aZ:=[⟨[.xl jr s.b0],31,.cl,false⟩,⟨[.v (.int .i64 s.b1)],3,.cl,false⟩,⟨[],3,.vec aSg s.data,false⟩,⟨[.fn 43 [.own 0 0,.own 1 0]],84,.cl,false⟩]
def aiI:Code:=((ax (Tryz.f121.body.getD .skip))[3]?).getD .skip
def amn (s:yI):T (Rd yI):=
 .br (decide (s.k>s.i)) (.req (0≤(aSe (s.k-1))∧(aSe (s.k-1))<((s.data.length:Nat):Int)) (.req (0≤s.k∧s.k<((s.data.length:Nat):Int)) (.req ((aSe (s.k-1)).toNat<s.data.length) (.req (s.k.toNat<s.data.length) (.req (0≤s.k∧s.k<((s.data.length:Nat):Int)) (.req (s.k.toNat<s.data.length) (.req (0≤(aSe (s.k-1))∧(aSe (s.k-1))<((s.data.length:Nat):Int)) (.req ((aSe (s.k-1)).toNat<List.length (s.data.set s.k.toNat (s.data.getD (aSe (s.k-1)).toNat (Ty.dflt aSg)))) (.req (0=0∧(s.data.length)=List.length ((s.data.set s.k.toNat (s.data.getD (aSe (s.k-1)).toNat (Ty.dflt aSg))).set (aSe (s.k-1)).toNat (s.data.getD s.k.toNat (Ty.dflt aSg)))) (.ok (.next {s with k:=(aSe (s.k-1)),data:=((s.data.set s.k.toNat (s.data.getD (aSe (s.k-1)).toNat (Ty.dflt aSg))).set (aSe (s.k-1)).toNat (s.data.getD s.k.toNat (Ty.dflt aSg)))}))))))))))) (.rl s.data (.ok (.stop (.exit 6) s)))
abbrev azq (s:yI):=(amn s).rd s
def aAF (s:yI):Prop:=(0≤s.i∧s.i≤s.k)∧s.k<(s.data.length:Int)∧(s.data.length:Int)≤1000
def atZ (s:yI):Prop:=(0≤s.i∧s.i≤s.k)∧s.k<(s.data.length:Int)∧(s.data.length:Int)≤1000
def agI (s:yI):Nat:=(s.k-s.i).toNat
def aN8 (x:Ex) (_ _:yI):Prop:=x=.exit 6
theorem aQ7:∀s,aAF s→atZ s:=by
 exact λs h=>h
theorem aKI (s:yI) (hI:atZ s):bJ (λs'=>atZ s'∧agI s'<agI s) (λx s'=>aN8 x s s') (azq s):=by
 unfold azq amn;dsimp only [T.rd,T.rl];obtain ⟨⟨h0,h1⟩,h2⟩:=hI;refine ai (λc1=>?_) (λc1=>rfl)
 have c1:s.i<s.k:=by simpa using c1
 try rw [aH (x:=s.k-1)]
 exact ⟨⟨⟨h0,by simp only;omega⟩,by simp only [List.length_set];omega⟩,by simp only [agI];omega⟩
def J4:bK yI:=⟨4,220,[0,14,17],[],aRR,aRD,λv b=>⟨gI (v.getD 1 .junk),gI (v.getD 2 .junk),aU jr (bn (aT b 0) 0),gI (bn (aT b 1) 0),iW aSg (aT b 2)⟩,amn,λs r=> {r with i:=s.i,b0:=s.b0,b1:=s.b1},λs=>s,λ_ s=>s,[.exit 6],aAF,atZ,agI⟩
abbrev abj:=J4.run
abbrev aIo:=J4.jf
abbrev aOe:=J4.q
def acN:Hand:=inl Tryz.prog aP iD (dK 121 4 15 (Hz.lp) (dK 121 4 9 (Gg.lp) (dK 121 4 3 (CU.lp) (dK 84 4 2 (sK.lp) (dK 120 4 1 (rH.lp) (jT Tryz.prog aP (iD) 20 2)))))) 9
theorem aqG:dn Tryz.prog aP acN:=bV iH (bg Tryz.func121 rfl (by kernel_rfl) BJ (bg Tryz.func121 rfl (by kernel_rfl) yU (bg Tryz.func121 rfl (by kernel_rfl) xC (bg Tryz.func84 rfl (by kernel_rfl) qA (bg Tryz.func120 rfl (by kernel_rfl) oU (dD iH)))))) 9
theorem aLD (s:yI) (hI:atZ s):(amn s).all (λ_=>True):=by
 refine ⟨λc1=>⟨?_,?_,?_,?_,?_,?_,?_,?_,?_,trivial⟩,λc1=>⟨aSf,trivial⟩⟩
 all_goals ((obtain ⟨⟨h0,h1⟩,h2⟩:=hI;simp only [decide_eq_true_eq,gt_iff_lt] at c1;have c1:s.i<s.k:=c1;(try rw [aH (x:=s.k-1)]);first|omega|(simp only [List.length_set];omega) |exact ⟨rfl,by simp⟩))
theorem aBe:J4.Ok:={}
theorem aA0:J4.Pf (aN8):=⟨aQ7,λ_ _=>rfl,aKI,aLD⟩
theorem Gm:bC Tryz.prog aP (AN 4) (.loop aiI) J4.lp:=bK.snd aBe aA0 (bI (Γ:=iD) (K:=acN) (L:=(ql Tryz.prog aP iD acN 20 2)) iH aqG aiI (λb _=>dA iH aqG 20 2 b)) (λs=>by kernel_rfl)
theorem aDv (s:yI) (hE:aAF s):(λ(x:Ex) (s':yI) (v:List Int)=>x=.exit 6∧s'.data=v) (aIo s) (abj s) ((λs:yI=>fU s.data s.i s.k (s.k+1)) s):=by
 exact bK.mD aBe aA0 (λs:yI=>fU s.data s.i s.k (s.k+1)) (λx s' v=>x=.exit 6∧s'.data=v) (λs hI=>by
  show bJ _ _ (azq s)
  unfold azq amn;dsimp only [T.rd,T.rl];obtain ⟨⟨h0,h1⟩,h2⟩:=hI;refine ai (λc1=>?_) (λc1=>?_)
  ·have c1:s.i<s.k:=by simpa using c1
   try rw [aH (x:=s.k-1)]
   show fU (exZ s.data s.k (s.k-1)) s.i (s.k-1) (s.k-1+1)=_
   rw [show s.k-1+1=s.k by omega]
   exact aGB h0 c1 h2.1
  ·have c1:s.k≤s.i:=by simpa using c1
   refine ⟨rfl,?_⟩;rw [show s.k=s.i by omega,Ur]) s hE
structure wY where
 a:Int
 m:Int
 b:Int
 mid:Int
 n:Int
 start:Int
 r:Int
 p:Int
 b0:List Dm
 b1:Int
 data:List Int
def aRT (s:wY):List LV:=[.os 2 1 0 (s.data.length),.v (.int .i64 s.a),.v (.int .i64 s.m),.v (.int .i64 s.b),.fn 45 [.own 0 0,.own 3 0],.v (.int .i64 s.mid),.v (.int .i64 s.n),.v (.int .i64 s.start),.v (.int .i64 s.r),.v (.int .i64 s.p)]
def aRF (s:wY):List aZ:=[⟨[.xl jr s.b0],31,.cl,false⟩,⟨[.v (.int .i64 s.b1)],3,.cl,false⟩,⟨[],3,.vec aSg s.data,false⟩,⟨[.fn 43 [.own 0 0,.own 1 0]],84,.cl,false⟩]
def aiK:Code:=((ax (Tryz.f121.body.getD .skip))[4]?).getD .skip
def amq (s:wY):T (Rd wY):=
 .br (decide (s.start<s.r)) (.req (0≤(aSe (s.p-(aSe ((IntKind.u64.wrap (aSe (s.start+s.r))).fdiv (2^1)))))∧(aSe (s.p-(aSe ((IntKind.u64.wrap (aSe (s.start+s.r))).fdiv (2^1)))))<((s.data.length:Nat):Int)) (.req ((aSe (s.p-(aSe ((IntKind.u64.wrap (aSe (s.start+s.r))).fdiv (2^1))))).toNat<s.data.length) (.req (0≤(aSe ((IntKind.u64.wrap (aSe (s.start+s.r))).fdiv (2^1)))∧(aSe ((IntKind.u64.wrap (aSe (s.start+s.r))).fdiv (2^1)))<((s.data.length:Nat):Int)) (.req ((aSe ((IntKind.u64.wrap (aSe (s.start+s.r))).fdiv (2^1))).toNat<s.data.length) (.req (s.b0=s.b0∧kX s.b0 s.b1∧(0≤(s.data.getD (aSe (s.p-(aSe ((IntKind.u64.wrap (aSe (s.start+s.r))).fdiv (2^1))))).toNat (Ty.dflt aSg))∧(s.data.getD (aSe (s.p-(aSe ((IntKind.u64.wrap (aSe (s.start+s.r))).fdiv (2^1))))).toNat (Ty.dflt aSg))<(s.b0.length:Int))∧0≤(s.data.getD (aSe ((IntKind.u64.wrap (aSe (s.start+s.r))).fdiv (2^1))).toNat (Ty.dflt aSg))∧(s.data.getD (aSe ((IntKind.u64.wrap (aSe (s.start+s.r))).fdiv (2^1))).toNat (Ty.dflt aSg))<(s.b0.length:Int)) (.br (!(decide ((cmD s.b0 s.b1 (s.data.getD (aSe (s.p-(aSe ((IntKind.u64.wrap (aSe (s.start+s.r))).fdiv (2^1))))).toNat (Ty.dflt aSg)) (s.data.getD (aSe ((IntKind.u64.wrap (aSe (s.start+s.r))).fdiv (2^1))).toNat (Ty.dflt aSg)))<0))) (.rl s.data (.ok (.next {s with start:=(aSe ((aSe ((IntKind.u64.wrap (aSe (s.start+s.r))).fdiv (2^1)))+1))}))) (.rl s.data (.ok (.next {s with r:=(aSe ((IntKind.u64.wrap (aSe (s.start+s.r))).fdiv (2^1)))}))))))))) (.rl s.data (.ok (.stop (.exit 8) s)))
abbrev azs (s:wY):=(amq s).rd s
def auc (s:wY):Prop:=letI a:=(s.data.length:Int);((0≤s.start∧s.start≤s.r)∧s.r≤a)∧((s.data.length=s.b0.length∧a≤1000)∧wR s.data s.b0.length∧kX s.b0 s.b1)∧s.p-s.start<a∧0≤s.p-(s.r-1)∧0≤s.p∧s.p≤2000
def at6 (s:wY):Prop:=letI a:=(s.data.length:Int);((0≤s.start∧s.start≤s.r)∧s.r≤a)∧((s.data.length=s.b0.length∧a≤1000)∧wR s.data s.b0.length∧kX s.b0 s.b1)∧s.p-s.start<a∧0≤s.p-(s.r-1)∧0≤s.p∧s.p≤2000
def YQ (s:wY):Nat:=(s.r-s.start).toNat
def aOa (x:Ex) (_ _:wY):Prop:=x=.exit 8
theorem aQ9:∀s,auc s→at6 s:=by
 exact λs h=>h
theorem aKK (s:wY) (hI:at6 s):bJ (λs'=>at6 s'∧YQ s'<YQ s) (λx s'=>aOa x s s') (azs s):=by
 unfold azs amq;dsimp only [T.rd,T.rl];obtain ⟨⟨⟨h0,h1⟩,h2⟩,⟨⟨k0,k1⟩,k2,k3⟩,g0,g1,g2⟩:=hI;refine ai (λc1=>?_) (λc1=>rfl)
 have c1:s.start<s.r:=by simpa using c1
 rw [hlf (x:=s.start+s.r) (by omega) (by omega),aH (x:=(s.start+s.r) / 2+1)]
 refine ai (λc2=>?_) (λc2=>?_)
 ·exact ⟨⟨⟨⟨by simp only;omega,by simp only;omega⟩,h2⟩,⟨⟨k0,k1⟩,k2,k3⟩,by simp only;omega,by simp only;omega,g2⟩,by simp only [YQ];omega⟩
 ·exact ⟨⟨⟨⟨h0,by simp only;omega⟩,by simp only;omega⟩,⟨⟨k0,k1⟩,k2,k3⟩,by simp only;omega,by simp only;omega,g2⟩,by simp only [YQ];omega⟩
def Px:bK wY:=⟨4,220,[0,1,2,3,4,18,19,20,21,22],[],aRT,aRF,λv b=>⟨gI (v.getD 1 .junk),gI (v.getD 2 .junk),gI (v.getD 3 .junk),gI (v.getD 5 .junk),gI (v.getD 6 .junk),gI (v.getD 7 .junk),gI (v.getD 8 .junk),gI (v.getD 9 .junk),aU jr (bn (aT b 0) 0),gI (bn (aT b 1) 0),iW aSg (aT b 2)⟩,amq,λs r=> {r with a:=s.a,m:=s.m,b:=s.b,mid:=s.mid,n:=s.n,p:=s.p,b0:=s.b0,b1:=s.b1,data:=s.data},λs=>s,λ_ s=>s,[.exit 8],auc,at6,YQ⟩
abbrev aJ:=Px.run
abbrev aIq:=Px.jf
abbrev aDs:=Px.q
def acM:Hand:=inl Tryz.prog aP iD (dK 121 4 21 (J4.lp) (dK 121 4 15 (Hz.lp) (dK 121 4 9 (Gg.lp) (dK 121 4 3 (CU.lp) (dK 84 4 2 (sK.lp) (dK 120 4 1 (rH.lp) (jT Tryz.prog aP (iD) 20 2))))))) 9
theorem aqF:dn Tryz.prog aP acM:=bV iH (bg Tryz.func121 rfl (by kernel_rfl) Gm (bg Tryz.func121 rfl (by kernel_rfl) BJ (bg Tryz.func121 rfl (by kernel_rfl) yU (bg Tryz.func121 rfl (by kernel_rfl) xC (bg Tryz.func84 rfl (by kernel_rfl) qA (bg Tryz.func120 rfl (by kernel_rfl) oU (dD iH))))))) 9
theorem aLF (s:wY) (hI:at6 s):(amq s).all (λ_=>True):=by
 refine ⟨λc1=>⟨?_,?_,?_,?_,?_,λc2=>⟨aSf,trivial⟩,λc2=>⟨aSf,trivial⟩⟩,λc1=>⟨aSf,trivial⟩⟩
 all_goals ((obtain ⟨⟨⟨h0,h1⟩,h2⟩,⟨⟨k0,k1⟩,k2,k3⟩,g0,g1,g2⟩:=hI;simp only [decide_eq_true_eq] at c1;have hh:=hlf (x:=s.start+s.r) (by omega) (by omega);(try rw [hh]);(try rw [aH (x:=s.p-(s.start+s.r) / 2)]);first|omega|exact ⟨rfl,k3,vX k2 (by omega) (by omega),vX k2 (by omega) (by omega)⟩))
theorem aBg:Px.Ok:={}
theorem aA2:Px.Pf (aOa):=⟨aQ9,λ_ _=>rfl,aKK,aLF⟩
theorem Lp:bC Tryz.prog aP (AN 4) (.loop aiK) Px.lp:=bK.snd aBg aA2 (bI (Γ:=iD) (K:=acM) (L:=(ql Tryz.prog aP iD acM 20 2)) iH aqF aiK (λb _=>dA iH aqF 20 2 b)) (λs=>by kernel_rfl)
theorem alZ (s:wY) (hE:auc s):(λ(x:Ex) (s':wY) (v:Int)=>x=.exit 8∧s'.start=v) (aIq s) (aJ s) ((λs:wY=>yO (λh=>!ltD s.b0 s.b1 (gi s.data (s.p-h)) (gi s.data h)) s.start s.r) s):=by
 exact bK.mD aBg aA2 (λs:wY=>yO (λh=>!ltD s.b0 s.b1 (gi s.data (s.p-h)) (gi s.data h)) s.start s.r) (λx s' v=>x=.exit 8∧s'.start=v) (λs hI=>by
  show bJ _ _ (azs s)
  unfold azs amq;dsimp only [T.rd,T.rl];obtain ⟨⟨⟨h0,h1⟩,h2⟩,⟨⟨k0,k1⟩,k2,k3⟩,g0,g1,g2⟩:=hI;refine ai (λc1=>?_) (λc1=>?_)
  ·have c1:s.start<s.r:=by simpa using c1
   rw [hlf (x:=s.start+s.r) (by omega) (by omega),aH (x:=(s.start+s.r) / 2+1)]
   rw [aH (x:=s.p-(s.start+s.r) / 2)];refine ai (λc2=>?_) (λc2=>?_)
   ·show yO _ _ _=yO _ _ _
    conv=>rhs;rw [uq c1]
    exact (if_pos (by exact c2)).symm
   ·show yO _ _ _=yO _ _ _
    conv=>rhs;rw [uq c1]
    exact (if_neg (λhh=>absurd ((show true=_ from hh.symm).trans c2) (by decide))).symm
  ·have c1:s.r≤s.start:=by simpa using c1
   exact ⟨rfl,(KO (by omega)).symm⟩) s hE
structure rW where
 a:Int
 b:Int
 n:Int
 i:Int
 b0:List Dm
 b1:Int
 data:List Int
def aRP (s:rW):List LV:=[.os 2 1 0 (s.data.length),.v (.int .i64 s.a),.v (.int .i64 s.b),.v (.int .i64 s.n),.v (.int .i64 s.i)]
def aRB (s:rW):List aZ:=[⟨[.xl jr s.b0],31,.cl,false⟩,⟨[.v (.int .i64 s.b1)],3,.cl,false⟩,⟨[],3,.vec aSg s.data,false⟩,⟨[.fn 43 [.own 0 0,.own 1 0]],84,.cl,false⟩]
def aiG:Code:=((ax (Tryz.f158.body.getD .skip))[0]?).getD .skip
def aml (s:rW):T (Rd rW):=
 .br (decide (s.i<s.n)) (.req (0≤(aSe (s.b+s.i))∧(aSe (s.b+s.i))<((s.data.length:Nat):Int)) (.req (0≤(aSe (s.a+s.i))∧(aSe (s.a+s.i))<((s.data.length:Nat):Int)) (.req ((aSe (s.b+s.i)).toNat<s.data.length) (.req ((aSe (s.a+s.i)).toNat<s.data.length) (.req (0≤(aSe (s.a+s.i))∧(aSe (s.a+s.i))<((s.data.length:Nat):Int)) (.req ((aSe (s.a+s.i)).toNat<s.data.length) (.req (0≤(aSe (s.b+s.i))∧(aSe (s.b+s.i))<((s.data.length:Nat):Int)) (.req ((aSe (s.b+s.i)).toNat<List.length (s.data.set (aSe (s.a+s.i)).toNat (s.data.getD (aSe (s.b+s.i)).toNat (Ty.dflt aSg)))) (.req (0=0∧(s.data.length)=List.length ((s.data.set (aSe (s.a+s.i)).toNat (s.data.getD (aSe (s.b+s.i)).toNat (Ty.dflt aSg))).set (aSe (s.b+s.i)).toNat (s.data.getD (aSe (s.a+s.i)).toNat (Ty.dflt aSg)))) (.ok (.next {s with i:=(aSe (s.i+1)),data:=((s.data.set (aSe (s.a+s.i)).toNat (s.data.getD (aSe (s.b+s.i)).toNat (Ty.dflt aSg))).set (aSe (s.b+s.i)).toNat (s.data.getD (aSe (s.a+s.i)).toNat (Ty.dflt aSg)))}))))))))))) (.rl s.data (.ok (.stop (.exit 0) s)))
abbrev azo (s:rW):=(aml s).rd s
def Qo (s:rW):Prop:=(0≤s.i∧s.i≤s.n)∧(0≤s.a∧s.a+s.n≤s.b∧s.b+s.n≤(s.data.length:Int))∧(s.data.length:Int)≤1000
def atY (s:rW):Prop:=(0≤s.i∧s.i≤s.n)∧(0≤s.a∧s.a+s.n≤s.b∧s.b+s.n≤(s.data.length:Int))∧(s.data.length:Int)≤1000
def agH (s:rW):Nat:=(s.n-s.i).toNat
def aN7 (x:Ex) (_ _:rW):Prop:=x=.exit 0
theorem aQ5:∀s,Qo s→atY s:=by
 exact λs h=>h
theorem aKG (s:rW) (hI:atY s):bJ (λs'=>atY s'∧agH s'<agH s) (λx s'=>aN7 x s s') (azo s):=by
 unfold azo aml;dsimp only [T.rd,T.rl];obtain ⟨⟨h0,h1⟩,h2⟩:=hI;refine ai (λc1=>?_) (λc1=>rfl)
 have c1:s.i<s.n:=by simpa using c1
 try rw [aH (x:=s.a+s.i)]
 try rw [aH (x:=s.b+s.i)]
 try rw [aH (x:=s.i+1)]
 exact ⟨⟨⟨by simp only;omega,by simp only;omega⟩,by simp only [List.length_set];exact h2⟩,by simp only [agH];omega⟩
def Qp:bK rW:=⟨4,38,[0,1,2,3,10],[],aRP,aRB,λv b=>⟨gI (v.getD 1 .junk),gI (v.getD 2 .junk),gI (v.getD 3 .junk),gI (v.getD 4 .junk),aU jr (bn (aT b 0) 0),gI (bn (aT b 1) 0),iW aSg (aT b 2)⟩,aml,λs r=> {r with a:=s.a,b:=s.b,n:=s.n,b0:=s.b0,b1:=s.b1},λs=>s,λ_ s=>s,[.exit 0],Qo,atY,agH⟩
abbrev bU:=Qp.run
abbrev WA:=Qp.jf
abbrev akk:=Qp.q
def acL:Hand:=inl Tryz.prog aP iD (dK 121 4 33 (Px.lp) (dK 121 4 21 (J4.lp) (dK 121 4 15 (Hz.lp) (dK 121 4 9 (Gg.lp) (dK 121 4 3 (CU.lp) (dK 84 4 2 (sK.lp) (dK 120 4 1 (rH.lp) (jT Tryz.prog aP (iD) 20 2)))))))) 9
theorem aqE:dn Tryz.prog aP acL:=bV iH (bg Tryz.func121 rfl (by kernel_rfl) Lp (bg Tryz.func121 rfl (by kernel_rfl) Gm (bg Tryz.func121 rfl (by kernel_rfl) BJ (bg Tryz.func121 rfl (by kernel_rfl) yU (bg Tryz.func121 rfl (by kernel_rfl) xC (bg Tryz.func84 rfl (by kernel_rfl) qA (bg Tryz.func120 rfl (by kernel_rfl) oU (dD iH)))))))) 9
theorem aLB (s:rW) (hI:atY s):(aml s).all (λ_=>True):=by
 refine ⟨λc1=>⟨?_,?_,?_,?_,?_,?_,?_,?_,?_,trivial⟩,λc1=>⟨aSf,trivial⟩⟩
 all_goals ((obtain ⟨⟨h0,h1⟩,h2⟩:=hI;simp only [decide_eq_true_eq] at c1;have c1:s.i<s.n:=c1;(try rw [aH (x:=s.a+s.i)]);(try rw [aH (x:=s.b+s.i)]);(try rw [aH (x:=s.i+1)]);first|omega|(simp only [List.length_set];omega) |exact ⟨rfl,by simp⟩))
theorem aBd:Qp.Ok:={}
theorem aAZ:Qp.Pf (aN7):=⟨aQ5,λ_ _=>rfl,aKG,aLB⟩
theorem Uh:bC Tryz.prog aP (AN 4) (.loop aiG) Qp.lp:=bK.snd aBd aAZ (bI (Γ:=iD) (K:=acL) (L:=(ql Tryz.prog aP iD acL 20 2)) iH aqE aiG (λb _=>dA iH aqE 20 2 b)) (λs=>by kernel_rfl)
theorem aDu (s:rW) (hE:Qo s):(λ(x:Ex) (s':rW) (v:List Int)=>x=.exit 0∧s'.data=v) (WA s) (bU s) ((λs:rW=>P7 s.data (s.a+s.i) (s.b+s.i) (s.n-s.i)) s):=by
 exact bK.mD aBd aAZ (λs:rW=>P7 s.data (s.a+s.i) (s.b+s.i) (s.n-s.i)) (λx s' v=>x=.exit 0∧s'.data=v) (λs hI=>by
  show bJ _ _ (azo s)
  unfold azo aml;dsimp only [T.rd,T.rl];obtain ⟨⟨h0,h1⟩,h2⟩:=hI;refine ai (λc1=>?_) (λc1=>?_)
  ·have c1:s.i<s.n:=by simpa using c1
   try rw [aH (x:=s.a+s.i)]
   try rw [aH (x:=s.b+s.i)]
   try rw [aH (x:=s.i+1)]
   show P7 (exZ s.data (s.a+s.i) (s.b+s.i)) (s.a+(s.i+1)) (s.b+(s.i+1)) (s.n-(s.i+1))=_
   rw [show s.a+(s.i+1)=s.a+s.i+1 by omega,show s.b+(s.i+1)=s.b+s.i+1 by omega,show s.n-(s.i+1)=s.n-s.i-1 by omega]
   exact X8 (by omega) (by omega) (by omega) (by omega)
  ·have c1:s.n≤s.i:=by simpa using c1
   refine ⟨rfl,?_⟩;rw [show s.n-s.i=0 by omega,aAU]) s hE
theorem TN (s:rW) (hE:Qo s) (h0:s.i=0):WA s=.exit 0∧(bU s).data=P7 s.data s.a s.b s.n:=by
 obtain ⟨q1,q2⟩:=aDu s hE;refine ⟨q1,q2.trans ?_⟩;simp only;rw [h0,Int.add_zero,Int.add_zero,Int.sub_zero]
structure rX where
 m:Int
 i:Int
 j:Int
 b0:List Dm
 b1:Int
 data:List Int
def aRQ (s:rX):List LV:=[.os 2 1 0 (s.data.length),.v (.int .i64 s.m),.fn 45 [.own 0 0,.own 3 0],.v (.int .i64 s.i),.v (.int .i64 s.j)]
def aRC (s:rX):List aZ:=[⟨[.xl jr s.b0],31,.cl,false⟩,⟨[.v (.int .i64 s.b1)],3,.cl,false⟩,⟨[],3,.vec aSg s.data,false⟩,⟨[.fn 43 [.own 0 0,.own 1 0]],84,.cl,false⟩]
def aiH:Code:=((ax (Tryz.f143.body.getD .skip))[0]?).getD .skip
def xB (s:rX):rW:=(⟨(aSe (s.m-s.i)),s.m,s.j,(0:Int),s.b0,s.b1,s.data⟩:rW)
def xA (s:rX):rW:=(⟨(aSe (s.m-s.i)),(aSe ((aSe (s.m+s.j))-s.i)),s.i,(0:Int),s.b0,s.b1,s.data⟩:rW)
def amm (s:rX):T (Rd rX):=
 .br (s.i !=s.j) (.br (decide (s.i>s.j)) (.rl s.data (.req (akk (xB s)) (.req (0=0∧(s.data.length)=List.length (bU (xB s)).data) (.ok (.next {s with i:=(aSe (s.i-s.j)),data:=(bU (xB s)).data}))))) (.rl s.data (.req (akk (xA s)) (.req (0=0∧(s.data.length)=List.length (bU (xA s)).data) (.ok (.next {s with j:=(aSe (s.j-s.i)),data:=(bU (xA s)).data})))))) (.rl s.data (.ok (.stop (.exit 0) s)))
abbrev azp (s:rX):=(amm s).rd s
def alP (s:rX):Prop:=((1≤s.i∧1≤s.j)∧0≤s.m-s.i)∧s.m+s.j≤(s.data.length:Int)∧(s.data.length:Int)≤1000
def Xa (s:rX):Prop:=((1≤s.i∧1≤s.j)∧0≤s.m-s.i)∧s.m+s.j≤(s.data.length:Int)∧(s.data.length:Int)≤1000
def YP (s:rX):Nat:=(s.i+s.j).toNat
def aI6 (x:Ex) (_ s':rX):Prop:=x=.exit 0∧s'.i=s'.j∧Xa s'
theorem aQ6:∀s,alP s→Xa s:=by
 exact λs h=>h
theorem TQ (s:rX) (hI:Xa s) (c:s.j<s.i):Qo (xB s)∧WA (xB s)=.exit 0∧(bU (xB s)).data=P7 s.data (s.m-s.i) s.m s.j:=by
 obtain ⟨⟨⟨h0,h1⟩,h2⟩,h3,h4⟩:=hI
 have ew:aSe (s.m-s.i)=s.m-s.i:=aH
 have hE:Qo (xB s):=⟨⟨Int.le_refl 0,by show (0:Int)≤s.j;omega⟩,by show 0≤aSe (s.m-s.i)∧aSe (s.m-s.i)+s.j≤s.m∧s.m+s.j≤(s.data.length:Int);rw [ew];omega,h4⟩
 obtain ⟨q1,q2⟩:=TN _ hE rfl;refine ⟨hE,q1,q2.trans ?_⟩
 show P7 s.data (aSe (s.m-s.i)) s.m s.j=_
 rw [ew]
theorem TP (s:rX) (hI:Xa s) (c:s.i<s.j):Qo (xA s)∧WA (xA s)=.exit 0∧(bU (xA s)).data=P7 s.data (s.m-s.i) (s.m+s.j-s.i) s.i:=by
 obtain ⟨⟨⟨h0,h1⟩,h2⟩,h3,h4⟩:=hI
 have ew:aSe (s.m-s.i)=s.m-s.i:=aH
 have ev:aSe (aSe (s.m+s.j)-s.i)=s.m+s.j-s.i:=by
  rw [aH (x:=s.m+s.j)];exact aH
 have hE:Qo (xA s):=⟨⟨Int.le_refl 0,by show (0:Int)≤s.i;omega⟩,by show 0≤aSe (s.m-s.i)∧aSe (s.m-s.i)+s.i≤aSe (aSe (s.m+s.j)-s.i)∧aSe (aSe (s.m+s.j)-s.i)+s.i≤(s.data.length:Int);rw [ew,ev];omega,h4⟩
 obtain ⟨q1,q2⟩:=TN _ hE rfl;refine ⟨hE,q1,q2.trans ?_⟩
 show P7 s.data (aSe (s.m-s.i)) (aSe (aSe (s.m+s.j)-s.i)) s.i=_
 rw [ew,ev]
theorem aKH (s:rX) (hI:Xa s):bJ (λs'=>Xa s'∧YP s'<YP s) (λx s'=>aI6 x s s') (azp s):=by
 unfold azp amm;dsimp only [T.rd,T.rl]
 have i1:=λc=>TQ s hI c
 have i2:=λc=>TP s hI c
 have hI':=hI
 obtain ⟨⟨⟨h0,h1⟩,h2⟩,h3,h4⟩:=hI;refine ai (λc1=>ai (λc2=>?_) (λc2=>?_)) (λc1=>⟨rfl,by simpa using c1,hI'⟩)
 ·have c2:s.j<s.i:=by simpa using c2
  have q:=(i1 c2).2.2
  rw [aH (x:=s.i-s.j),q];exact ⟨⟨⟨⟨by simp only;omega,h1⟩,by simp only;omega⟩,by simp only [kZ];exact ⟨h3,h4⟩⟩,by simp only [YP];omega⟩
 ·have c2:s.i≤s.j:=by simpa using c2
  have c1:s.i≠s.j:=by simpa using c1
  have q:=(i2 (by omega)).2.2
  rw [aH (x:=s.j-s.i),q];exact ⟨⟨⟨⟨h0,by simp only;omega⟩,h2⟩,by simp only [kZ];exact ⟨by omega,h4⟩⟩,by simp only [YP];omega⟩
def Xe:bK rX:=⟨4,58,[0,2,4,10,11],[],aRQ,aRC,λv b=>⟨gI (v.getD 1 .junk),gI (v.getD 3 .junk),gI (v.getD 4 .junk),aU jr (bn (aT b 0) 0),gI (bn (aT b 1) 0),iW aSg (aT b 2)⟩,amm,λs r=> {r with m:=s.m,b0:=s.b0,b1:=s.b1},λs=>s,λ_ s=>s,[.exit 0],alP,Xa,YP⟩
abbrev dh:=Xe.run
abbrev arV:=Xe.jf
abbrev aDr:=Xe.q
def acK:Hand:=inl Tryz.prog aP iD (dK 158 4 1 (Qp.lp) (dK 121 4 33 (Px.lp) (dK 121 4 21 (J4.lp) (dK 121 4 15 (Hz.lp) (dK 121 4 9 (Gg.lp) (dK 121 4 3 (CU.lp) (dK 84 4 2 (sK.lp) (dK 120 4 1 (rH.lp) (jT Tryz.prog aP (iD) 20 2))))))))) 9
theorem aqD:dn Tryz.prog aP acK:=bV iH (bg Tryz.func158 rfl (by kernel_rfl) Uh (bg Tryz.func121 rfl (by kernel_rfl) Lp (bg Tryz.func121 rfl (by kernel_rfl) Gm (bg Tryz.func121 rfl (by kernel_rfl) BJ (bg Tryz.func121 rfl (by kernel_rfl) yU (bg Tryz.func121 rfl (by kernel_rfl) xC (bg Tryz.func84 rfl (by kernel_rfl) qA (bg Tryz.func120 rfl (by kernel_rfl) oU (dD iH))))))))) 9
theorem aLC (s:rX) (hI:Xa s):(amm s).all (λ_=>True):=by
 refine ⟨λc1=>⟨λc2=>⟨aSf,?_,?_,trivial⟩,λc2=>⟨aSf,?_,?_,trivial⟩⟩,λc1=>⟨aSf,trivial⟩⟩
 ·(have q:=TQ s hI (by simp only [bne_iff_ne,ne_eq,gt_iff_lt,decide_eq_true_eq] at c1 c2;omega);exact ⟨q.1,rfl,rfl⟩)
 ·(have q:=TQ s hI (by simp only [bne_iff_ne,ne_eq,gt_iff_lt,decide_eq_true_eq] at c1 c2;omega);exact ⟨rfl,by rw [q.2.2,kZ]⟩)
 ·(have q:=TP s hI (by simp only [bne_iff_ne,ne_eq,gt_iff_lt,decide_eq_false_iff_not] at c1 c2;omega);exact ⟨q.1,rfl,rfl⟩)
 ·(have q:=TP s hI (by simp only [bne_iff_ne,ne_eq,gt_iff_lt,decide_eq_false_iff_not] at c1 c2;omega);exact ⟨rfl,by rw [q.2.2,kZ]⟩)
theorem aoB:Xe.Ok:={}
theorem ank:Xe.Pf (aI6):=⟨aQ6,λ_ _=>rfl,aKH,aLC⟩
theorem abb:bC Tryz.prog aP (AN 4) (.loop aiH) Xe.lp:=bK.snd aoB ank (bI (Γ:=iD) (K:=acK) (L:=(ql Tryz.prog aP iD acK 20 2)) iH aqD aiH (λb _=>dA iH aqD 20 2 b)) (λs=>by kernel_rfl)
theorem alX (s:rX) (hE:alP s):∃s',Xa s'∧aI6 (arV s) s' (dh s):=bK.fin aoB ank s hE
theorem alW (s:rX) (hE:alP s):(λ(x:Ex) (s':rX) (v:List Int)=>x=.exit 0∧fU s'.data (s'.m-s'.i) s'.m (s'.m+s'.j)=v) (arV s) (dh s) ((λs:rX=>fU s.data (s.m-s.i) s.m (s.m+s.j)) s):=by
 exact bK.mD aoB ank (λs:rX=>fU s.data (s.m-s.i) s.m (s.m+s.j)) (λx s' v=>x=.exit 0∧fU s'.data (s'.m-s'.i) s'.m (s'.m+s'.j)=v) (λs hI=>by
  show bJ _ _ (azp s)
  unfold azp amm;dsimp only [T.rd,T.rl]
  have i1:=λc=>TQ s hI c
  have i2:=λc=>TP s hI c
  obtain ⟨⟨⟨h0,h1⟩,h2⟩,h3,h4⟩:=hI;refine ai (λc1=>ai (λc2=>?_) (λc2=>?_)) (λc1=>⟨rfl,rfl⟩)
  ·have c2:s.j<s.i:=by simpa using c2
   rw [aH (x:=s.i-s.j),(i1 c2).2.2];exact ana h2 h1 c2 h3
  ·have c2:s.i≤s.j:=by simpa using c2
   have c1:s.i≠s.j:=by simpa using c1
   rw [aH (x:=s.j-s.i),(i2 (by omega)).2.2]
   exact am9 h2 h0 (by omega) h3) s hE
abbrev wM (s:dJ):Int:=aSe ((IntKind.u64.wrap (aSe (s.a+s.b))).fdiv (2^1))
abbrev nM (s:dJ):Int:=aSe ((wM s)+s.m)
def qi (s:dJ):Prop:=(0≤s.a∧s.a<s.m∧s.m<s.b∧s.b≤(s.data.length:Int))∧((s.data.length=s.b0.length∧(s.data.length:Int)≤1000)∧wR s.data s.b0.length∧kX s.b0 s.b1)∧mJ (ltD s.b0 s.b1) s.data s.a s.m∧mJ (ltD s.b0 s.b1) s.data s.m s.b
def acj (s:dJ):Nat:=(s.b-s.a).toNat
def r_sym (s:dJ):dJ:={s with data:=gU (ltD s.b0 s.b1) s.data s.a s.b}
def uN:CpD dJ:=⟨P5,kV,λv b=>⟨gI (v.getD 1 .junk),gI (v.getD 2 .junk),gI (v.getD 3 .junk),aU jr (bn (aT b 0) 0),gI (bn (aT b 1) 0),iW aSg (aT b 2)⟩,qi,acj,r_sym⟩
abbrev rY (nn:Nat) (s:dJ):Prop:=qi s∧acj s<nn∧P5 s=P5 s∧kV s=kV s
abbrev auh (s:dJ):Prop:=qi s∧P5 s=P5 s∧kV s=kV s
def J6 (s:dJ):yJ:=(⟨(Gs (⟨s.a,s.m,s.b,s.b0,s.b1,s.data⟩:yL)).i,s.a,s.b0,s.b1,s.data⟩:yJ)
def J5 (s:dJ):yI:=(⟨(Lu (⟨s.m,s.a,s.m,s.b0,s.b1,s.data⟩:yK)).i,s.m,s.b0,s.b1,s.data⟩:yI)
def aY (s:dJ):wY:=(⟨s.a,s.m,s.b,(wM s),(nM s),(aSe ((nM s)-s.b)),(wM s),(aSe ((nM s)-1)),s.b0,s.b1,s.data⟩:wY)
def fO (s:dJ):rX:=(⟨s.m,(aSe (s.m-(aJ (aY s)).start)),(aSe ((aSe ((nM s)-(aJ (aY s)).start))-s.m)),s.b0,s.b1,s.data⟩:rX)
def eu (s:dJ):rW:=(⟨(aSe (s.m-(dh (fO s)).i)),s.m,(dh (fO s)).i,(0:Int),s.b0,s.b1,(dh (fO s)).data⟩:rW)
def Yo (s:dJ):dJ:=(⟨s.a,(aJ (aY s)).start,(wM s),s.b0,s.b1,(bU (eu s)).data⟩:dJ)
def Yn (s:dJ):dJ:=(⟨(wM s),(aSe ((nM s)-(aJ (aY s)).start)),s.b,s.b0,s.b1,(gU (ltD s.b0 s.b1) (bU (eu s)).data s.a (wM s))⟩:dJ)
def Ym (s:dJ):dJ:=(⟨(wM s),(aSe ((nM s)-(aJ (aY s)).start)),s.b,s.b0,s.b1,(bU (eu s)).data⟩:dJ)
def Yl (s:dJ):dJ:=(⟨s.a,(aJ (aY s)).start,(wM s),s.b0,s.b1,s.data⟩:dJ)
def Yk (s:dJ):dJ:=(⟨(wM s),(aSe ((nM s)-(aJ (aY s)).start)),s.b,s.b0,s.b1,(gU (ltD s.b0 s.b1) s.data s.a (wM s))⟩:dJ)
def Yj (s:dJ):dJ:=(⟨(wM s),(aSe ((nM s)-(aJ (aY s)).start)),s.b,s.b0,s.b1,s.data⟩:dJ)
def aX (s:dJ):wY:=(⟨s.a,s.m,s.b,(wM s),(nM s),s.a,s.m,(aSe ((nM s)-1)),s.b0,s.b1,s.data⟩:wY)
def fM (s:dJ):rX:=(⟨s.m,(aSe (s.m-(aJ (aX s)).start)),(aSe ((aSe ((nM s)-(aJ (aX s)).start))-s.m)),s.b0,s.b1,s.data⟩:rX)
def dZ (s:dJ):rW:=(⟨(aSe (s.m-(dh (fM s)).i)),s.m,(dh (fM s)).i,(0:Int),s.b0,s.b1,(dh (fM s)).data⟩:rW)
def Yi (s:dJ):dJ:=(⟨s.a,(aJ (aX s)).start,(wM s),s.b0,s.b1,(bU (dZ s)).data⟩:dJ)
def Yh (s:dJ):dJ:=(⟨(wM s),(aSe ((nM s)-(aJ (aX s)).start)),s.b,s.b0,s.b1,(gU (ltD s.b0 s.b1) (bU (dZ s)).data s.a (wM s))⟩:dJ)
def Yg (s:dJ):dJ:=(⟨(wM s),(aSe ((nM s)-(aJ (aX s)).start)),s.b,s.b0,s.b1,(bU (dZ s)).data⟩:dJ)
def Yf (s:dJ):dJ:=(⟨s.a,(aJ (aX s)).start,(wM s),s.b0,s.b1,s.data⟩:dJ)
def Ye (s:dJ):dJ:=(⟨(wM s),(aSe ((nM s)-(aJ (aX s)).start)),s.b,s.b0,s.b1,(gU (ltD s.b0 s.b1) s.data s.a (wM s))⟩:dJ)
def Yd (s:dJ):dJ:=(⟨(wM s),(aSe ((nM s)-(aJ (aX s)).start)),s.b,s.b0,s.b1,s.data⟩:dJ)
def BV:Specs:=aW [(43,nX),(45,wW)]
theorem ari:∀g S,BV g=some S→Valid Tryz.prog aP g S:=aS (l:=[(43,nX),(45,wW)]) ⟨BB,Qw,trivial⟩
def Hw:vK:=dK 143 4 2 (Xe.lp) (dK 158 4 1 (Qp.lp) (dK 121 4 33 (Px.lp) (dK 121 4 21 (J4.lp) (dK 121 4 15 (Hz.lp) (dK 121 4 9 (Gg.lp) (dK 121 4 3 (CU.lp) (dK 84 4 2 (sK.lp) (dK 120 4 1 (rH.lp) (jT Tryz.prog aP (BV) 20 2)))))))))
theorem atX:W9 Tryz.prog aP Hw:=bg Tryz.func143 rfl (by kernel_rfl) abb (bg Tryz.func158 rfl (by kernel_rfl) Uh (bg Tryz.func121 rfl (by kernel_rfl) Lp (bg Tryz.func121 rfl (by kernel_rfl) Gm (bg Tryz.func121 rfl (by kernel_rfl) BJ (bg Tryz.func121 rfl (by kernel_rfl) yU (bg Tryz.func121 rfl (by kernel_rfl) xC (bg Tryz.func84 rfl (by kernel_rfl) qA (bg Tryz.func120 rfl (by kernel_rfl) oU (dD ari)))))))))
theorem aHn (nn:Nat) (s:dJ):letI e:=ltD s.b0 s.b1;letI f:=gU e s.data s.a (wM s);letI g:=s.data.length;letI p:=bU (eu s);letI q:=bU (dZ s);letI r:=aJ (aY s);letI t:=aJ (aX s);letI u:=gU e s.data (wM s) s.b;letI h:=(decide (s.a<r.start))&&(decide (r.start<(wM s)));letI i:=(decide (s.a<t.start))&&(decide (t.start<(wM s)));letI j:=gU e p.data s.a (wM s);letI l:=gU e q.data s.a (wM s);letI n:=aSe ((nM s)-r.start);letI o:=aSe ((nM s)-t.start);letI c:=(decide ((wM s)<n))&&(decide (n<s.b));letI d:=(decide ((wM s)<o))&&(decide (o<s.b));(Bd Tryz.prog aP BV Hw (Wh Tryz.prog aP BV Hw (CpD.one 121 (uN.m nn)) 9)).k 121 (P5 s) (kV s)=.br ((aSe (s.m-s.a))==1) (.rl s.data (.req (aOh (⟨s.a,s.m,s.b,s.b0,s.b1,s.data⟩:yL)) (.rl s.data (.req (aOf (J6 s)) (.ok ((.v (.tuple #[]),[⟨[.xl jr s.b0],31,.cl,false⟩,⟨[.v (.int .i64 s.b1)],3,.cl,false⟩,⟨[],3,.vec aSg (abk (J6 s)).data,false⟩,⟨[.fn 43 [.own 0 0,.own 1 0]],84,.cl,false⟩]))))))) (.br ((aSe (s.b-s.m))==1) (.rl s.data (.req (aOg (⟨s.m,s.a,s.m,s.b0,s.b1,s.data⟩:yK)) (.rl s.data (.req (aOe (J5 s)) (.ok ((.v (.tuple #[]),[⟨[.xl jr s.b0],31,.cl,false⟩,⟨[.v (.int .i64 s.b1)],3,.cl,false⟩,⟨[],3,.vec aSg (abj (J5 s)).data,false⟩,⟨[.fn 43 [.own 0 0,.own 1 0]],84,.cl,false⟩]))))))) (.br (decide (s.m>(wM s))) (.rl s.data (.req (aDs (aY s)) (.br ((decide (r.start<s.m))&&(decide (s.m<n))) (.rl s.data (.req (aDr (fO s)) (.rl (dh (fO s)).data (.req (akk (eu s)) (.br h (.req (0=0∧g=List.length p.data) (.req (rY nn (Yo s)) (.br c (.req (0=0∧g=List.length j) (.req (rY nn (Yn s)) (.ok ((.v (.tuple #[]),[⟨[.xl jr s.b0],31,.cl,false⟩,⟨[.v (.int .i64 s.b1)],3,.cl,false⟩,⟨[],3,.vec aSg (gU e j (wM s) s.b),false⟩,⟨[.fn 43 [.own 0 0,.own 1 0]],84,.cl,false⟩]))))) (.ok ((.v (.tuple #[]),[⟨[.xl jr s.b0],31,.cl,false⟩,⟨[.v (.int .i64 s.b1)],3,.cl,false⟩,⟨[],3,.vec aSg j,false⟩,⟨[.fn 43 [.own 0 0,.own 1 0]],84,.cl,false⟩])))))) (.br c (.req (0=0∧g=List.length p.data) (.req (rY nn (Ym s)) (.ok ((.v (.tuple #[]),[⟨[.xl jr s.b0],31,.cl,false⟩,⟨[.v (.int .i64 s.b1)],3,.cl,false⟩,⟨[],3,.vec aSg (gU e p.data (wM s) s.b),false⟩,⟨[.fn 43 [.own 0 0,.own 1 0]],84,.cl,false⟩]))))) (.ok ((.v (.tuple #[]),[⟨[.xl jr s.b0],31,.cl,false⟩,⟨[.v (.int .i64 s.b1)],3,.cl,false⟩,⟨[],3,.vec aSg p.data,false⟩,⟨[.fn 43 [.own 0 0,.own 1 0]],84,.cl,false⟩]))))))))) (.br h (.rl s.data (.req (rY nn (Yl s)) (.br c (.req (0=0∧g=List.length f) (.req (rY nn (Yk s)) (.ok ((.v (.tuple #[]),[⟨[.xl jr s.b0],31,.cl,false⟩,⟨[.v (.int .i64 s.b1)],3,.cl,false⟩,⟨[],3,.vec aSg (gU e f (wM s) s.b),false⟩,⟨[.fn 43 [.own 0 0,.own 1 0]],84,.cl,false⟩]))))) (.ok ((.v (.tuple #[]),[⟨[.xl jr s.b0],31,.cl,false⟩,⟨[.v (.int .i64 s.b1)],3,.cl,false⟩,⟨[],3,.vec aSg f,false⟩,⟨[.fn 43 [.own 0 0,.own 1 0]],84,.cl,false⟩])))))) (.br c (.rl s.data (.req (rY nn (Yj s)) (.ok ((.v (.tuple #[]),[⟨[.xl jr s.b0],31,.cl,false⟩,⟨[.v (.int .i64 s.b1)],3,.cl,false⟩,⟨[],3,.vec aSg u,false⟩,⟨[.fn 43 [.own 0 0,.own 1 0]],84,.cl,false⟩]))))) (.ok ((.v (.tuple #[]),[⟨[.xl jr s.b0],31,.cl,false⟩,⟨[.v (.int .i64 s.b1)],3,.cl,false⟩,⟨[],3,.vec aSg s.data,false⟩,⟨[.fn 43 [.own 0 0,.own 1 0]],84,.cl,false⟩])))))))) (.rl s.data (.req (aDs (aX s)) (.br ((decide (t.start<s.m))&&(decide (s.m<o))) (.rl s.data (.req (aDr (fM s)) (.rl (dh (fM s)).data (.req (akk (dZ s)) (.br i (.req (0=0∧g=List.length q.data) (.req (rY nn (Yi s)) (.br d (.req (0=0∧g=List.length l) (.req (rY nn (Yh s)) (.ok ((.v (.tuple #[]),[⟨[.xl jr s.b0],31,.cl,false⟩,⟨[.v (.int .i64 s.b1)],3,.cl,false⟩,⟨[],3,.vec aSg (gU e l (wM s) s.b),false⟩,⟨[.fn 43 [.own 0 0,.own 1 0]],84,.cl,false⟩]))))) (.ok ((.v (.tuple #[]),[⟨[.xl jr s.b0],31,.cl,false⟩,⟨[.v (.int .i64 s.b1)],3,.cl,false⟩,⟨[],3,.vec aSg l,false⟩,⟨[.fn 43 [.own 0 0,.own 1 0]],84,.cl,false⟩])))))) (.br d (.req (0=0∧g=List.length q.data) (.req (rY nn (Yg s)) (.ok ((.v (.tuple #[]),[⟨[.xl jr s.b0],31,.cl,false⟩,⟨[.v (.int .i64 s.b1)],3,.cl,false⟩,⟨[],3,.vec aSg (gU e q.data (wM s) s.b),false⟩,⟨[.fn 43 [.own 0 0,.own 1 0]],84,.cl,false⟩]))))) (.ok ((.v (.tuple #[]),[⟨[.xl jr s.b0],31,.cl,false⟩,⟨[.v (.int .i64 s.b1)],3,.cl,false⟩,⟨[],3,.vec aSg q.data,false⟩,⟨[.fn 43 [.own 0 0,.own 1 0]],84,.cl,false⟩]))))))))) (.br i (.rl s.data (.req (rY nn (Yf s)) (.br d (.req (0=0∧g=List.length f) (.req (rY nn (Ye s)) (.ok ((.v (.tuple #[]),[⟨[.xl jr s.b0],31,.cl,false⟩,⟨[.v (.int .i64 s.b1)],3,.cl,false⟩,⟨[],3,.vec aSg (gU e f (wM s) s.b),false⟩,⟨[.fn 43 [.own 0 0,.own 1 0]],84,.cl,false⟩]))))) (.ok ((.v (.tuple #[]),[⟨[.xl jr s.b0],31,.cl,false⟩,⟨[.v (.int .i64 s.b1)],3,.cl,false⟩,⟨[],3,.vec aSg f,false⟩,⟨[.fn 43 [.own 0 0,.own 1 0]],84,.cl,false⟩])))))) (.br d (.rl s.data (.req (rY nn (Yd s)) (.ok ((.v (.tuple #[]),[⟨[.xl jr s.b0],31,.cl,false⟩,⟨[.v (.int .i64 s.b1)],3,.cl,false⟩,⟨[],3,.vec aSg u,false⟩,⟨[.fn 43 [.own 0 0,.own 1 0]],84,.cl,false⟩]))))) (.ok ((.v (.tuple #[]),[⟨[.xl jr s.b0],31,.cl,false⟩,⟨[.v (.int .i64 s.b1)],3,.cl,false⟩,⟨[],3,.vec aSg s.data,false⟩,⟨[.fn 43 [.own 0 0,.own 1 0]],84,.cl,false⟩])))))))))):=by kernel_rfl
set_option maxRecDepth 100000 in
set_option maxHeartbeats 4000000 in
theorem aEQ:∀(nn:Nat) (s:dJ),uN.E s→uN.mu s≤nn→aKu (λq=>q=(.v (.tuple #[]),uN.B (uN.r s))) ((Bd Tryz.prog aP BV Hw (Wh Tryz.prog aP BV Hw (CpD.one 121 (uN.m nn)) 9)).k 121 (uN.A s) (uN.B s)):=by
 intro nn s hE hm;refine ⟨?_⟩
 replace hE:qi s:=hE
 replace hm:acj s≤nn:=hm
 rw [show uN.A=P5 from rfl,show uN.B=kV from rfl,aHn];obtain ⟨⟨e0,e1,e2,e3⟩,⟨⟨k0,k1⟩,k2,k3⟩,sA,sB⟩:=hE
 have hm:(s.b-s.a).toNat≤nn:=hm
 have w1:aSe (s.m-s.a)=s.m-s.a:=aH
 have w2:aSe (s.b-s.m)=s.b-s.m:=aH
 have hmid:(wM s)=(s.a+s.b) / 2:=hlf (by omega) (by omega)
 have hn:nM s=(s.a+s.b) / 2+s.m:=by
  show aSe (wM s+s.m)=_
  rw [hmid];exact aH
 rw [w1,w2,hmid,hn];refine ⟨λc1=>?_,λc1=>⟨λc2=>?_,λc2=>⟨λc0=>?_,λc0=>?_⟩⟩⟩
 ·have c1:s.m-s.a=1:=by simpa using c1
  have hA:aAI ⟨s.a,s.m,s.b,s.b0,s.b1,s.data⟩:=⟨⟨⟨by show 0≤s.m;omega,by show s.m≤s.b;omega⟩,e3⟩,⟨⟨k0,k1⟩,k2,k3⟩,e0,by show s.a<(s.data.length:Int);omega⟩
  have q:(Gs ⟨s.a,s.m,s.b,s.b0,s.b1,s.data⟩).i=yO (λh=>ltD s.b0 s.b1 (gi s.data h) (gi s.data s.a)) s.m s.b:=(aDy _ hA).2
  obtain ⟨g1,g2,g3⟩:=wU (F:=λh=>ltD s.b0 s.b1 (gi s.data h) (gi s.data s.a)) _ (i:=s.m) (j:=s.b) (Nat.le_refl _) (by omega)
  rw [←q] at g1 g2 g3
  have hB:aAG (J6 s):=⟨⟨e0,by show s.a≤(Gs ⟨s.a,s.m,s.b,s.b0,s.b1,s.data⟩).i-1;omega⟩,by show (Gs ⟨s.a,s.m,s.b,s.b0,s.b1,s.data⟩).i≤(s.data.length:Int);omega,k1⟩
  have q2:(abk (J6 s)).data=fU s.data s.a (s.a+1) (Gs ⟨s.a,s.m,s.b,s.b0,s.b1,s.data⟩).i:=(aDw _ hB).2
  have q3:=aLd dw (l:=s.data) e0 (show s.m=s.a+1 by omega) g1.1 g1.2 e3 sB g2 g3
  rw [show s.m=s.a+1 by omega] at q3
  refine ⟨aSf,⟨hA,rfl,rfl⟩,aSf,⟨hB,rfl,rfl⟩,?_⟩;exact congrArg (λz=>((.v (.tuple #[]):LV),kV {s with data:=z})) (q2.trans (by rw [show s.a+1=s.m by omega] at q3⊢;exact q3))
 ·have c2:s.b-s.m=1:=by simpa using c2
  have hA:aAH ⟨s.m,s.a,s.m,s.b0,s.b1,s.data⟩:=⟨⟨⟨e0,by show s.a≤s.m;omega⟩,by show s.m≤(s.data.length:Int);omega⟩,⟨⟨k0,k1⟩,k2,k3⟩,by show 0≤s.m;omega,by show s.m<(s.data.length:Int);omega⟩
  have q:(Lu ⟨s.m,s.a,s.m,s.b0,s.b1,s.data⟩).i=yO (λh=>!ltD s.b0 s.b1 (gi s.data s.m) (gi s.data h)) s.a s.m:=(aDx _ hA).2
  obtain ⟨g1,g2,g3⟩:=wU (F:=λh=>!ltD s.b0 s.b1 (gi s.data s.m) (gi s.data h)) _ (i:=s.a) (j:=s.m) (Nat.le_refl _) (by omega)
  rw [←q] at g1 g2 g3
  have hB:aAF (J5 s):=⟨⟨by show 0≤(Lu ⟨s.m,s.a,s.m,s.b0,s.b1,s.data⟩).i;omega,g1.2⟩,by show s.m<(s.data.length:Int);omega,k1⟩
  have q2:(abj (J5 s)).data=fU s.data (Lu ⟨s.m,s.a,s.m,s.b0,s.b1,s.data⟩).i s.m (s.m+1):=(aDv _ hB).2
  have q3:=aLc dw (l:=s.data) e0 (show s.b=s.m+1 by omega) g1.1 g1.2 e3 sA (g2.imp id λh=>by simpa using h) (g3.imp id λh=>by simpa using h)
  refine ⟨aSf,⟨hA,rfl,rfl⟩,aSf,⟨hB,rfl,rfl⟩,?_⟩;exact congrArg (λz=>((.v (.tuple #[]):LV),kV {s with data:=z})) (q2.trans (by rw [show s.m+1=s.b by omega];exact q3))
 ·have c0:(s.a+s.b) / 2<s.m:=by simpa using c0
  have hp:aSe ((s.a+s.b) / 2+s.m-1)=(s.a+s.b) / 2+s.m-1:=aH
  have hb':aSe ((s.a+s.b) / 2+s.m-s.b)=(s.a+s.b) / 2+s.m-s.b:=aH
  have hC:auc (aY s):=by
   show ((0≤(aSe ((nM s)-s.b))∧(aSe ((nM s)-s.b))≤(wM s))∧(wM s)≤(s.data.length:Int))∧((s.data.length=s.b0.length∧(s.data.length:Int)≤1000)∧wR s.data s.b0.length∧kX s.b0 s.b1)∧aSe ((nM s)-1)-(aSe ((nM s)-s.b))<(s.data.length:Int)∧0≤aSe ((nM s)-1)-((wM s)-1)∧0≤aSe ((nM s)-1)∧aSe ((nM s)-1)≤2000
   try rw [hmid]
   rw [hn,hp];rw [hb'];exact ⟨⟨⟨by omega,by omega⟩,by omega⟩,⟨⟨k0,k1⟩,k2,k3⟩,by omega,by omega,by omega,by omega⟩
  have q_eq:(aJ (aY s)).start=yO (λh=>!ltD s.b0 s.b1 (gi s.data (aSe ((nM s)-1)-h)) (gi s.data h)) (aSe ((nM s)-s.b)) (wM s):=(alZ _ hC).2
  try rw [hmid] at q_eq
  rw [hn,hp] at q_eq;rw [hb'] at q_eq
  have S:=aEJ e0 e1 e2 e3 sA sB c0 q_eq
  have u1:=S.aq;have u2:=S.qm;have u3:=S.me;have u4:=S.eb;have u5:=S.qd;have u6:=S.de
  have he:aSe ((s.a+s.b) / 2+s.m-(aJ (aY s)).start)=(s.a+s.b) / 2+s.m-(aJ (aY s)).start:=aH
  rw [he];refine ⟨aSf,⟨hC,rfl,rfl⟩,λc2=>?_,λc2=>?_⟩
  ·rw [Bool.and_eq_true,decide_eq_true_eq,decide_eq_true_eq] at c2
   have ei:(aSe (s.m-(aJ (aY s)).start))=s.m-(aJ (aY s)).start:=aH
   have ej:(aSe ((aSe ((nM s)-(aJ (aY s)).start))-s.m))=(s.a+s.b) / 2-(aJ (aY s)).start:=by
    try rw [hmid]
    rw [hn,he];exact (aH).trans (by omega)
   have hR:alP (fO s):=by
    show ((1≤(aSe (s.m-(aJ (aY s)).start))∧1≤(aSe ((aSe ((nM s)-(aJ (aY s)).start))-s.m)))∧0≤s.m-(aSe (s.m-(aJ (aY s)).start)))∧s.m+(aSe ((aSe ((nM s)-(aJ (aY s)).start))-s.m))≤(s.data.length:Int)∧(s.data.length:Int)≤1000
    rw [ei,ej];omega
   obtain ⟨_,_,_,r2,rI⟩:=alX _ hR
   have r3:fU (dh (fO s)).data (s.m-(dh (fO s)).i) s.m (s.m+(dh (fO s)).j)=fU s.data (s.m-(aSe (s.m-(aJ (aY s)).start))) s.m (s.m+(aSe ((aSe ((nM s)-(aJ (aY s)).start))-s.m))):=(alW _ hR).2
   have rI:((1≤(dh (fO s)).i∧1≤(dh (fO s)).j)∧0≤s.m-(dh (fO s)).i)∧s.m+(dh (fO s)).j≤(List.length (dh (fO s)).data:Int)∧(List.length (dh (fO s)).data:Int)≤1000:=rI
   have ew:aSe (s.m-(dh (fO s)).i)=s.m-(dh (fO s)).i:=aH
   have hS:Qo (eu s):=⟨⟨Int.le_refl 0,by show (0:Int)≤(dh (fO s)).i;omega⟩,by show 0≤aSe (s.m-(dh (fO s)).i)∧aSe (s.m-(dh (fO s)).i)+(dh (fO s)).i≤s.m∧s.m+(dh (fO s)).i≤(List.length (dh (fO s)).data:Int);rw [ew];omega,rI.2.2⟩
   have hD:(bU (eu s)).data=fU s.data (aJ (aY s)).start s.m ((s.a+s.b) / 2+s.m-(aJ (aY s)).start):=by
    refine (TN _ hS rfl).2.trans ?_
    show P7 (dh (fO s)).data (aSe (s.m-(dh (fO s)).i)) s.m (dh (fO s)).i=_
    rw [ew,abo,show s.m+(dh (fO s)).i=s.m+(dh (fO s)).j by omega,r3,ei,ej,show s.m-(s.m-(aJ (aY s)).start)=(aJ (aY s)).start by omega,show s.m+((s.a+s.b) / 2-(aJ (aY s)).start)=(s.a+s.b) / 2+s.m-(aJ (aY s)).start by omega]
   refine ⟨aSf,⟨hR,rfl,rfl⟩,aSf,⟨hS,rfl,rfl⟩,?_⟩
   have hl:(fU s.data (aJ (aY s)).start s.m ((s.a+s.b) / 2+s.m-(aJ (aY s)).start)).length=s.data.length:=dW
   have hpR:=wK (l:=s.data) (s:=(aJ (aY s)).start) (m:=s.m) (e:=(s.a+s.b) / 2+s.m-(aJ (aY s)).start) (by omega) S.qm S.me (by omega)
   have elR':=jB hpR k2
   have hpX:=iO (lt:=ltD s.b0 s.b1) (l:=fU s.data (aJ (aY s)).start s.m ((s.a+s.b) / 2+s.m-(aJ (aY s)).start)) (a:=s.a) (b:=(s.a+s.b) / 2) (by omega)
   have elX:=jB hpX elR'
   have hlX:=hpX.length_eq
   refine ⟨λc3=>?_,λc3=>?_⟩
   ·rw [Bool.and_eq_true,decide_eq_true_eq,decide_eq_true_eq] at c3
    have h1:qi (Yo s):=by
     show (0≤s.a∧s.a<(aJ (aY s)).start∧(aJ (aY s)).start<(wM s)∧(wM s)≤(List.length (bU (eu s)).data:Int))∧(((bU (eu s)).data.length=s.b0.length∧(List.length (bU (eu s)).data:Int)≤1000)∧wR (bU (eu s)).data s.b0.length∧kX s.b0 s.b1)∧mJ (ltD s.b0 s.b1) (bU (eu s)).data s.a (aJ (aY s)).start∧mJ (ltD s.b0 s.b1) (bU (eu s)).data (aJ (aY s)).start (wM s)
     rw [hmid,hD];exact ⟨⟨e0,c3.1,c3.2,by omega⟩,⟨⟨by omega,by omega⟩,elR',k3⟩,S.r1,S.r2⟩
    refine ⟨⟨rfl,by rw [hD,dW]⟩,⟨h1,by show ((wM s)-s.a).toNat<nn;rw [hmid];omega,rfl,rfl⟩,λc4=>?_,λc4=>?_⟩
    ·rw [Bool.and_eq_true,decide_eq_true_eq,decide_eq_true_eq] at c4
     have h2:qi (Yn s):=by
      show (0≤(wM s)∧(wM s)<(aSe ((nM s)-(aJ (aY s)).start))∧(aSe ((nM s)-(aJ (aY s)).start))<s.b∧s.b≤(List.length (gU (ltD s.b0 s.b1) (bU (eu s)).data s.a (wM s)):Int))∧(((gU (ltD s.b0 s.b1) (bU (eu s)).data s.a (wM s)).length=s.b0.length∧(List.length (gU (ltD s.b0 s.b1) (bU (eu s)).data s.a (wM s)):Int)≤1000)∧wR (gU (ltD s.b0 s.b1) (bU (eu s)).data s.a (wM s)) s.b0.length∧kX s.b0 s.b1)∧mJ (ltD s.b0 s.b1) (gU (ltD s.b0 s.b1) (bU (eu s)).data s.a (wM s)) (wM s) (aSe ((nM s)-(aJ (aY s)).start))∧mJ (ltD s.b0 s.b1) (gU (ltD s.b0 s.b1) (bU (eu s)).data s.a (wM s)) (aSe ((nM s)-(aJ (aY s)).start)) s.b
      try rw [hmid]
      rw [hn,he,hD];exact ⟨⟨by omega,c4.1,c4.2,by omega⟩,⟨⟨by omega,by omega⟩,elX,k3⟩,S.keep jy S.r3 (Int.le_refl _),S.keep jy S.r4 S.de⟩
     refine ⟨⟨rfl,by rw [hD,hlX,hl]⟩,⟨h2,by show (s.b-(wM s)).toNat<nn;rw [hmid];omega,rfl,rfl⟩,?_⟩
     exact congrArg (λz=>((.v (.tuple #[]):LV),kV {s with data:=z})) ((congrArg (λz=>gU (ltD s.b0 s.b1) (gU (ltD s.b0 s.b1) z s.a ((s.a+s.b) / 2)) ((s.a+s.b) / 2) s.b) hD).trans (S.main dw))
    ·have c4:¬((s.a+s.b) / 2<(s.a+s.b) / 2+s.m-(aJ (aY s)).start∧(s.a+s.b) / 2+s.m-(aJ (aY s)).start<s.b):=λh=>by
      rw [decide_eq_true h.1,decide_eq_true h.2] at c4;cases c4
     exact congrArg (λz=>((.v (.tuple #[]):LV),kV {s with data:=z})) ((congrArg (λz=>gU (ltD s.b0 s.b1) z s.a ((s.a+s.b) / 2)) hD).trans ((S.n2 dw c4).symm.trans (S.main dw)))
   ·have c3:¬(s.a<(aJ (aY s)).start∧(aJ (aY s)).start<(s.a+s.b) / 2):=λh=>by
     rw [decide_eq_true h.1,decide_eq_true h.2] at c3;cases c3
    refine ⟨λc4=>?_,λc4=>?_⟩
    ·rw [Bool.and_eq_true,decide_eq_true_eq,decide_eq_true_eq] at c4
     have h2:qi (Ym s):=by
      show (0≤(wM s)∧(wM s)<(aSe ((nM s)-(aJ (aY s)).start))∧(aSe ((nM s)-(aJ (aY s)).start))<s.b∧s.b≤(List.length (bU (eu s)).data:Int))∧(((bU (eu s)).data.length=s.b0.length∧(List.length (bU (eu s)).data:Int)≤1000)∧wR (bU (eu s)).data s.b0.length∧kX s.b0 s.b1)∧mJ (ltD s.b0 s.b1) (bU (eu s)).data (wM s) (aSe ((nM s)-(aJ (aY s)).start))∧mJ (ltD s.b0 s.b1) (bU (eu s)).data (aSe ((nM s)-(aJ (aY s)).start)) s.b
      try rw [hmid]
      rw [hn,he,hD];exact ⟨⟨by omega,c4.1,c4.2,by omega⟩,⟨⟨by omega,by omega⟩,elR',k3⟩,S.r3,S.r4⟩
     refine ⟨⟨rfl,by rw [hD,dW]⟩,⟨h2,by show (s.b-(wM s)).toNat<nn;rw [hmid];omega,rfl,rfl⟩,?_⟩
     exact congrArg (λz=>((.v (.tuple #[]):LV),kV {s with data:=z})) ((congrArg (λz=>gU (ltD s.b0 s.b1) z ((s.a+s.b) / 2) s.b) (hD.trans (S.n1 dw c3).symm)).trans (S.main dw))
    ·have c4:¬((s.a+s.b) / 2<(s.a+s.b) / 2+s.m-(aJ (aY s)).start∧(s.a+s.b) / 2+s.m-(aJ (aY s)).start<s.b):=λh=>by
      rw [decide_eq_true h.1,decide_eq_true h.2] at c4;cases c4
     exact congrArg (λz=>((.v (.tuple #[]):LV),kV {s with data:=z})) (hD.trans ((S.n1 dw c3).symm.trans ((S.n2 dw c4).symm.trans (S.main dw))))
  ·have c2:¬((aJ (aY s)).start<s.m∧s.m<(s.a+s.b) / 2+s.m-(aJ (aY s)).start):=λh=>by
    rw [decide_eq_true h.1,decide_eq_true h.2] at c2;cases c2
   have hD:s.data=fU s.data (aJ (aY s)).start s.m ((s.a+s.b) / 2+s.m-(aJ (aY s)).start):=(S.am8 c2).symm
   have hl:(fU s.data (aJ (aY s)).start s.m ((s.a+s.b) / 2+s.m-(aJ (aY s)).start)).length=s.data.length:=dW
   have hpR:=wK (l:=s.data) (s:=(aJ (aY s)).start) (m:=s.m) (e:=(s.a+s.b) / 2+s.m-(aJ (aY s)).start) (by omega) S.qm S.me (by omega)
   have elR':=jB hpR k2
   have hpX:=iO (lt:=ltD s.b0 s.b1) (l:=fU s.data (aJ (aY s)).start s.m ((s.a+s.b) / 2+s.m-(aJ (aY s)).start)) (a:=s.a) (b:=(s.a+s.b) / 2) (by omega)
   have elX:=jB hpX elR'
   have hlX:=hpX.length_eq
   refine ⟨λc3=>?_,λc3=>?_⟩
   ·rw [Bool.and_eq_true,decide_eq_true_eq,decide_eq_true_eq] at c3
    have h1:qi (Yl s):=by
     show (0≤s.a∧s.a<(aJ (aY s)).start∧(aJ (aY s)).start<(wM s)∧(wM s)≤(s.data.length:Int))∧((s.data.length=s.b0.length∧(s.data.length:Int)≤1000)∧wR s.data s.b0.length∧kX s.b0 s.b1)∧mJ (ltD s.b0 s.b1) s.data s.a (aJ (aY s)).start∧mJ (ltD s.b0 s.b1) s.data (aJ (aY s)).start (wM s)
     rw [hmid,hD];exact ⟨⟨e0,c3.1,c3.2,by omega⟩,⟨⟨by omega,by omega⟩,elR',k3⟩,S.r1,S.r2⟩
    refine ⟨aSf,⟨h1,by show ((wM s)-s.a).toNat<nn;rw [hmid];omega,rfl,rfl⟩,λc4=>?_,λc4=>?_⟩
    ·rw [Bool.and_eq_true,decide_eq_true_eq,decide_eq_true_eq] at c4
     have h2:qi (Yk s):=by
      show (0≤(wM s)∧(wM s)<(aSe ((nM s)-(aJ (aY s)).start))∧(aSe ((nM s)-(aJ (aY s)).start))<s.b∧s.b≤(List.length (gU (ltD s.b0 s.b1) s.data s.a (wM s)):Int))∧(((gU (ltD s.b0 s.b1) s.data s.a (wM s)).length=s.b0.length∧(List.length (gU (ltD s.b0 s.b1) s.data s.a (wM s)):Int)≤1000)∧wR (gU (ltD s.b0 s.b1) s.data s.a (wM s)) s.b0.length∧kX s.b0 s.b1)∧mJ (ltD s.b0 s.b1) (gU (ltD s.b0 s.b1) s.data s.a (wM s)) (wM s) (aSe ((nM s)-(aJ (aY s)).start))∧mJ (ltD s.b0 s.b1) (gU (ltD s.b0 s.b1) s.data s.a (wM s)) (aSe ((nM s)-(aJ (aY s)).start)) s.b
      try rw [hmid]
      rw [hn,he,hD];exact ⟨⟨by omega,c4.1,c4.2,by omega⟩,⟨⟨by omega,by omega⟩,elX,k3⟩,S.keep jy S.r3 (Int.le_refl _),S.keep jy S.r4 S.de⟩
     refine ⟨⟨rfl,by rw [hD,hlX,hl]⟩,⟨h2,by show (s.b-(wM s)).toNat<nn;rw [hmid];omega,rfl,rfl⟩,?_⟩
     exact congrArg (λz=>((.v (.tuple #[]):LV),kV {s with data:=z})) ((congrArg (λz=>gU (ltD s.b0 s.b1) (gU (ltD s.b0 s.b1) z s.a ((s.a+s.b) / 2)) ((s.a+s.b) / 2) s.b) hD).trans (S.main dw))
    ·have c4:¬((s.a+s.b) / 2<(s.a+s.b) / 2+s.m-(aJ (aY s)).start∧(s.a+s.b) / 2+s.m-(aJ (aY s)).start<s.b):=λh=>by
      rw [decide_eq_true h.1,decide_eq_true h.2] at c4;cases c4
     exact congrArg (λz=>((.v (.tuple #[]):LV),kV {s with data:=z})) ((congrArg (λz=>gU (ltD s.b0 s.b1) z s.a ((s.a+s.b) / 2)) hD).trans ((S.n2 dw c4).symm.trans (S.main dw)))
   ·have c3:¬(s.a<(aJ (aY s)).start∧(aJ (aY s)).start<(s.a+s.b) / 2):=λh=>by
     rw [decide_eq_true h.1,decide_eq_true h.2] at c3;cases c3
    refine ⟨λc4=>?_,λc4=>?_⟩
    ·rw [Bool.and_eq_true,decide_eq_true_eq,decide_eq_true_eq] at c4
     have h2:qi (Yj s):=by
      show (0≤(wM s)∧(wM s)<(aSe ((nM s)-(aJ (aY s)).start))∧(aSe ((nM s)-(aJ (aY s)).start))<s.b∧s.b≤(s.data.length:Int))∧((s.data.length=s.b0.length∧(s.data.length:Int)≤1000)∧wR s.data s.b0.length∧kX s.b0 s.b1)∧mJ (ltD s.b0 s.b1) s.data (wM s) (aSe ((nM s)-(aJ (aY s)).start))∧mJ (ltD s.b0 s.b1) s.data (aSe ((nM s)-(aJ (aY s)).start)) s.b
      try rw [hmid]
      rw [hn,he,hD];exact ⟨⟨by omega,c4.1,c4.2,by omega⟩,⟨⟨by omega,by omega⟩,elR',k3⟩,S.r3,S.r4⟩
     refine ⟨aSf,⟨h2,by show (s.b-(wM s)).toNat<nn;rw [hmid];omega,rfl,rfl⟩,?_⟩
     exact congrArg (λz=>((.v (.tuple #[]):LV),kV {s with data:=z})) ((congrArg (λz=>gU (ltD s.b0 s.b1) z ((s.a+s.b) / 2) s.b) (hD.trans (S.n1 dw c3).symm)).trans (S.main dw))
    ·have c4:¬((s.a+s.b) / 2<(s.a+s.b) / 2+s.m-(aJ (aY s)).start∧(s.a+s.b) / 2+s.m-(aJ (aY s)).start<s.b):=λh=>by
      rw [decide_eq_true h.1,decide_eq_true h.2] at c4;cases c4
     exact congrArg (λz=>((.v (.tuple #[]):LV),kV {s with data:=z})) (hD.trans ((S.n1 dw c3).symm.trans ((S.n2 dw c4).symm.trans (S.main dw))))
 ·have c0:s.m≤(s.a+s.b) / 2:=by simpa using c0
  have hp:aSe ((s.a+s.b) / 2+s.m-1)=(s.a+s.b) / 2+s.m-1:=aH
  have hb':aSe ((s.a+s.b) / 2+s.m-s.b)=(s.a+s.b) / 2+s.m-s.b:=aH
  have hC:auc (aX s):=by
   show ((0≤s.a∧s.a≤s.m)∧s.m≤(s.data.length:Int))∧((s.data.length=s.b0.length∧(s.data.length:Int)≤1000)∧wR s.data s.b0.length∧kX s.b0 s.b1)∧aSe ((nM s)-1)-s.a<(s.data.length:Int)∧0≤aSe ((nM s)-1)-(s.m-1)∧0≤aSe ((nM s)-1)∧aSe ((nM s)-1)≤2000
   try rw [hmid]
   rw [hn,hp];exact ⟨⟨⟨by omega,by omega⟩,by omega⟩,⟨⟨k0,k1⟩,k2,k3⟩,by omega,by omega,by omega,by omega⟩
  have q_eq:(aJ (aX s)).start=yO (λh=>!ltD s.b0 s.b1 (gi s.data (aSe ((nM s)-1)-h)) (gi s.data h)) s.a s.m:=(alZ _ hC).2
  try rw [hmid] at q_eq
  rw [hn,hp] at q_eq
  have S:=aEI e0 e1 e2 e3 sA sB c0 q_eq
  have u1:=S.aq;have u2:=S.qm;have u3:=S.me;have u4:=S.eb;have u5:=S.qd;have u6:=S.de
  have he:aSe ((s.a+s.b) / 2+s.m-(aJ (aX s)).start)=(s.a+s.b) / 2+s.m-(aJ (aX s)).start:=aH
  rw [he];refine ⟨aSf,⟨hC,rfl,rfl⟩,λc2=>?_,λc2=>?_⟩
  ·rw [Bool.and_eq_true,decide_eq_true_eq,decide_eq_true_eq] at c2
   have ei:(aSe (s.m-(aJ (aX s)).start))=s.m-(aJ (aX s)).start:=aH
   have ej:(aSe ((aSe ((nM s)-(aJ (aX s)).start))-s.m))=(s.a+s.b) / 2-(aJ (aX s)).start:=by
    try rw [hmid]
    rw [hn,he];exact (aH).trans (by omega)
   have hR:alP (fM s):=by
    show ((1≤(aSe (s.m-(aJ (aX s)).start))∧1≤(aSe ((aSe ((nM s)-(aJ (aX s)).start))-s.m)))∧0≤s.m-(aSe (s.m-(aJ (aX s)).start)))∧s.m+(aSe ((aSe ((nM s)-(aJ (aX s)).start))-s.m))≤(s.data.length:Int)∧(s.data.length:Int)≤1000
    rw [ei,ej];omega
   obtain ⟨_,_,_,r2,rI⟩:=alX _ hR
   have r3:fU (dh (fM s)).data (s.m-(dh (fM s)).i) s.m (s.m+(dh (fM s)).j)=fU s.data (s.m-(aSe (s.m-(aJ (aX s)).start))) s.m (s.m+(aSe ((aSe ((nM s)-(aJ (aX s)).start))-s.m))):=(alW _ hR).2
   have rI:((1≤(dh (fM s)).i∧1≤(dh (fM s)).j)∧0≤s.m-(dh (fM s)).i)∧s.m+(dh (fM s)).j≤(List.length (dh (fM s)).data:Int)∧(List.length (dh (fM s)).data:Int)≤1000:=rI
   have ew:aSe (s.m-(dh (fM s)).i)=s.m-(dh (fM s)).i:=aH
   have hS:Qo (dZ s):=⟨⟨Int.le_refl 0,by show (0:Int)≤(dh (fM s)).i;omega⟩,by show 0≤aSe (s.m-(dh (fM s)).i)∧aSe (s.m-(dh (fM s)).i)+(dh (fM s)).i≤s.m∧s.m+(dh (fM s)).i≤(List.length (dh (fM s)).data:Int);rw [ew];omega,rI.2.2⟩
   have hD:(bU (dZ s)).data=fU s.data (aJ (aX s)).start s.m ((s.a+s.b) / 2+s.m-(aJ (aX s)).start):=by
    refine (TN _ hS rfl).2.trans ?_
    show P7 (dh (fM s)).data (aSe (s.m-(dh (fM s)).i)) s.m (dh (fM s)).i=_
    rw [ew,abo,show s.m+(dh (fM s)).i=s.m+(dh (fM s)).j by omega,r3,ei,ej,show s.m-(s.m-(aJ (aX s)).start)=(aJ (aX s)).start by omega,show s.m+((s.a+s.b) / 2-(aJ (aX s)).start)=(s.a+s.b) / 2+s.m-(aJ (aX s)).start by omega]
   refine ⟨aSf,⟨hR,rfl,rfl⟩,aSf,⟨hS,rfl,rfl⟩,?_⟩
   have hl:(fU s.data (aJ (aX s)).start s.m ((s.a+s.b) / 2+s.m-(aJ (aX s)).start)).length=s.data.length:=dW
   have hpR:=wK (l:=s.data) (s:=(aJ (aX s)).start) (m:=s.m) (e:=(s.a+s.b) / 2+s.m-(aJ (aX s)).start) (by omega) S.qm S.me (by omega)
   have elR':=jB hpR k2
   have hpX:=iO (lt:=ltD s.b0 s.b1) (l:=fU s.data (aJ (aX s)).start s.m ((s.a+s.b) / 2+s.m-(aJ (aX s)).start)) (a:=s.a) (b:=(s.a+s.b) / 2) (by omega)
   have elX:=jB hpX elR'
   have hlX:=hpX.length_eq
   refine ⟨λc3=>?_,λc3=>?_⟩
   ·rw [Bool.and_eq_true,decide_eq_true_eq,decide_eq_true_eq] at c3
    have h1:qi (Yi s):=by
     show (0≤s.a∧s.a<(aJ (aX s)).start∧(aJ (aX s)).start<(wM s)∧(wM s)≤(List.length (bU (dZ s)).data:Int))∧(((bU (dZ s)).data.length=s.b0.length∧(List.length (bU (dZ s)).data:Int)≤1000)∧wR (bU (dZ s)).data s.b0.length∧kX s.b0 s.b1)∧mJ (ltD s.b0 s.b1) (bU (dZ s)).data s.a (aJ (aX s)).start∧mJ (ltD s.b0 s.b1) (bU (dZ s)).data (aJ (aX s)).start (wM s)
     rw [hmid,hD];exact ⟨⟨e0,c3.1,c3.2,by omega⟩,⟨⟨by omega,by omega⟩,elR',k3⟩,S.r1,S.r2⟩
    refine ⟨⟨rfl,by rw [hD,dW]⟩,⟨h1,by show ((wM s)-s.a).toNat<nn;rw [hmid];omega,rfl,rfl⟩,λc4=>?_,λc4=>?_⟩
    ·rw [Bool.and_eq_true,decide_eq_true_eq,decide_eq_true_eq] at c4
     have h2:qi (Yh s):=by
      show (0≤(wM s)∧(wM s)<(aSe ((nM s)-(aJ (aX s)).start))∧(aSe ((nM s)-(aJ (aX s)).start))<s.b∧s.b≤(List.length (gU (ltD s.b0 s.b1) (bU (dZ s)).data s.a (wM s)):Int))∧(((gU (ltD s.b0 s.b1) (bU (dZ s)).data s.a (wM s)).length=s.b0.length∧(List.length (gU (ltD s.b0 s.b1) (bU (dZ s)).data s.a (wM s)):Int)≤1000)∧wR (gU (ltD s.b0 s.b1) (bU (dZ s)).data s.a (wM s)) s.b0.length∧kX s.b0 s.b1)∧mJ (ltD s.b0 s.b1) (gU (ltD s.b0 s.b1) (bU (dZ s)).data s.a (wM s)) (wM s) (aSe ((nM s)-(aJ (aX s)).start))∧mJ (ltD s.b0 s.b1) (gU (ltD s.b0 s.b1) (bU (dZ s)).data s.a (wM s)) (aSe ((nM s)-(aJ (aX s)).start)) s.b
      try rw [hmid]
      rw [hn,he,hD];exact ⟨⟨by omega,c4.1,c4.2,by omega⟩,⟨⟨by omega,by omega⟩,elX,k3⟩,S.keep jy S.r3 (Int.le_refl _),S.keep jy S.r4 S.de⟩
     refine ⟨⟨rfl,by rw [hD,hlX,hl]⟩,⟨h2,by show (s.b-(wM s)).toNat<nn;rw [hmid];omega,rfl,rfl⟩,?_⟩
     exact congrArg (λz=>((.v (.tuple #[]):LV),kV {s with data:=z})) ((congrArg (λz=>gU (ltD s.b0 s.b1) (gU (ltD s.b0 s.b1) z s.a ((s.a+s.b) / 2)) ((s.a+s.b) / 2) s.b) hD).trans (S.main dw))
    ·have c4:¬((s.a+s.b) / 2<(s.a+s.b) / 2+s.m-(aJ (aX s)).start∧(s.a+s.b) / 2+s.m-(aJ (aX s)).start<s.b):=λh=>by
      rw [decide_eq_true h.1,decide_eq_true h.2] at c4;cases c4
     exact congrArg (λz=>((.v (.tuple #[]):LV),kV {s with data:=z})) ((congrArg (λz=>gU (ltD s.b0 s.b1) z s.a ((s.a+s.b) / 2)) hD).trans ((S.n2 dw c4).symm.trans (S.main dw)))
   ·have c3:¬(s.a<(aJ (aX s)).start∧(aJ (aX s)).start<(s.a+s.b) / 2):=λh=>by
     rw [decide_eq_true h.1,decide_eq_true h.2] at c3;cases c3
    refine ⟨λc4=>?_,λc4=>?_⟩
    ·rw [Bool.and_eq_true,decide_eq_true_eq,decide_eq_true_eq] at c4
     have h2:qi (Yg s):=by
      show (0≤(wM s)∧(wM s)<(aSe ((nM s)-(aJ (aX s)).start))∧(aSe ((nM s)-(aJ (aX s)).start))<s.b∧s.b≤(List.length (bU (dZ s)).data:Int))∧(((bU (dZ s)).data.length=s.b0.length∧(List.length (bU (dZ s)).data:Int)≤1000)∧wR (bU (dZ s)).data s.b0.length∧kX s.b0 s.b1)∧mJ (ltD s.b0 s.b1) (bU (dZ s)).data (wM s) (aSe ((nM s)-(aJ (aX s)).start))∧mJ (ltD s.b0 s.b1) (bU (dZ s)).data (aSe ((nM s)-(aJ (aX s)).start)) s.b
      try rw [hmid]
      rw [hn,he,hD];exact ⟨⟨by omega,c4.1,c4.2,by omega⟩,⟨⟨by omega,by omega⟩,elR',k3⟩,S.r3,S.r4⟩
     refine ⟨⟨rfl,by rw [hD,dW]⟩,⟨h2,by show (s.b-(wM s)).toNat<nn;rw [hmid];omega,rfl,rfl⟩,?_⟩
     exact congrArg (λz=>((.v (.tuple #[]):LV),kV {s with data:=z})) ((congrArg (λz=>gU (ltD s.b0 s.b1) z ((s.a+s.b) / 2) s.b) (hD.trans (S.n1 dw c3).symm)).trans (S.main dw))
    ·have c4:¬((s.a+s.b) / 2<(s.a+s.b) / 2+s.m-(aJ (aX s)).start∧(s.a+s.b) / 2+s.m-(aJ (aX s)).start<s.b):=λh=>by
      rw [decide_eq_true h.1,decide_eq_true h.2] at c4;cases c4
     exact congrArg (λz=>((.v (.tuple #[]):LV),kV {s with data:=z})) (hD.trans ((S.n1 dw c3).symm.trans ((S.n2 dw c4).symm.trans (S.main dw))))
  ·have c2:¬((aJ (aX s)).start<s.m∧s.m<(s.a+s.b) / 2+s.m-(aJ (aX s)).start):=λh=>by
    rw [decide_eq_true h.1,decide_eq_true h.2] at c2;cases c2
   have hD:s.data=fU s.data (aJ (aX s)).start s.m ((s.a+s.b) / 2+s.m-(aJ (aX s)).start):=(S.am8 c2).symm
   have hl:(fU s.data (aJ (aX s)).start s.m ((s.a+s.b) / 2+s.m-(aJ (aX s)).start)).length=s.data.length:=dW
   have hpR:=wK (l:=s.data) (s:=(aJ (aX s)).start) (m:=s.m) (e:=(s.a+s.b) / 2+s.m-(aJ (aX s)).start) (by omega) S.qm S.me (by omega)
   have elR':=jB hpR k2
   have hpX:=iO (lt:=ltD s.b0 s.b1) (l:=fU s.data (aJ (aX s)).start s.m ((s.a+s.b) / 2+s.m-(aJ (aX s)).start)) (a:=s.a) (b:=(s.a+s.b) / 2) (by omega)
   have elX:=jB hpX elR'
   have hlX:=hpX.length_eq
   refine ⟨λc3=>?_,λc3=>?_⟩
   ·rw [Bool.and_eq_true,decide_eq_true_eq,decide_eq_true_eq] at c3
    have h1:qi (Yf s):=by
     show (0≤s.a∧s.a<(aJ (aX s)).start∧(aJ (aX s)).start<(wM s)∧(wM s)≤(s.data.length:Int))∧((s.data.length=s.b0.length∧(s.data.length:Int)≤1000)∧wR s.data s.b0.length∧kX s.b0 s.b1)∧mJ (ltD s.b0 s.b1) s.data s.a (aJ (aX s)).start∧mJ (ltD s.b0 s.b1) s.data (aJ (aX s)).start (wM s)
     rw [hmid,hD];exact ⟨⟨e0,c3.1,c3.2,by omega⟩,⟨⟨by omega,by omega⟩,elR',k3⟩,S.r1,S.r2⟩
    refine ⟨aSf,⟨h1,by show ((wM s)-s.a).toNat<nn;rw [hmid];omega,rfl,rfl⟩,λc4=>?_,λc4=>?_⟩
    ·rw [Bool.and_eq_true,decide_eq_true_eq,decide_eq_true_eq] at c4
     have h2:qi (Ye s):=by
      show (0≤(wM s)∧(wM s)<(aSe ((nM s)-(aJ (aX s)).start))∧(aSe ((nM s)-(aJ (aX s)).start))<s.b∧s.b≤(List.length (gU (ltD s.b0 s.b1) s.data s.a (wM s)):Int))∧(((gU (ltD s.b0 s.b1) s.data s.a (wM s)).length=s.b0.length∧(List.length (gU (ltD s.b0 s.b1) s.data s.a (wM s)):Int)≤1000)∧wR (gU (ltD s.b0 s.b1) s.data s.a (wM s)) s.b0.length∧kX s.b0 s.b1)∧mJ (ltD s.b0 s.b1) (gU (ltD s.b0 s.b1) s.data s.a (wM s)) (wM s) (aSe ((nM s)-(aJ (aX s)).start))∧mJ (ltD s.b0 s.b1) (gU (ltD s.b0 s.b1) s.data s.a (wM s)) (aSe ((nM s)-(aJ (aX s)).start)) s.b
      try rw [hmid]
      rw [hn,he,hD];exact ⟨⟨by omega,c4.1,c4.2,by omega⟩,⟨⟨by omega,by omega⟩,elX,k3⟩,S.keep jy S.r3 (Int.le_refl _),S.keep jy S.r4 S.de⟩
     refine ⟨⟨rfl,by rw [hD,hlX,hl]⟩,⟨h2,by show (s.b-(wM s)).toNat<nn;rw [hmid];omega,rfl,rfl⟩,?_⟩
     exact congrArg (λz=>((.v (.tuple #[]):LV),kV {s with data:=z})) ((congrArg (λz=>gU (ltD s.b0 s.b1) (gU (ltD s.b0 s.b1) z s.a ((s.a+s.b) / 2)) ((s.a+s.b) / 2) s.b) hD).trans (S.main dw))
    ·have c4:¬((s.a+s.b) / 2<(s.a+s.b) / 2+s.m-(aJ (aX s)).start∧(s.a+s.b) / 2+s.m-(aJ (aX s)).start<s.b):=λh=>by
      rw [decide_eq_true h.1,decide_eq_true h.2] at c4;cases c4
     exact congrArg (λz=>((.v (.tuple #[]):LV),kV {s with data:=z})) ((congrArg (λz=>gU (ltD s.b0 s.b1) z s.a ((s.a+s.b) / 2)) hD).trans ((S.n2 dw c4).symm.trans (S.main dw)))
   ·have c3:¬(s.a<(aJ (aX s)).start∧(aJ (aX s)).start<(s.a+s.b) / 2):=λh=>by
     rw [decide_eq_true h.1,decide_eq_true h.2] at c3;cases c3
    refine ⟨λc4=>?_,λc4=>?_⟩
    ·rw [Bool.and_eq_true,decide_eq_true_eq,decide_eq_true_eq] at c4
     have h2:qi (Yd s):=by
      show (0≤(wM s)∧(wM s)<(aSe ((nM s)-(aJ (aX s)).start))∧(aSe ((nM s)-(aJ (aX s)).start))<s.b∧s.b≤(s.data.length:Int))∧((s.data.length=s.b0.length∧(s.data.length:Int)≤1000)∧wR s.data s.b0.length∧kX s.b0 s.b1)∧mJ (ltD s.b0 s.b1) s.data (wM s) (aSe ((nM s)-(aJ (aX s)).start))∧mJ (ltD s.b0 s.b1) s.data (aSe ((nM s)-(aJ (aX s)).start)) s.b
      try rw [hmid]
      rw [hn,he,hD];exact ⟨⟨by omega,c4.1,c4.2,by omega⟩,⟨⟨by omega,by omega⟩,elR',k3⟩,S.r3,S.r4⟩
     refine ⟨aSf,⟨h2,by show (s.b-(wM s)).toNat<nn;rw [hmid];omega,rfl,rfl⟩,?_⟩
     exact congrArg (λz=>((.v (.tuple #[]):LV),kV {s with data:=z})) ((congrArg (λz=>gU (ltD s.b0 s.b1) z ((s.a+s.b) / 2) s.b) (hD.trans (S.n1 dw c3).symm)).trans (S.main dw))
    ·have c4:¬((s.a+s.b) / 2<(s.a+s.b) / 2+s.m-(aJ (aX s)).start∧(s.a+s.b) / 2+s.m-(aJ (aX s)).start<s.b):=λh=>by
      rw [decide_eq_true h.1,decide_eq_true h.2] at c4;cases c4
     exact congrArg (λz=>((.v (.tuple #[]):LV),kV {s with data:=z})) (hD.trans ((S.n1 dw c3).symm.trans ((S.n2 dw c4).symm.trans (S.main dw))))
set_option maxRecDepth 100000 in
theorem aIP:∀n,uO Tryz.prog aP 121 (uN.m n):=@CpD.sound Tryz.prog aP BV dJ uN Hw 121 9 ari atX aEQ
theorem aiB:uO Tryz.prog aP 121 uN.mm:=CpD.amF aIP
structure mM where
 n:Int
 aK:Int
 a:Int
 b:Int
 b0:List Dm
 b1:Int
 data:List Int
def aPK (s:mM):List LV:=[.os 2 1 0 (s.data.length),.v (.int .i64 s.n),.fn 45 [.own 0 0,.own 3 0],.v (.int .i64 s.aK),.v (.int .i64 s.a),.v (.int .i64 s.b)]
def aOs (s:mM):List aZ:=[⟨[.xl jr s.b0],31,.cl,false⟩,⟨[.v (.int .i64 s.b1)],3,.cl,false⟩,⟨[],3,.vec aSg s.data,false⟩,⟨[.fn 43 [.own 0 0,.own 1 0]],84,.cl,false⟩]
def NV:Code:=((ax (((ax (Tryz.f84.body.getD .skip))[1]?).getD .skip))[0]?).getD .skip
def Yc (s:mM):dJ:=(⟨s.a,(aSe (s.a+s.aK)),s.b,s.b0,s.b1,s.data⟩:dJ)
def Xv (s:mM):T (Rd mM):=
 .br (decide (s.b≤s.n)) (.rl s.data (.req (auh (Yc s)) (.req (0=0∧(s.data.length)=List.length (gU (ltD s.b0 s.b1) s.data s.a s.b)) (.ok (.next {s with a:=s.b,b:=(aSe (s.b+(aSe (2*s.aK)))),data:=(gU (ltD s.b0 s.b1) s.data s.a s.b)}))))) (.rl s.data (.ok (.stop (.exit 4) s)))
abbrev ahn (s:mM):=(Xv s).rd s
def aaE (s:mM):Prop:=(bsP s.aK∧s.a=0∧s.b=2*s.aK)∧s.n=(s.data.length:Int)∧((s.data.length=s.b0.length∧(s.data.length:Int)≤1000)∧wR s.data s.b0.length∧kX s.b0 s.b1)∧blk (ltD s.b0 s.b1) s.data s.aK s.n
def F6 (s:mM):Prop:=(bsP s.aK∧(0≤s.a∧s.a%(2*s.aK)=0)∧s.a≤s.n∧s.b=s.a+2*s.aK)∧s.n=(s.data.length:Int)∧((s.data.length=s.b0.length∧(s.data.length:Int)≤1000)∧wR s.data s.b0.length∧kX s.b0 s.b1)∧mrI (ltD s.b0 s.b1) s.data s.aK s.a s.n
def UG (s:mM):Nat:=(s.n-s.a).toNat
def as4 (x:Ex) (_ s':mM):Prop:=x=.exit 4∧F6 s'∧s'.n<s'.b
theorem aLf:∀s,aaE s→F6 s:=by
 intro s h;obtain ⟨⟨h0,h1,h2⟩,h3,h4,h5⟩:=h;exact ⟨⟨h0,⟨by omega,by rw [h1];exact Int.zero_emod _⟩,by omega,by omega⟩,h3,h4,by rw [h1];exact aMM h5⟩
theorem aEM (s:mM) (hI:F6 s):s.a≤s.b:=by
 obtain ⟨⟨h0,⟨h1,h2⟩,h3,h4⟩,h5,⟨⟨k0,k1⟩,k2,k3⟩,h6⟩:=hI
 have hb:20≤s.aK∧s.aK≤80:=by rcases h0 with e|e|e<;>rw [e]<;>omega
 omega
theorem amy (s:mM) (hI:F6 s) (c1:s.b≤s.n):qi (Yc s):=by
 obtain ⟨⟨h0,⟨h1,h2⟩,h3,h4⟩,h5,⟨⟨k0,k1⟩,k2,k3⟩,h6⟩:=hI
 have hb:20≤s.aK∧s.aK≤80:=by rcases h0 with e|e|e<;>rw [e]<;>omega
 have ew:aSe (s.a+s.aK)=s.a+s.aK:=aH
 show (0≤s.a∧s.a<aSe (s.a+s.aK)∧aSe (s.a+s.aK)<s.b∧s.b≤(s.data.length:Int))∧((s.data.length=s.b0.length∧(s.data.length:Int)≤1000)∧wR s.data s.b0.length∧kX s.b0 s.b1)∧mJ (ltD s.b0 s.b1) s.data s.a (aSe (s.a+s.aK))∧mJ (ltD s.b0 s.b1) s.data (aSe (s.a+s.aK)) s.b
 rw [ew];exact ⟨⟨h1,by omega,by omega,by omega⟩,⟨⟨k0,k1⟩,k2,k3⟩,aBs h0 h1 h2 (by omega) (Int.le_refl _) h6,aBr h0 h1 h2 c1 (by omega) h6⟩
theorem aEL (s:mM) (hI:F6 s):bJ (λs'=>F6 s'∧UG s'<UG s) (λx s'=>as4 x s s') (ahn s):=by
 unfold ahn Xv;dsimp only [T.rd,T.rl]
 have hin:=λc1=>amy s hI c1
 have hI':=hI
 obtain ⟨⟨h0,⟨h1,h2⟩,h3,h4⟩,h5,⟨⟨k0,k1⟩,k2,k3⟩,h6⟩:=hI
 have hb:20≤s.aK∧s.aK≤80:=by rcases h0 with e|e|e<;>rw [e]<;>omega
 refine ai (λc1=>?_) (λc1=>⟨rfl,hI',by simpa using c1⟩)
 have c1:s.b≤s.n:=by simpa using c1
 rw [aH (x:=2*s.aK),aH (x:=s.b+2*s.aK)]
 have hp:=iO (lt:=ltD s.b0 s.b1) (l:=s.data) (a:=s.a) (b:=s.b) (by omega)
 have hm:s.b%(2*s.aK)=0:=by
  rw [h4,Int.add_emod_right];exact h2
 exact ⟨⟨⟨h0,⟨by simp only;omega,hm⟩,c1,by simp only⟩,by simp only [hp.length_eq];exact h5,⟨⟨by simp only [hp.length_eq];exact k0,by simp only [hp.length_eq];exact k1⟩,jB hp k2,k3⟩,(show mrI (ltD s.b0 s.b1) (gU (ltD s.b0 s.b1) s.data s.a s.b) s.aK s.b s.n from ap9 jy h0 h1 h2 c1 (by omega) h4 h6)⟩,by simp only [UG];omega⟩
def Py:bK mM:=⟨4,63,[0,1,2,6,7,8],[],aPK,aOs,λv b=>⟨gI (v.getD 1 .junk),gI (v.getD 3 .junk),gI (v.getD 4 .junk),gI (v.getD 5 .junk),aU jr (bn (aT b 0) 0),gI (bn (aT b 1) 0),iW aSg (aT b 2)⟩,Xv,λs r=> {r with n:=s.n,aK:=s.aK,b0:=s.b0,b1:=s.b1},λs=>s,λ_ s=>s,[.exit 4],aaE,F6,UG⟩
abbrev bZ:=Py.run
abbrev ahZ:=Py.jf
abbrev aJi:=Py.q
def G5:Specs:=aW [(43,nX),(45,wW)]
theorem Nv:∀g S,G5 g=some S→Valid Tryz.prog aP g S:=aS (l:=[(43,nX),(45,wW)]) ⟨BB,Qw,trivial⟩
def Wi:Hand:=Wh Tryz.prog aP G5 (dK 143 4 2 (Xe.lp) (dK 158 4 1 (Qp.lp) (dK 121 4 33 (Px.lp) (dK 121 4 21 (J4.lp) (dK 121 4 15 (Hz.lp) (dK 121 4 9 (Gg.lp) (dK 121 4 3 (CU.lp) (dK 84 4 2 (sK.lp) (dK 120 4 1 (rH.lp) (jT Tryz.prog aP (G5) 20 2)))))))))) (CpD.one 121 uN.mm) 9
theorem acI:dn Tryz.prog aP Wi:=xP Nv (bg Tryz.func143 rfl (by kernel_rfl) abb (bg Tryz.func158 rfl (by kernel_rfl) Uh (bg Tryz.func121 rfl (by kernel_rfl) Lp (bg Tryz.func121 rfl (by kernel_rfl) Gm (bg Tryz.func121 rfl (by kernel_rfl) BJ (bg Tryz.func121 rfl (by kernel_rfl) yU (bg Tryz.func121 rfl (by kernel_rfl) xC (bg Tryz.func84 rfl (by kernel_rfl) qA (bg Tryz.func120 rfl (by kernel_rfl) oU (dD Nv)))))))))) (CpD.y9 aiB) 9
theorem aFk (s:mM) (hI:F6 s):(Xv s).all (λ_=>True):=by
 refine ⟨λc1=>⟨aSf,?_,?_,trivial⟩,λc1=>⟨aSf,trivial⟩⟩
 ·exact ⟨amy s hI (by simpa using c1),rfl,rfl⟩
 ·(have hb:=aEM s hI;refine ⟨rfl,?_⟩;exact (sO hb).symm)
theorem abV:Py.Ok:={}
theorem abx:Py.Pf (as4):=⟨aLf,λ_ _=>rfl,aEL,aFk⟩
theorem avj:bC Tryz.prog aP (AN 4) (.loop NV) Py.lp:=bK.snd abV abx (bI (Γ:=G5) (K:=Wi) (L:=(ql Tryz.prog aP G5 Wi 20 2)) Nv acI NV (λb _=>dA Nv acI 20 2 b)) (λs=>by kernel_rfl)
theorem au9 (s:mM) (hE:aaE s):∃s',F6 s'∧as4 (ahZ s) s' (bZ s):=bK.fin abV abx s hE
theorem au8 (s:mM) (hE:aaE s):(λ(x:Ex) (s':mM) (v:List Int)=>x=.exit 4∧sortB (ltD s'.b0 s'.b1) s'.data=v) (ahZ s) (bZ s) ((λs:mM=>sortB (ltD s.b0 s.b1) s.data) s):=by
 exact bK.mD abV abx (λs:mM=>sortB (ltD s.b0 s.b1) s.data) (λx s' v=>x=.exit 4∧sortB (ltD s'.b0 s'.b1) s'.data=v) (λs hI=>by
  show bJ _ _ (ahn s)
  unfold ahn Xv;dsimp only [T.rd,T.rl];obtain ⟨⟨h0,⟨h1,h2⟩,h3,h4⟩,h5,⟨⟨k0,k1⟩,k2,k3⟩,h6⟩:=hI
  have hb:20≤s.aK∧s.aK≤80:=by rcases h0 with e|e|e<;>rw [e]<;>omega
  refine ai (λc1=>?_) (λc1=>⟨rfl,rfl⟩)
  exact qy dw (iO (by omega))) s hE
structure kS where
 n:Int
 aK:Int
 b0:List Dm
 b1:Int
 data:List Int
def aPL (s:kS):List LV:=[.os 2 1 0 (s.data.length),.v (.int .i64 s.n),.fn 45 [.own 0 0,.own 3 0],.v (.int .i64 s.aK)]
def aOt (s:kS):List aZ:=[⟨[.xl jr s.b0],31,.cl,false⟩,⟨[.v (.int .i64 s.b1)],3,.cl,false⟩,⟨[],3,.vec aSg s.data,false⟩,⟨[.fn 43 [.own 0 0,.own 1 0]],84,.cl,false⟩]
def Zz:Code:=((ax (Tryz.f84.body.getD .skip))[1]?).getD .skip
def bM (s:kS):mM:=(⟨s.n,s.aK,(0:Int),(aSe (2*s.aK)),s.b0,s.b1,s.data⟩:mM)
def Yb (s:kS):dJ:=(⟨(bZ (bM s)).a,(aSe ((bZ (bM s)).a+s.aK)),s.n,s.b0,s.b1,(bZ (bM s)).data⟩:dJ)
def Xw (s:kS):T (Rd kS):=
 .br (decide (s.aK<s.n)) (.rl s.data (.req (aJi (bM s)) (.br (decide ((aSe ((bZ (bM s)).a+s.aK))<s.n)) (.rl (bZ (bM s)).data (.req (auh (Yb s)) (.req (0=0∧(List.length (bZ (bM s)).data)=List.length (gU (ltD s.b0 s.b1) (bZ (bM s)).data (bZ (bM s)).a s.n)) (.ok (.next {s with aK:=(aSe (s.aK*2)),data:=(gU (ltD s.b0 s.b1) (bZ (bM s)).data (bZ (bM s)).a s.n)}))))) (.rl (bZ (bM s)).data (.ok (.next {s with aK:=(aSe (s.aK*2)),data:=(bZ (bM s)).data})))))) (.rl s.data (.ok (.stop (.exit 2) s)))
abbrev aho (s:kS):=(Xw s).rd s
def aaF (s:kS):Prop:=s.aK=20∧(s.n=(s.data.length:Int)∧s.n≤100)∧((s.data.length=s.b0.length∧(s.data.length:Int)≤1000)∧wR s.data s.b0.length∧kX s.b0 s.b1)∧blk (ltD s.b0 s.b1) s.data 20 s.n
def Bq (s:kS):Prop:=(bsP s.aK∨s.aK=160)∧(s.n=(s.data.length:Int)∧s.n≤100)∧((s.data.length=s.b0.length∧(s.data.length:Int)≤1000)∧wR s.data s.b0.length∧kX s.b0 s.b1)∧blk (ltD s.b0 s.b1) s.data s.aK s.n
def MB (s:kS):Nat:=(s.n-s.aK).toNat
def as5 (x:Ex) (_ s':kS):Prop:=x=.exit 2∧mJ (ltD s'.b0 s'.b1) s'.data 0 s'.n
theorem aLh:∀s,aaF s→Bq s:=by
 intro s h;obtain ⟨h0,h1,h2,h3⟩:=h;exact ⟨.inl (.inl h0),h1,h2,by rw [h0];exact h3⟩
theorem amB (s:kS) (hI:Bq s) (c1:s.aK<s.n):bsP s.aK:=by
 obtain ⟨h0,⟨h1,h2⟩,_⟩:=hI;rcases h0 with h0|h0
 ·exact h0
 ·omega
theorem amz (s:kS) (hI:Bq s) (c1:s.aK<s.n):aaE (bM s):=by
 have hb:=amB s hI c1
 obtain ⟨h0,⟨h1,h2⟩,hk,h3⟩:=hI;exact ⟨⟨hb,rfl,by show aSe (2*s.aK)=2*s.aK;exact aH⟩,h1,hk,h3⟩
theorem afN (s:kS) (hI:Bq s) (c1:s.aK<s.n):letI c:=bZ (bM s);letI d:=ltD s.b0 s.b1;bsP s.aK∧0≤c.a∧c.a%(2*s.aK)=0∧(c.a≤s.n∧s.n<c.a+2*s.aK∧20≤s.aK∧s.aK≤80)∧(s.n=(List.length c.data:Int)∧c.data.length=s.b0.length∧s.n≤100)∧wR c.data s.b0.length∧sortB d c.data=sortB d s.data∧mrI d c.data s.aK c.a s.n:=by
 have hb:=amB s hI c1
 have hb2:20≤s.aK∧s.aK≤80:=by rcases hb with e|e|e<;>rw [e]<;>omega
 have hE:=amz s hI c1
 obtain ⟨_,_,_,g1,g2⟩:=au9 _ hE
 have g3:sortB (ltD s.b0 s.b1) (bZ (bM s)).data=sortB (ltD s.b0 s.b1) s.data:=(au8 _ hE).2
 obtain ⟨⟨g4,⟨g5,g6⟩,g7,g8⟩,g9,⟨⟨ga,gb⟩,gc,_⟩,gd⟩:=g1
 have g2:s.n<(bZ (bM s)).b:=g2
 have g7:(bZ (bM s)).a≤s.n:=g7
 have g8:(bZ (bM s)).b=(bZ (bM s)).a+2*s.aK:=g8
 exact ⟨hb,g5,g6,⟨g7,by omega,hb2.1,hb2.2⟩,⟨g9,ga,hI.2.1.2⟩,gc,g3,gd⟩
theorem aLg (s:kS) (hI:Bq s) (c1:s.aK<s.n) (c2:decide (aSe ((bZ (bM s)).a+s.aK)<s.n)=true):qi (Yb s):=by
 obtain ⟨q0,q1,q2,q3,q4,q5,q6,q7⟩:=afN s hI c1
 have ea:aSe ((bZ (bM s)).a+s.aK)=(bZ (bM s)).a+s.aK:=aH
 rw [ea,decide_eq_true_eq] at c2
 show (0≤(bZ (bM s)).a∧(bZ (bM s)).a<aSe ((bZ (bM s)).a+s.aK)∧aSe ((bZ (bM s)).a+s.aK)<s.n∧s.n≤(List.length (bZ (bM s)).data:Int))∧(((bZ (bM s)).data.length=s.b0.length∧(List.length (bZ (bM s)).data:Int)≤1000)∧wR (bZ (bM s)).data s.b0.length∧kX s.b0 s.b1)∧mJ (ltD s.b0 s.b1) (bZ (bM s)).data (bZ (bM s)).a (aSe ((bZ (bM s)).a+s.aK))∧mJ (ltD s.b0 s.b1) (bZ (bM s)).data (aSe ((bZ (bM s)).a+s.aK)) s.n
 rw [ea];exact ⟨⟨q1,by omega,c2,by omega⟩,⟨⟨q4.2.1,by omega⟩,q5,hI.2.2.1.2.2⟩,aBs q0 q1 q2 (by omega) (Int.le_refl _) q7,aBr q0 q1 q2 (Int.le_refl _) (by omega) q7⟩
theorem aEN (s:kS) (hI:Bq s):bJ (λs'=>Bq s'∧MB s'<MB s) (λx s'=>as5 x s s') (aho s):=by
 unfold aho Xw;dsimp only [T.rd,T.rl]
 have ui:=λc1=>afN s hI c1
 obtain ⟨h0,⟨h1,h2⟩,⟨⟨k0,k1⟩,k2,k3⟩,h3⟩:=hI;refine ai (λc1=>?_) (λc1=>?_)
 ·have c1:s.aK<s.n:=by simpa using c1
  obtain ⟨q0,q1,q2,q3,q4,q5,q6,q7⟩:=ui c1
  have hw:aSe (s.aK*2)=2*s.aK:=by
   rw [aH (x:=s.aK*2)];omega
  have hb2:bsP (2*s.aK)∨2*s.aK=160:=by
   show (2*s.aK=20∨2*s.aK=40∨2*s.aK=80)∨2*s.aK=160
   rcases q0 with e|e|e<;>omega
  have ea:aSe ((bZ (bM s)).a+s.aK)=(bZ (bM s)).a+s.aK:=aH
  rw [hw,ea];refine ai (λc2=>?_) (λc2=>?_)
  ·have hp:=iO (lt:=ltD s.b0 s.b1) (l:=(bZ (bM s)).data) (a:=(bZ (bM s)).a) (b:=s.n) (by omega)
   have hl:=hp.length_eq
   exact ⟨⟨hb2,⟨by simp only [hl];omega,h2⟩,⟨⟨by simp only [hl];omega,by simp only [hl];omega⟩,jB hp q5,k3⟩,aqa jy q0 q1 q2 (by omega) (by omega) (by omega) q7⟩,by simp only [MB];omega⟩
  ·have c2:s.n≤(bZ (bM s)).a+s.aK:=by simpa using c2
   exact ⟨⟨hb2,⟨by simp only;omega,h2⟩,⟨⟨by simp only;omega,by simp only;omega⟩,q5,k3⟩,aqb q0 q1 q2 c2 q7⟩,by simp only [MB];omega⟩
 ·have c1:s.n≤s.aK:=by simpa using c1
  exact ⟨rfl,aAw h0 c1 h3⟩
def Pz:bK kS:=⟨4,63,[0,1,2,6],[],aPL,aOt,λv b=>⟨gI (v.getD 1 .junk),gI (v.getD 3 .junk),aU jr (bn (aT b 0) 0),gI (bn (aT b 1) 0),iW aSg (aT b 2)⟩,Xw,λs r=> {r with n:=s.n,b0:=s.b0,b1:=s.b1},λs=>s,λ_ s=>s,[.exit 2],aaF,Bq,MB⟩
abbrev qB:=Pz.run
abbrev ah0:=Pz.jf
abbrev aJj:=Pz.q
theorem aFl (s:kS) (hI:Bq s):(Xw s).all (λ_=>True):=by
 refine ⟨λc1=>⟨aSf,?_,λc2=>⟨aSf,?_,?_,trivial⟩,λc2=>⟨aSf,trivial⟩⟩,λc1=>⟨aSf,trivial⟩⟩
 ·exact ⟨amz s hI (by simpa using c1),rfl,rfl⟩
 ·exact ⟨aLg s hI (by simpa using c1) c2,rfl,rfl⟩
 ·(obtain ⟨q0,q1,q2,q3,q4,q5,q6,q7⟩:=afN s hI (by simpa using c1);refine ⟨rfl,?_⟩;exact (sO (by omega)).symm)
theorem abW:Pz.Ok:={}
theorem aby:Pz.Pf (as5):=⟨aLh,λ_ _=>rfl,aEN,aFl⟩
theorem avk:bC Tryz.prog aP (AN 4) (.loop Zz) Pz.lp:=bK.snd abW aby (bI (Γ:=G5) (K:=Wi) (L:=(alA (λi=>if i=9 then Py.lp else ay i))) Nv acI Zz (λb hb=>by
 rw [show ax _=[NV] by kernel_rfl] at hb
 simp only [List.mem_cons,List.not_mem_nil,or_false] at hb;subst hb;exact avj)) (λs=>by kernel_rfl)
theorem avb (s:kS) (hE:aaF s):∃s',Bq s'∧as5 (ah0 s) s' (qB s):=bK.fin abW aby s hE
theorem ava (s:kS) (hE:aaF s):(λ(x:Ex) (s':kS) (v:List Int)=>x=.exit 2∧sortB (ltD s'.b0 s'.b1) s'.data=v) (ah0 s) (qB s) ((λs:kS=>sortB (ltD s.b0 s.b1) s.data) s):=by
 exact bK.mD abW aby (λs:kS=>sortB (ltD s.b0 s.b1) s.data) (λx s' v=>x=.exit 2∧sortB (ltD s'.b0 s'.b1) s'.data=v) (λs hI=>by
  show bJ _ _ (aho s)
  unfold aho Xw;dsimp only [T.rd,T.rl]
  have ui:=λc1=>afN s hI c1
  refine ai (λc1=>?_) (λc1=>⟨rfl,rfl⟩)
  have c1:s.aK<s.n:=by simpa using c1
  obtain ⟨q0,q1,q2,q3,q4,q5,q6,q7⟩:=ui c1;refine ai (λc2=>?_) (λc2=>q6)
  exact (qy dw (iO (by omega))).trans q6) s hE
def ajH:List LV→T LV
 | [.xl (.pair .bool (.pair (.int .i64) (.pair (.int .i64) (.int .i64)))) d,.v (.int .i64 t)]=> .req (kX d t∧d.length≤100) (.ok (.xl aSg (iK d t)))
 |_=> .no
def CO:List LV→T LV:=gZ Tryz.prog Tryz.f19.params.toList ajH
def iy (d:List Dm) (t:Int):mO:=(⟨((List.length (iC (fG d t)).out:Nat):Int),(20:Int),(0:Int),(20:Int),d,t,(iC (fG d t)).out⟩:mO)
def mZ (d:List Dm) (t:Int):lV:=(⟨(iZ (iy d t)).a,((List.length (iC (fG d t)).out:Nat):Int),(aSe ((iZ (iy d t)).a+1)),d,t,(iZ (iy d t)).data⟩:lV)
def mY (d:List Dm) (t:Int):kS:=(⟨((List.length (iC (fG d t)).out:Nat):Int),(20:Int),d,t,(jl (mZ d t)).data⟩:kS)
def Ws:Specs:=aW [(43,nX),(45,wW)]
theorem acY:∀g S,Ws g=some S→Valid Tryz.prog aP g S:=aS (l:=[(43,nX),(45,wW)]) ⟨BB,Qw,trivial⟩
def aqY:Hand:=Wh Tryz.prog aP Ws (dK 84 4 7 (Pz.lp) (dK 143 4 2 (Xe.lp) (dK 158 4 1 (Qp.lp) (dK 121 4 33 (Px.lp) (dK 121 4 21 (J4.lp) (dK 121 4 15 (Hz.lp) (dK 121 4 9 (Gg.lp) (dK 121 4 3 (CU.lp) (dK 84 4 2 (sK.lp) (dK 120 4 1 (rH.lp) (jT Tryz.prog aP (Ws) 20 2))))))))))) (CpD.one 121 uN.mm) 9
theorem aH0:dn Tryz.prog aP aqY:=xP acY (bg Tryz.func84 rfl (by kernel_rfl) avk (bg Tryz.func143 rfl (by kernel_rfl) abb (bg Tryz.func158 rfl (by kernel_rfl) Uh (bg Tryz.func121 rfl (by kernel_rfl) Lp (bg Tryz.func121 rfl (by kernel_rfl) Gm (bg Tryz.func121 rfl (by kernel_rfl) BJ (bg Tryz.func121 rfl (by kernel_rfl) yU (bg Tryz.func121 rfl (by kernel_rfl) xC (bg Tryz.func84 rfl (by kernel_rfl) qA (bg Tryz.func120 rfl (by kernel_rfl) oU (dD acY))))))))))) (CpD.y9 aiB) 9
theorem ays (d:List Dm) (t:Int):letI a:=(d.length:Int);letI b:=List.length (iC (fG d t)).out;cO Tryz.prog aP (Ws) aqY (λi=>if i=3 then Jv.lp else ay i) Tryz.f19 [.xl jr d,.v (.int .i64 t)]=.req (0≤a∧a≤a∧8*a≤2^48∧a<2^63) (.req (0=0∧a.toNat=List.length (List.replicate a.toNat (0:Int))) (.req (aJY (fG d t)) (.rl (iC (fG d t)).out (.req (aJk (iy d t)) (.rl (iZ (iy d t)).data (.req (auF (mZ d t)) (.req (0=0∧(List.length (iZ (iy d t)).data)=List.length (jl (mZ d t)).data) (.req (aJj (mY d t)) (.req (0+b≤List.length (qB (mY d t)).data) (.ok (.xl aSg (((qB (mY d t)).data.drop 0).take b)))))))))))):=by kernel_rfl
theorem aa5:Valid Tryz.prog aP 19 CO:=aI Tryz.func19 rfl acY aH0 (L:=(λi=>if i=3 then Jv.lp else ay i)) (λb hb=>by
 rw [show ax _=[EZ] by kernel_rfl] at hb
 simp only [List.mem_cons,List.not_mem_nil,or_false] at hb;subst hb;exact av2) (λargs lv h=>by
 unfold ajH at h;split at h
 ·simp only [canL,canX]
  rw [ays];rename_i d t;obtain ⟨⟨hw,hd⟩,rfl⟩:=h
  have hE:akC (fG d t):=⟨rfl,by show List.replicate (d.length:Int).toNat (0:Int)=List.replicate d.length 0;rw [Int.toNat_natCast],by show (((d.length:Int).toNat:Nat):Int)=(d.length:Int);omega,by show (((d.length:Int).toNat:Nat):Int)≤1000;omega,by show (List.replicate _ (0:Int)).length=d.length;rw [List.length_replicate];omega⟩
  obtain ⟨_,_,_,q1⟩:=axp _ hE
  have q1:(iC (fG d t)).out=BM d.length:=q1
  have hl:(iC (fG d t)).out.length=d.length:=by rw [q1,Dw]
  have hE2:aaG (iy d t):=⟨⟨rfl,rfl,rfl⟩,rfl,⟨hl,by show ((iC (fG d t)).out.length:Int)≤1000;omega⟩,λx hx=>LK.1 (by have hx:x∈(iC (fG d t)).out:=hx;rw [q1] at hx;exact hx),hw⟩
  obtain ⟨_,_,g0,g1,g2⟩:=avd _ hE2
  have q2:sortB (ltD d t) (iZ (iy d t)).data=sortB (ltD d t) (iC (fG d t)).out:=(avc _ hE2).2
  obtain ⟨⟨g3,g4,⟨g5,g6⟩,g7⟩,g8,⟨⟨ga,gb⟩,gc,_⟩,gd⟩:=g1
  have g7:(iZ (iy d t)).a≤((List.length (iC (fG d t)).out:Nat):Int):=g7
  have g8:((List.length (iC (fG d t)).out:Nat):Int)=(List.length (iZ (iy d t)).data:Int):=g8
  have g2:((List.length (iC (fG d t)).out:Nat):Int)<(iZ (iy d t)).b:=g2
  have ga:(iZ (iy d t)).data.length=d.length:=ga
  have hE3:Po (mZ d t):=⟨by show aSe ((iZ (iy d t)).a+1)=(iZ (iy d t)).a+1;exact aH,⟨⟨g5,g7⟩,by show ((List.length (iC (fG d t)).out:Nat):Int)≤(List.length (iZ (iy d t)).data:Int);omega⟩,⟨ga,gb⟩,gc,hw⟩
  have q3:(jl (mZ d t)).data=gU (ltD d t) (iZ (iy d t)).data (iZ (iy d t)).a ((List.length (iC (fG d t)).out:Nat):Int):=(KD _ hE3).2
  have hp:=iO (lt:=ltD d t) (l:=(iZ (iy d t)).data) (a:=(iZ (iy d t)).a) (b:=((List.length (iC (fG d t)).out:Nat):Int)) g7
  rw [←q3] at hp
  have hl3:(jl (mZ d t)).data.length=d.length:=hp.length_eq.trans ga
  have hE4:aaF (mY d t):=⟨rfl,⟨by show ((List.length (iC (fG d t)).out:Nat):Int)=(List.length (jl (mZ d t)).data:Int);omega,by show ((List.length (iC (fG d t)).out:Nat):Int)≤100;omega⟩,⟨⟨hl3,by show ((jl (mZ d t)).data.length:Int)≤1000;omega⟩,jB hp gc,hw⟩,by
   show blk (ltD d t) (jl (mZ d t)).data 20 ((List.length (iC (fG d t)).out:Nat):Int)
   rw [q3];exact asb jy g5 g6 g7 (by omega) (by omega) gd⟩
  obtain ⟨_,_,_,q4⟩:=avb _ hE4
  have q5:sortB (ltD d t) (qB (mY d t)).data=sortB (ltD d t) (jl (mZ d t)).data:=(ava _ hE4).2
  have hl5:(qB (mY d t)).data.length=d.length:=by
   have e:=congrArg List.length q5
   rw [tu,tu] at e;omega
  have q4:mJ (ltD d t) (qB (mY d t)).data 0 ((qB (mY d t)).data.length:Int):=by
   have q4:mJ (ltD d t) (qB (mY d t)).data 0 ((List.length (iC (fG d t)).out:Nat):Int):=q4
   rwa [hl,←hl5] at q4
  have q6:(qB (mY d t)).data=iK d t:=by
   rw [←akY dw q4,q5,qy dw hp,q2,q1];rfl
  refine ⟨⟨by omega,by omega,by omega,by omega⟩,⟨rfl,by simp⟩,⟨hE,rfl,rfl⟩,aSf,⟨hE2,rfl,rfl⟩,aSf,⟨hE3,rfl,rfl⟩,⟨rfl,by rw [ga,hl3]⟩,⟨hE4,rfl,rfl⟩,by omega,?_⟩
  show LV.xl _ _=_
  rw [List.drop_zero,hl,←hl5,List.take_length,q6]
 ·cases h)
structure nK where
 rs:List Ra
 tick:Int
 n:Int
 t15:Int
 offers:List Int
 m:List Ch
 k:Int
 i:Int
 adt:List Cd
 c1:List ByteArray
 c2:List Ko
 c3:List Ch
 c4:List Ba
 kR:List Le
 Hg:List Dm
 yg:Int
 WI:List Int
 fE:List Int
 next:List Ra
 bP:List Le
def aQS (s:nK):List LV:=[.xl yu s.rs,.v (.int .i64 s.tick),.v (.int .i64 s.n),.v (.slice none 0 0),.v (.slice none 0 0),.v (.slice none 0 0),.v (.int .i64 s.t15),.own 0 0,.xl aSg s.offers,.os 1 1 0 (s.fE.length),.os 2 2 0 (s.next.length),.os 3 5 0 (s.bP.length),.xl dP s.m,.v (.int .i64 s.k),.v (.int .i64 s.i)]
def aPA (s:nK):List aZ:=[⟨[.xl dY s.adt,.xl .str s.c1,.xl fC s.c2,.xl dP s.c3,.xl fD s.c4,.xl kY s.kR,.xl jr s.Hg,.v (.int .i64 s.yg),.xl aSg s.WI],75,.cl,true⟩,⟨[],3,.vec aSg s.fE,false⟩,⟨[],53,.vec yu s.next,false⟩,⟨[],63,.vec kY s.bP,false⟩]
def FH:Code:=((ax (Tryz.f14.body.getD .skip))[0]?).getD .skip
def Ub (s:nK) (e:Int) (w:Bool) (x:Int) (y:Int):T (Rd nK):=
 .br (decide (s.i<s.k)) (.req (0≤s.i∧s.i<(s.m.length:Int)) (.req (0≤s.i∧s.i<(s.rs.length:Int)) (.req (0≤s.i∧s.i<(s.offers.length:Int)) (.br (e !=0) (.rl s.fE (.rl s.next (.rl s.bP (.ok (.stop (.ret) {s with t15:=(1:Int)}))))) (.req (0≤s.i∧s.i<((s.fE.length:Nat):Int)) (.req (s.i.toNat<s.fE.length) (.req (0≤s.i∧s.i<((s.next.length:Nat):Int)) (.req (s.i.toNat<s.next.length) (.req ((0≤s.i∧s.i<(s.c3.length:Int))∧(s.kR.length:Int)≤1000∧0≤s.yg∧s.yg≤1000000) (.br w (.req (0+(s.bP.length)=s.bP.length∧((s.bP.length+List.length ([(s.n,(s.i,(x,(s.tick,(12:Int)))))]):Nat):Int)*40≤2^47∧((s.bP.length+List.length ([(s.n,(s.i,(x,(s.tick,(12:Int)))))]):Nat):Int)<2^62) (.req (0=0∧(s.fE.length)=List.length (s.fE.set s.i.toNat x)) (.req (0=0∧(s.next.length)=List.length (s.next.set s.i.toNat (x,y))) (.req (0=0∧(s.bP.length+List.length ([(s.n,(s.i,(x,(s.tick,(12:Int)))))]))=List.length (s.bP++([(s.n,(s.i,(x,(s.tick,(12:Int)))))]))) (.ok (.next {s with n:=(aSe (s.n+1)),i:=(aSe (s.i+1)),fE:=(s.fE.set s.i.toNat x),next:=(s.next.set s.i.toNat (x,y)),bP:=(s.bP++([(s.n,(s.i,(x,(s.tick,(12:Int)))))]))})))))) (.req (0=0∧(s.fE.length)=List.length (s.fE.set s.i.toNat x)) (.req (0=0∧(s.next.length)=List.length (s.next.set s.i.toNat (x,y))) (.rl s.bP (.ok (.next {s with i:=(aSe (s.i+1)),fE:=(s.fE.set s.i.toNat x),next:=(s.next.set s.i.toNat (x,y))}))))))))))))))) (.rl s.fE (.rl s.next (.rl s.bP (.ok (.stop (.exit 0) s)))))
abbrev afJ (s:nK):=letI a:=bG s.m s.i;letI c:=jd s.rs s.i;letI d:=gi s.offers s.i;letI b:=nA a.2.2.1 a.2.2.2.1 a.2.2.2.2.1 a.2.2.2.2.2.1 a.2.2.2.2.2.2.1 c.1 c.2 d;Ub s (nE a.2.2.1 a.2.2.2.1 a.2.2.2.2.1 a.2.2.2.2.2.1 a.2.2.2.2.2.2.1 c.1 c.2 d) (nwB s.c3 s.kR s.yg s.i b) b (nS a.2.2.1 a.2.2.2.1 a.2.2.2.2.1 a.2.2.2.2.2.1 a.2.2.2.2.2.2.1 c.1 c.2 d)
abbrev arU (s:nK):=(afJ s).rd s
end Go.Proofs.YtlihnbimgclogaaGreatDoor
end
