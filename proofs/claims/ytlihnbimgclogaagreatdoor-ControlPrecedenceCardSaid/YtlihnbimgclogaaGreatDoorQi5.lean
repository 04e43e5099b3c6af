/- ControlPrecedence returns true for all arguments: if one demand gets a lesser rank or a lesser slack, the target of its charger does not get less. Conditions: none; the table ramp.happens holds what its text says. -/
import Derived.Test.YtlihnbimgclogaaGreatDoorQi4
namespace Go.Proofs.YtlihnbimgclogaaGreatDoor
open Go.Sx
theorem amO (cs:List Cd) (os:List ByteArray) (ks:List Ko) (gs:List Ch) (bs:List Ba) (al mo od:List Int):bY Tryz.prog aQ (aax) ap1 (fun i=>if i=11 then Jw.lp else if i=21 then Ej.lp else aF i) Tryz.f52 [.agg [.xl dZ cs,.xl .str os,.xl eP ks,.xl dR gs,.xl eU bs],.xl (.int .i64) al,.xl (.int .i64) mo,.xl (.int .i64) od]=.br ((NP cs os ks gs bs) !=0) (.ok (.iG [.xl (.int .i64) ([]:List Int),.v (.int .i64 1)])) (.br ((List.length al:Int) !=(List.length gs:Int)) (.ok (.iG [.xl (.int .i64) ([]:List Int),.v (.int .i64 1)])) (.br ((List.length mo:Int) !=(List.length gs:Int)) (.ok (.iG [.xl (.int .i64) ([]:List Int),.v (.int .i64 1)])) (.req (Yu (⟨false,al,(List.length al:Int),(0:Int),cs,os,ks,gs,bs⟩:jH)) (.br (iQ (xB (⟨false,al,(List.length al:Int),(0:Int),cs,os,ks,gs,bs⟩:jH)) (.ret)) (.br (!(tY (⟨false,al,(List.length al:Int),(0:Int),cs,os,ks,gs,bs⟩:jH)).r) (.ok (.iG [.xl (.int .i64) ([]:List Int),.v (.int .i64 1)])) (.req (Yu (⟨false,mo,(List.length mo:Int),(0:Int),cs,os,ks,gs,bs⟩:jH)) (.br (iQ (xB (⟨false,mo,(List.length mo:Int),(0:Int),cs,os,ks,gs,bs⟩:jH)) (.ret)) (.br (!(tY (⟨false,mo,(List.length mo:Int),(0:Int),cs,os,ks,gs,bs⟩:jH)).r) (.ok (.iG [.xl (.int .i64) ([]:List Int),.v (.int .i64 1)])) (.req ((List.length gs:Int)≤1000) (.br (!(mF od (List.length gs:Int))) (.ok (.iG [.xl (.int .i64) ([]:List Int),.v (.int .i64 1)])) (.req (0≤(List.length (iD cs os ks gs bs):Int)∧(List.length (iD cs os ks gs bs):Int)≤(List.length (iD cs os ks gs bs):Int)∧8*(List.length (iD cs os ks gs bs):Int)≤2^48∧(List.length (iD cs os ks gs bs):Int)<2^63) (.req (0≤(List.length al:Int)∧(List.length al:Int)≤(List.length al:Int)∧8*(List.length al:Int)≤2^48∧(List.length al:Int)<2^63) (.req (0=0∧0=List.length ([]:List Int)) (.req (0=0∧0=List.length ([]:List Int)) (.req (0=0∧0=List.length ([]:List Int)) (.req (0=0∧0=List.length ([]:List Int)) (.req (0=0∧0=List.length ([]:List Int)) (.req (0=0∧0=List.length ([]:List Int)) (.req (0=0∧0=List.length ([]:List Int)) (.req (0=0∧0=List.length ([]:List Int)) (.req (0=0∧0=List.length ([]:List Int)) (.req (0=0∧0=List.length ([]:List Int)) (.req (0=0∧0=List.length ([]:List Int)) (.req (0=0∧0=List.length ([]:List Int)) (.req (0=0∧0=List.length ([]:List Int)) (.req (0=0∧0=List.length ([]:List Int)) (.req (0=0∧0=List.length ([]:List Int)) (.req (0=0∧0=List.length ([]:List Int)) (.req (0=0∧(List.length (iD cs os ks gs bs):Int).toNat=List.length (List.replicate (List.length (iD cs os ks gs bs):Int).toNat (0:Int))) (.req (0=0∧(List.length al:Int).toNat=List.length (List.replicate (List.length al:Int).toNat (0:Int))) (.req (Qk (aA cs os ks gs bs al mo od)) (.req (0+(List.length (ay (aA cs os ks gs bs al mo od)).jr)≤List.length (ay (aA cs os ks gs bs al mo od)).jr) (.req (0+(List.length (ay (aA cs os ks gs bs al mo od)).jq)≤List.length (ay (aA cs os ks gs bs al mo od)).jq) (.req (0+(List.length (ay (aA cs os ks gs bs al mo od)).jo)≤List.length (ay (aA cs os ks gs bs al mo od)).jo) (.req (0+(List.length (ay (aA cs os ks gs bs al mo od)).jm)≤List.length (ay (aA cs os ks gs bs al mo od)).jm) (.req (0+(List.length (ay (aA cs os ks gs bs al mo od)).jl)≤List.length (ay (aA cs os ks gs bs al mo od)).jl) (.req (0+(List.length (ay (aA cs os ks gs bs al mo od)).jk)≤List.length (ay (aA cs os ks gs bs al mo od)).jk) (.req (0+(List.length (ay (aA cs os ks gs bs al mo od)).ji)≤List.length (ay (aA cs os ks gs bs al mo od)).ji) (.req (0+(List.length (ay (aA cs os ks gs bs al mo od)).jh)≤List.length (ay (aA cs os ks gs bs al mo od)).jh) (.req (0+(List.length (ay (aA cs os ks gs bs al mo od)).jg)≤List.length (ay (aA cs os ks gs bs al mo od)).jg) (.req (0+(List.length (ay (aA cs os ks gs bs al mo od)).jf)≤List.length (ay (aA cs os ks gs bs al mo od)).jf) (.req (0+(List.length (ay (aA cs os ks gs bs al mo od)).dN)≤List.length (ay (aA cs os ks gs bs al mo od)).dN) (.req (0+(List.length (ay (aA cs os ks gs bs al mo od)).dM)≤List.length (ay (aA cs os ks gs bs al mo od)).dM) (.req (0+(List.length (ay (aA cs os ks gs bs al mo od)).dL)≤List.length (ay (aA cs os ks gs bs al mo od)).dL) (.req (0+(List.length (ay (aA cs os ks gs bs al mo od)).dK)≤List.length (ay (aA cs os ks gs bs al mo od)).dK) (.req (0+(List.length (ay (aA cs os ks gs bs al mo od)).dJ)≤List.length (ay (aA cs os ks gs bs al mo od)).dJ) (.req (0+(List.length (ay (aA cs os ks gs bs al mo od)).dI)≤List.length (ay (aA cs os ks gs bs al mo od)).dI) (.rl (ay (aA cs os ks gs bs al mo od)).sums (.rl (List.replicate (List.length al:Int).toNat (0:Int)) (.req (Qj (fB cs os ks gs bs al mo od)) (.req (0≤(List.length gs:Int)∧(List.length gs:Int)≤(List.length gs:Int)∧8*(List.length gs:Int)≤2^48∧(List.length gs:Int)<2^63) (.req (0=0∧(List.length gs:Int).toNat=List.length (List.replicate (List.length gs:Int).toNat (0:Int))) (.rl (iL (fB cs os ks gs bs al mo od)).sums (.rl (iL (fB cs os ks gs bs al mo od)).levels (.req (Qi (fU cs os ks gs bs al mo od)) (.req (0+(List.length (ig (fU cs os ks gs bs al mo od)).out)≤List.length (ig (fU cs os ks gs bs al mo od)).out) (.ok (.iG [.xl (.int .i64) (((ig (fU cs os ks gs bs al mo od)).out.drop 0).take (List.length (ig (fU cs os ks gs bs al mo od)).out)),.v (.int .i64 0)]))))))))))))))))))))))))))))))))))))))))))))))))))) (.br (!true) (.ok (.iG [.xl (.int .i64) ([]:List Int),.v (.int .i64 1)])) (.req ((List.length gs:Int)≤1000) (.br (!(mF od (List.length gs:Int))) (.ok (.iG [.xl (.int .i64) ([]:List Int),.v (.int .i64 1)])) (.req (0≤(List.length (iD cs os ks gs bs):Int)∧(List.length (iD cs os ks gs bs):Int)≤(List.length (iD cs os ks gs bs):Int)∧8*(List.length (iD cs os ks gs bs):Int)≤2^48∧(List.length (iD cs os ks gs bs):Int)<2^63) (.req (0≤(List.length al:Int)∧(List.length al:Int)≤(List.length al:Int)∧8*(List.length al:Int)≤2^48∧(List.length al:Int)<2^63) (.req (0=0∧0=List.length ([]:List Int)) (.req (0=0∧0=List.length ([]:List Int)) (.req (0=0∧0=List.length ([]:List Int)) (.req (0=0∧0=List.length ([]:List Int)) (.req (0=0∧0=List.length ([]:List Int)) (.req (0=0∧0=List.length ([]:List Int)) (.req (0=0∧0=List.length ([]:List Int)) (.req (0=0∧0=List.length ([]:List Int)) (.req (0=0∧0=List.length ([]:List Int)) (.req (0=0∧0=List.length ([]:List Int)) (.req (0=0∧0=List.length ([]:List Int)) (.req (0=0∧0=List.length ([]:List Int)) (.req (0=0∧0=List.length ([]:List Int)) (.req (0=0∧0=List.length ([]:List Int)) (.req (0=0∧0=List.length ([]:List Int)) (.req (0=0∧0=List.length ([]:List Int)) (.req (0=0∧(List.length (iD cs os ks gs bs):Int).toNat=List.length (List.replicate (List.length (iD cs os ks gs bs):Int).toNat (0:Int))) (.req (0=0∧(List.length al:Int).toNat=List.length (List.replicate (List.length al:Int).toNat (0:Int))) (.req (Qk (aA cs os ks gs bs al mo od)) (.req (0+(List.length (ay (aA cs os ks gs bs al mo od)).jr)≤List.length (ay (aA cs os ks gs bs al mo od)).jr) (.req (0+(List.length (ay (aA cs os ks gs bs al mo od)).jq)≤List.length (ay (aA cs os ks gs bs al mo od)).jq) (.req (0+(List.length (ay (aA cs os ks gs bs al mo od)).jo)≤List.length (ay (aA cs os ks gs bs al mo od)).jo) (.req (0+(List.length (ay (aA cs os ks gs bs al mo od)).jm)≤List.length (ay (aA cs os ks gs bs al mo od)).jm) (.req (0+(List.length (ay (aA cs os ks gs bs al mo od)).jl)≤List.length (ay (aA cs os ks gs bs al mo od)).jl) (.req (0+(List.length (ay (aA cs os ks gs bs al mo od)).jk)≤List.length (ay (aA cs os ks gs bs al mo od)).jk) (.req (0+(List.length (ay (aA cs os ks gs bs al mo od)).ji)≤List.length (ay (aA cs os ks gs bs al mo od)).ji) (.req (0+(List.length (ay (aA cs os ks gs bs al mo od)).jh)≤List.length (ay (aA cs os ks gs bs al mo od)).jh) (.req (0+(List.length (ay (aA cs os ks gs bs al mo od)).jg)≤List.length (ay (aA cs os ks gs bs al mo od)).jg) (.req (0+(List.length (ay (aA cs os ks gs bs al mo od)).jf)≤List.length (ay (aA cs os ks gs bs al mo od)).jf) (.req (0+(List.length (ay (aA cs os ks gs bs al mo od)).dN)≤List.length (ay (aA cs os ks gs bs al mo od)).dN) (.req (0+(List.length (ay (aA cs os ks gs bs al mo od)).dM)≤List.length (ay (aA cs os ks gs bs al mo od)).dM) (.req (0+(List.length (ay (aA cs os ks gs bs al mo od)).dL)≤List.length (ay (aA cs os ks gs bs al mo od)).dL) (.req (0+(List.length (ay (aA cs os ks gs bs al mo od)).dK)≤List.length (ay (aA cs os ks gs bs al mo od)).dK) (.req (0+(List.length (ay (aA cs os ks gs bs al mo od)).dJ)≤List.length (ay (aA cs os ks gs bs al mo od)).dJ) (.req (0+(List.length (ay (aA cs os ks gs bs al mo od)).dI)≤List.length (ay (aA cs os ks gs bs al mo od)).dI) (.rl (ay (aA cs os ks gs bs al mo od)).sums (.rl (List.replicate (List.length al:Int).toNat (0:Int)) (.req (Qj (fB cs os ks gs bs al mo od)) (.req (0≤(List.length gs:Int)∧(List.length gs:Int)≤(List.length gs:Int)∧8*(List.length gs:Int)≤2^48∧(List.length gs:Int)<2^63) (.req (0=0∧(List.length gs:Int).toNat=List.length (List.replicate (List.length gs:Int).toNat (0:Int))) (.rl (iL (fB cs os ks gs bs al mo od)).sums (.rl (iL (fB cs os ks gs bs al mo od)).levels (.req (Qi (fU cs os ks gs bs al mo od)) (.req (0+(List.length (ig (fU cs os ks gs bs al mo od)).out)≤List.length (ig (fU cs os ks gs bs al mo od)).out) (.ok (.iG [.xl (.int .i64) (((ig (fU cs os ks gs bs al mo od)).out.drop 0).take (List.length (ig (fU cs os ks gs bs al mo od)).out)),.v (.int .i64 0)])))))))))))))))))))))))))))))))))))))))))))))))))))))) (.br (!true) (.ok (.iG [.xl (.int .i64) ([]:List Int),.v (.int .i64 1)])) (.req (Yu (⟨false,mo,(List.length mo:Int),(0:Int),cs,os,ks,gs,bs⟩:jH)) (.br (iQ (xB (⟨false,mo,(List.length mo:Int),(0:Int),cs,os,ks,gs,bs⟩:jH)) (.ret)) (.br (!(tY (⟨false,mo,(List.length mo:Int),(0:Int),cs,os,ks,gs,bs⟩:jH)).r) (.ok (.iG [.xl (.int .i64) ([]:List Int),.v (.int .i64 1)])) (.req ((List.length gs:Int)≤1000) (.br (!(mF od (List.length gs:Int))) (.ok (.iG [.xl (.int .i64) ([]:List Int),.v (.int .i64 1)])) (.req (0≤(List.length (iD cs os ks gs bs):Int)∧(List.length (iD cs os ks gs bs):Int)≤(List.length (iD cs os ks gs bs):Int)∧8*(List.length (iD cs os ks gs bs):Int)≤2^48∧(List.length (iD cs os ks gs bs):Int)<2^63) (.req (0≤(List.length al:Int)∧(List.length al:Int)≤(List.length al:Int)∧8*(List.length al:Int)≤2^48∧(List.length al:Int)<2^63) (.req (0=0∧0=List.length ([]:List Int)) (.req (0=0∧0=List.length ([]:List Int)) (.req (0=0∧0=List.length ([]:List Int)) (.req (0=0∧0=List.length ([]:List Int)) (.req (0=0∧0=List.length ([]:List Int)) (.req (0=0∧0=List.length ([]:List Int)) (.req (0=0∧0=List.length ([]:List Int)) (.req (0=0∧0=List.length ([]:List Int)) (.req (0=0∧0=List.length ([]:List Int)) (.req (0=0∧0=List.length ([]:List Int)) (.req (0=0∧0=List.length ([]:List Int)) (.req (0=0∧0=List.length ([]:List Int)) (.req (0=0∧0=List.length ([]:List Int)) (.req (0=0∧0=List.length ([]:List Int)) (.req (0=0∧0=List.length ([]:List Int)) (.req (0=0∧0=List.length ([]:List Int)) (.req (0=0∧(List.length (iD cs os ks gs bs):Int).toNat=List.length (List.replicate (List.length (iD cs os ks gs bs):Int).toNat (0:Int))) (.req (0=0∧(List.length al:Int).toNat=List.length (List.replicate (List.length al:Int).toNat (0:Int))) (.req (Qk (aA cs os ks gs bs al mo od)) (.req (0+(List.length (ay (aA cs os ks gs bs al mo od)).jr)≤List.length (ay (aA cs os ks gs bs al mo od)).jr) (.req (0+(List.length (ay (aA cs os ks gs bs al mo od)).jq)≤List.length (ay (aA cs os ks gs bs al mo od)).jq) (.req (0+(List.length (ay (aA cs os ks gs bs al mo od)).jo)≤List.length (ay (aA cs os ks gs bs al mo od)).jo) (.req (0+(List.length (ay (aA cs os ks gs bs al mo od)).jm)≤List.length (ay (aA cs os ks gs bs al mo od)).jm) (.req (0+(List.length (ay (aA cs os ks gs bs al mo od)).jl)≤List.length (ay (aA cs os ks gs bs al mo od)).jl) (.req (0+(List.length (ay (aA cs os ks gs bs al mo od)).jk)≤List.length (ay (aA cs os ks gs bs al mo od)).jk) (.req (0+(List.length (ay (aA cs os ks gs bs al mo od)).ji)≤List.length (ay (aA cs os ks gs bs al mo od)).ji) (.req (0+(List.length (ay (aA cs os ks gs bs al mo od)).jh)≤List.length (ay (aA cs os ks gs bs al mo od)).jh) (.req (0+(List.length (ay (aA cs os ks gs bs al mo od)).jg)≤List.length (ay (aA cs os ks gs bs al mo od)).jg) (.req (0+(List.length (ay (aA cs os ks gs bs al mo od)).jf)≤List.length (ay (aA cs os ks gs bs al mo od)).jf) (.req (0+(List.length (ay (aA cs os ks gs bs al mo od)).dN)≤List.length (ay (aA cs os ks gs bs al mo od)).dN) (.req (0+(List.length (ay (aA cs os ks gs bs al mo od)).dM)≤List.length (ay (aA cs os ks gs bs al mo od)).dM) (.req (0+(List.length (ay (aA cs os ks gs bs al mo od)).dL)≤List.length (ay (aA cs os ks gs bs al mo od)).dL) (.req (0+(List.length (ay (aA cs os ks gs bs al mo od)).dK)≤List.length (ay (aA cs os ks gs bs al mo od)).dK) (.req (0+(List.length (ay (aA cs os ks gs bs al mo od)).dJ)≤List.length (ay (aA cs os ks gs bs al mo od)).dJ) (.req (0+(List.length (ay (aA cs os ks gs bs al mo od)).dI)≤List.length (ay (aA cs os ks gs bs al mo od)).dI) (.rl (ay (aA cs os ks gs bs al mo od)).sums (.rl (List.replicate (List.length al:Int).toNat (0:Int)) (.req (Qj (fB cs os ks gs bs al mo od)) (.req (0≤(List.length gs:Int)∧(List.length gs:Int)≤(List.length gs:Int)∧8*(List.length gs:Int)≤2^48∧(List.length gs:Int)<2^63) (.req (0=0∧(List.length gs:Int).toNat=List.length (List.replicate (List.length gs:Int).toNat (0:Int))) (.rl (iL (fB cs os ks gs bs al mo od)).sums (.rl (iL (fB cs os ks gs bs al mo od)).levels (.req (Qi (fU cs os ks gs bs al mo od)) (.req (0+(List.length (ig (fU cs os ks gs bs al mo od)).out)≤List.length (ig (fU cs os ks gs bs al mo od)).out) (.ok (.iG [.xl (.int .i64) (((ig (fU cs os ks gs bs al mo od)).out.drop 0).take (List.length (ig (fU cs os ks gs bs al mo od)).out)),.v (.int .i64 0)]))))))))))))))))))))))))))))))))))))))))))))))))))) (.br (!true) (.ok (.iG [.xl (.int .i64) ([]:List Int),.v (.int .i64 1)])) (.req ((List.length gs:Int)≤1000) (.br (!(mF od (List.length gs:Int))) (.ok (.iG [.xl (.int .i64) ([]:List Int),.v (.int .i64 1)])) (.req (0≤(List.length (iD cs os ks gs bs):Int)∧(List.length (iD cs os ks gs bs):Int)≤(List.length (iD cs os ks gs bs):Int)∧8*(List.length (iD cs os ks gs bs):Int)≤2^48∧(List.length (iD cs os ks gs bs):Int)<2^63) (.req (0≤(List.length al:Int)∧(List.length al:Int)≤(List.length al:Int)∧8*(List.length al:Int)≤2^48∧(List.length al:Int)<2^63) (.req (0=0∧0=List.length ([]:List Int)) (.req (0=0∧0=List.length ([]:List Int)) (.req (0=0∧0=List.length ([]:List Int)) (.req (0=0∧0=List.length ([]:List Int)) (.req (0=0∧0=List.length ([]:List Int)) (.req (0=0∧0=List.length ([]:List Int)) (.req (0=0∧0=List.length ([]:List Int)) (.req (0=0∧0=List.length ([]:List Int)) (.req (0=0∧0=List.length ([]:List Int)) (.req (0=0∧0=List.length ([]:List Int)) (.req (0=0∧0=List.length ([]:List Int)) (.req (0=0∧0=List.length ([]:List Int)) (.req (0=0∧0=List.length ([]:List Int)) (.req (0=0∧0=List.length ([]:List Int)) (.req (0=0∧0=List.length ([]:List Int)) (.req (0=0∧0=List.length ([]:List Int)) (.req (0=0∧(List.length (iD cs os ks gs bs):Int).toNat=List.length (List.replicate (List.length (iD cs os ks gs bs):Int).toNat (0:Int))) (.req (0=0∧(List.length al:Int).toNat=List.length (List.replicate (List.length al:Int).toNat (0:Int))) (.req (Qk (aA cs os ks gs bs al mo od)) (.req (0+(List.length (ay (aA cs os ks gs bs al mo od)).jr)≤List.length (ay (aA cs os ks gs bs al mo od)).jr) (.req (0+(List.length (ay (aA cs os ks gs bs al mo od)).jq)≤List.length (ay (aA cs os ks gs bs al mo od)).jq) (.req (0+(List.length (ay (aA cs os ks gs bs al mo od)).jo)≤List.length (ay (aA cs os ks gs bs al mo od)).jo) (.req (0+(List.length (ay (aA cs os ks gs bs al mo od)).jm)≤List.length (ay (aA cs os ks gs bs al mo od)).jm) (.req (0+(List.length (ay (aA cs os ks gs bs al mo od)).jl)≤List.length (ay (aA cs os ks gs bs al mo od)).jl) (.req (0+(List.length (ay (aA cs os ks gs bs al mo od)).jk)≤List.length (ay (aA cs os ks gs bs al mo od)).jk) (.req (0+(List.length (ay (aA cs os ks gs bs al mo od)).ji)≤List.length (ay (aA cs os ks gs bs al mo od)).ji) (.req (0+(List.length (ay (aA cs os ks gs bs al mo od)).jh)≤List.length (ay (aA cs os ks gs bs al mo od)).jh) (.req (0+(List.length (ay (aA cs os ks gs bs al mo od)).jg)≤List.length (ay (aA cs os ks gs bs al mo od)).jg) (.req (0+(List.length (ay (aA cs os ks gs bs al mo od)).jf)≤List.length (ay (aA cs os ks gs bs al mo od)).jf) (.req (0+(List.length (ay (aA cs os ks gs bs al mo od)).dN)≤List.length (ay (aA cs os ks gs bs al mo od)).dN) (.req (0+(List.length (ay (aA cs os ks gs bs al mo od)).dM)≤List.length (ay (aA cs os ks gs bs al mo od)).dM) (.req (0+(List.length (ay (aA cs os ks gs bs al mo od)).dL)≤List.length (ay (aA cs os ks gs bs al mo od)).dL) (.req (0+(List.length (ay (aA cs os ks gs bs al mo od)).dK)≤List.length (ay (aA cs os ks gs bs al mo od)).dK) (.req (0+(List.length (ay (aA cs os ks gs bs al mo od)).dJ)≤List.length (ay (aA cs os ks gs bs al mo od)).dJ) (.req (0+(List.length (ay (aA cs os ks gs bs al mo od)).dI)≤List.length (ay (aA cs os ks gs bs al mo od)).dI) (.rl (ay (aA cs os ks gs bs al mo od)).sums (.rl (List.replicate (List.length al:Int).toNat (0:Int)) (.req (Qj (fB cs os ks gs bs al mo od)) (.req (0≤(List.length gs:Int)∧(List.length gs:Int)≤(List.length gs:Int)∧8*(List.length gs:Int)≤2^48∧(List.length gs:Int)<2^63) (.req (0=0∧(List.length gs:Int).toNat=List.length (List.replicate (List.length gs:Int).toNat (0:Int))) (.rl (iL (fB cs os ks gs bs al mo od)).sums (.rl (iL (fB cs os ks gs bs al mo od)).levels (.req (Qi (fU cs os ks gs bs al mo od)) (.req (0+(List.length (ig (fU cs os ks gs bs al mo od)).out)≤List.length (ig (fU cs os ks gs bs al mo od)).out) (.ok (.iG [.xl (.int .i64) (((ig (fU cs os ks gs bs al mo od)).out.drop 0).take (List.length (ig (fU cs os ks gs bs al mo od)).out)),.v (.int .i64 0)])))))))))))))))))))))))))))))))))))))))))))))))))))))))))):=by kernel_rfl
theorem Va:Valid Tryz.prog aQ 52 yS:=aI Tryz.func52 rfl ahS azb (L:=(fun i=>if i=11 then Jw.lp else if i=21 then Ej.lp else aF i)) (fun b hb=>by
 rw [show aG _=[IG,Ap] by kernel_rfl] at hb
 simp only [List.mem_cons,List.not_mem_nil,or_false] at hb
 rcases hb with rfl|rfl
 ·exact akS
 ·exact akR) (fun args lv h=>by
 unfold abM at h
 split at h
 ·simp only [canL,canX]
  rw [amO]
  rename_i cs os ks gs bs al mo od
  obtain rfl:=h
  have err:sD cs os ks gs bs al mo od=false→LV.iG [.xl (.int .i64) ([]:List Int),.v (.int .i64 1)]=LV.iG [.xl (.int .i64) (xK cs os ks gs bs al mo od),.v (.int .i64 (shE cs os ks gs bs al mo od))]:=fun h=>by
   unfold xK shE
   rw [h]
   rfl
  have no_:∀ {p:Prop},¬p→(sD cs os ks gs bs al mo od=true→p)→sD cs os ks gs bs al mo od=false:=fun h1 h2=>by
   rw [Bool.eq_false_iff];exact fun h=>h1 (h2 h)
  refine ⟨fun c=>err (no_ (p:=fV cs os ks gs bs=true) (fun h=>?_) (fun h=>(jA.1 h).1)),fun c=>?_⟩
  ·unfold NP at c
   rw [h] at c
   simp at c
  have hv:fV cs os ks gs bs=true:=by
   cases e:fV cs os ks gs bs with
   |true=>rfl
   |false=>unfold NP at c;rw [e] at c;simp at c
  have hl:=(gX.1 hv).1
  refine ⟨fun c2=>err (no_ (p:=al.length=gs.length) (by simp at c2;omega) (fun h=>(jA.1 h).2.1)),fun c2=>?_⟩
  refine ⟨fun c3=>err (no_ (p:=mo.length=gs.length) (by simp at c3;omega) (fun h=>(jA.1 h).2.2.1)),fun c3=>?_⟩
  have c2:al.length=gs.length:=by simp at c2;omega
  have c3:mo.length=gs.length:=by simp at c3;omega
  refine nP ⟨⟨rfl,by simp only;omega,by simp only;omega,rfl⟩,rfl,rfl⟩ (fun hE1=>?_)
  rcases abo _ hE1.1 with ⟨q1,q2⟩ |⟨q1,q2,q3⟩
  rotate_left
  ·rw [q1,q2]
   refine ⟨fun _=>⟨fun _=>err (no_ (p:=al.all uD=true) (by have q3:al.all uD=false:=q3;rw [q3];simp) (fun h=>(jA.1 h).2.2.2.1)),fun h=>by cases h⟩,fun h=>by cases h⟩
  rw [q1]
  refine ⟨fun h=>(by cases h),fun _=>⟨fun h=>(by cases h),fun _=>?_⟩⟩
  have q2:al.all uD=true:=q2
  refine nP ⟨⟨rfl,by simp only;omega,by simp only;omega,rfl⟩,rfl,rfl⟩ (fun hE2=>?_)
  rcases abo _ hE2.1 with ⟨p1,p2⟩ |⟨p1,p2,p3⟩
  rotate_left
  ·rw [p1,p2]
   refine ⟨fun _=>⟨fun _=>err (no_ (p:=mo.all uD=true) (by have p3:mo.all uD=false:=p3;rw [p3];simp) (fun h=>(jA.1 h).2.2.2.2.1)),fun h=>by cases h⟩,fun h=>by cases h⟩
  rw [p1]
  refine ⟨fun h=>(by cases h),fun _=>⟨fun h=>(by cases h),fun _=>?_⟩⟩
  have p2:mo.all uD=true:=p2
  refine ⟨by omega,fun c4=>err (no_ (p:=mF od (gs.length:Int)=true) (by simp at c4;rw [c4];simp) (fun h=>(jA.1 h).2.2.2.2.2)),fun c4=>?_⟩
  have c4:mF od (gs.length:Int)=true:=by simpa using c4
  have hok:sD cs os ks gs bs al mo od=true:=jA.2 ⟨hv,c2,c3,q2,p2,c4⟩
  obtain ⟨hT,hS⟩:=ayG hok
  have er:iD cs os ks gs bs=jV cs gs cs.length:=by unfold iD;rw [if_pos hv]
  have hrl:=zx (cs:=cs) (gs:=gs) (k:=cs.length)
  have hod:od.length=gs.length:=by
   unfold mF at c4
   simp only [Bool.and_eq_true,decide_eq_true_eq] at c4
   omega
  have hrn:(List.length (iD cs os ks gs bs):Int)≤1000:=by rw [er];omega
  refine ⟨by omega,by omega,⟨rfl,rfl⟩,⟨rfl,rfl⟩,⟨rfl,rfl⟩,⟨rfl,rfl⟩,⟨rfl,rfl⟩,⟨rfl,rfl⟩,⟨rfl,rfl⟩,⟨rfl,rfl⟩,⟨rfl,rfl⟩,⟨rfl,rfl⟩,⟨rfl,rfl⟩,⟨rfl,rfl⟩,⟨rfl,rfl⟩,⟨rfl,rfl⟩,⟨rfl,rfl⟩,⟨rfl,rfl⟩,⟨rfl,by simp⟩,⟨rfl,by simp⟩,?_⟩
  have hN:Nl (aA cs os ks gs bs al mo od):=by
   refine ⟨rfl,fun o ho=>?_,rfl,rfl,hrn,fun r hr=>?_,hT.al,by show List.length (List.replicate _ _)=List.length (iD cs os ks gs bs);simp⟩
   ·simpa [kQ,aA] using ho
   ·have hr:r∈jV cs gs cs.length:=by rw [←er];exact hr
    obtain ⟨m1,m2,m3,m4⟩:=row_mem hr
    refine ⟨by omega,fun m hm=>?_⟩
    have:=m2 m hm
    show 0≤m∧m<16∧m<(al.length:Int)
    omega
  obtain ⟨nr1,nr2⟩:=aml _ hN
  have nr1:kQ (ay (aA cs os ks gs bs al mo od))=OL (jV cs gs cs.length):=by rw [nr1,←er];rfl
  have nr2:(ay (aA cs os ks gs bs al mo od)).sums=SM al (jV cs gs cs.length):=by rw [nr2,←er];rfl
  refine ⟨⟨hN,rfl,rfl⟩,by omega,by omega,by omega,by omega,by omega,by omega,by omega,by omega,by omega,by omega,by omega,by omega,by omega,by omega,by omega,by omega,⟨rfl,rfl⟩,⟨rfl,rfl⟩,?_⟩
  have eO:sV (fB cs os ks gs bs al mo od)=kQ (ay (aA cs os ks gs bs al mo od)):=by
   unfold sV kQ fB
   simp only [List.drop_zero,List.take_length]
  have hSh:acQ (fB cs os ks gs bs al mo od):=by
   refine ⟨rfl,by show (od.length:Int)≤1000;omega,rfl,?_,?_⟩
   ·show OkT (sV (fB cs os ks gs bs al mo od)) (iD cs os ks gs bs) gs al mo od
    rw [eO,nr1,er]
    exact hT
   ·show OkS (iD cs os ks gs bs) od (ay (aA cs os ks gs bs al mo od)).sums _
    rw [nr2,er]
    exact hS
  have sr:=alH _ hSh
  have sr:(iL (fB cs os ks gs bs al mo od)).levels=shV (jV cs gs cs.length) gs al mo od:=by
   rw [sr]
   show shl (sV (fB cs os ks gs bs al mo od)) (iD cs os ks gs bs) gs al mo od 81 1 (ay (aA cs os ks gs bs al mo od)).sums _=_
   rw [eO,nr1,nr2,er]
   rfl
  obtain ⟨sl,sb⟩:=aeC hT 81 1 _ _ (by omega) (by omega) hS
  refine ⟨⟨hSh,rfl,rfl⟩,by omega,⟨rfl,by simp⟩,⟨rfl,rfl⟩,⟨rfl,rfl⟩,?_⟩
  have hX:acP (fU cs os ks gs bs al mo od):=by
   refine ⟨rfl,rfl,⟨rfl,by show (gs.length:Int)≤1000;omega,?_⟩,fun k h0 h1=>?_,?_⟩
   ·show (iL (fB cs os ks gs bs al mo od)).levels.length=gs.length
    rw [sr]
    exact sl.trans (by rw [List.length_replicate];exact c2)
   ·have:=rZ hv h0 h1
    unfold FU chW at this
    simp only [Bool.and_eq_true,dW] at this
    show mG (bF gs k).2.2.2.1 (bF gs k).2.2.2.2.1 (bF gs k).2.2.2.2.2.1=true
    exact fK.2 (by omega)
   ·show ∀k:Nat,0≤(iL (fB cs os ks gs bs al mo od)).levels.getD k 0∧(iL (fB cs os ks gs bs al mo od)).levels.getD k 0≤80
    rw [sr]
    exact sb
  refine ⟨⟨hX,rfl,rfl⟩,by omega,?_⟩
  obtain ⟨s',_,_,x2⟩:=alG _ hX
  have x2:(ig (fU cs os ks gs bs al mo od)).out=ni gs (iL (fB cs os ks gs bs al mo od)).levels:=x2
  show LV.iG [LV.xl _ _,_]=_
  rw [List.drop_zero,List.take_length,x2,sr]
  unfold xK shE
  rw [if_pos hok,if_pos hok]
 ·cases h)
end Go.Proofs.YtlihnbimgclogaaGreatDoor
namespace Go.Proofs.YtlihnbimgclogaaGreatDoor
open Go.Sx
structure nH where
 m:List Ch
 k:Int
 i:Int
 out:List Int
def aB6 (s:nH):List LV:=[.os 0 1 0 (List.length s.out),.xl dR s.m,.v (.int .i64 s.k),.v (.int .i64 s.i)]
def aA9 (s:nH):List aT:=[⟨[],3,.vec (.int .i64) s.out,false⟩]
noncomputable def BF:Code:=((aG (Tryz.f72.body.getD .skip))[0]?).getD .skip
def Zf (s:nH):T (Rd nH):=
 .br (decide (s.i<s.k)) (.req (0≤s.i∧s.i<(List.length s.m:Int)) (.req (0≤s.i∧s.i<((List.length s.out:Nat):Int)) (.req (s.i.toNat<List.length s.out) (.req (0=0∧(List.length s.out)=List.length (s.out.set s.i.toNat (bF s.m s.i).2.2.2.2.2.2.1)) (.ok (.next {s with i:=(IntKind.i64.wrap (s.i+1)),out:=(s.out.set s.i.toNat (bF s.m s.i).2.2.2.2.2.2.1)})))))) (.rl s.out (.ok (.stop (.exit 0) s)))
abbrev aq4 (s:nH):=(Zf s).rd s
def ac9 (s:nH):Prop:=s.i=0∧s.k=(List.length s.m:Int)∧s.k≤1000∧s.out.length=s.m.length∧(∀j,0≤j→j<s.k→gi s.out j=0)∧True
def Na (s:nH):Prop:=(0≤s.i∧s.i≤s.k)∧s.k=(List.length s.m:Int)∧s.k≤1000∧s.out.length=s.m.length∧(∀j,0≤j→j<s.k→gi s.out j=if j<s.i then Dh (bF s.m j) else 0)∧True
def O1 (s:nH):Nat:=(s.k-s.i).toNat
def ajO (x:Ex) (_ s':nH):Prop:=x=.exit 0∧s'.out=rH s'.m.length (fun j=>Dh (bF s'.m j))
theorem azY:∀s,ac9 s→Na s:=by
 intro s h
 obtain ⟨h0,h2,h3,h4,h5,h6⟩:=h
 exact ⟨by omega,h2,h3,h4,fun j j0 j1=>by rw [h5 j j0 j1,if_neg (by omega)],h6⟩
theorem avO (s:nH) (hI:Na s):bQ (fun s'=>Na s'∧O1 s'<O1 s) (fun x s'=>ajO x s s') (aq4 s):=by
 unfold aq4 Zf
 dsimp only [T.rd,T.rl]
 obtain ⟨⟨h0,h1⟩,h2,h3,h4,h5,h6⟩:=hI
 refine ax (fun c1=>?_) (fun c1=>?_)
 ·have c1:s.i<s.k:=by simpa using c1
  rw [aN (x:=s.i+1) (by omega) (by omega)]
  refine ⟨⟨⟨by simp only;omega,by simp only;omega⟩,h2,h3,by simp only [List.length_set];exact h4,fun j j0 j1=>?_,h6⟩,by simp only [O1];omega⟩
  simp only
  have hi:=h5 s.i h0 c1
  rw [if_neg (show ¬s.i<s.i by omega)] at hi
  rw [iw h0 (by rw [h4];omega) j0]
  by_cases e:j=s.i
  ·subst e
   rw [if_pos rfl,if_pos (show s.i<s.i+1 by omega)]
   rfl
  ·rw [if_neg e,h5 j j0 j1]
   by_cases q:j<s.i
   ·rw [if_pos q,if_pos (show j<s.i+1 by omega)]
   ·rw [if_neg q,if_neg (show ¬j<s.i+1 by omega)]
 ·have c1:s.k≤s.i:=by simpa using c1
  refine ⟨rfl,?_⟩
  refine Ii (by rw [fJ];exact h4) fun j j0 j1=>?_
  rw [fJ] at j1
  rw [qU j0 j1,h5 j j0 (by omega),if_pos (show j<s.i by omega)]
def E5:bT nH:=⟨0,31,[3,17,18,19],[],aB6,aA9,fun v b=>⟨aS dR (v.getD 1 .junk),gI (v.getD 2 .junk),gI (v.getD 3 .junk),jy (.int .i64) (aP b 0)⟩,Zf,fun s r=> {r with m:=s.m,k:=s.k},fun s=>s,fun _ s=>s,[.exit 0],ac9,Na,O1⟩
abbrev wR:=E5.run
abbrev aoy:=E5.kG
abbrev aw7:=E5.q
theorem atO (s:nH) (hI:Na s):(Zf s).all (fun _=>True):=by
 refine ⟨fun c1=>⟨?_,?_,?_,?_,trivial⟩,fun c1=>⟨⟨rfl,rfl⟩,trivial⟩⟩
 all_goals ((obtain ⟨⟨h0,h1⟩,h2,h3,h4,h5,h6⟩:=hI;(try simp only [decide_eq_true_eq] at c1);first|omega|exact ⟨rfl,by simp⟩ |(omega)))
noncomputable def ah2:Specs:=bg []
theorem aqa:∀g S,ah2 g=some S→Valid Tryz.prog aQ g S:=aU (l:=[]) trivial
theorem agI:E5.Ok:=⟨fun s=>by kernel_rfl,fun s=>by kernel_rfl,fun s=>rfl,fun s t r=>rfl,fun s=>rfl,fun s=>by kernel_rfl⟩
theorem afE:E5.Pf (ajO):=⟨azY,fun _ _=>rfl,avO,atO⟩
theorem alB:bC Tryz.prog aQ (AN 0) (.loop BF) E5.lp:=bT.snd agI afE (aV (Γ:=ah2) (K:=fC) (L:=aF) aqa aH BF (fun b hb=>by rw [show aG BF=[] by kernel_rfl] at hb;cases hb)) (fun s=>by kernel_rfl)
theorem aoQ (s:nH) (hE:ac9 s):∃s',Na s'∧ajO (aoy s) s' (wR s):=bT.fin agI afE s hE
def acA:List LV→T LV
 | [.xq 9 q0]=>(match ([q0 0,q0 1,q0 2,q0 3,q0 4,q0 5,q0 6,q0 7,q0 8]:List LV) with
  | [.xl (.pair .str (.pair (.int .i64) (.pair (.int .i64) (.pair (.int .i64) (.pair (.pair (.int .i64) (.int .i64)) (.pair (.int .i64) (.pair (.int .i64) (.pair (.int .i64) (.pair (.int .i64) (.int .i64)))))))))) _,.xl (.str) _,.xl (.pair .str (.pair (.int .i64) (.pair (.int .i64) (.int .i64)))) _,.xl (.pair .str (.pair (.int .i64) (.pair (.int .i64) (.pair (.int .i64) (.pair (.int .i64) (.pair (.int .i64) (.pair (.int .i64) (.int .i64)))))))) gs,.xl (.pair .str (.int .i64)) _,.xl (.pair (.int .i64) (.pair (.int .i64) (.pair (.int .i64) (.pair (.int .i64) (.int .i64))))) _,.xl (.pair .bool (.pair (.int .i64) (.pair (.int .i64) (.int .i64)))) _,.v (.int .i64 _),.xl (.int .i64) _]=> .req ((List.length gs:Int)≤1000) (.ok (.xl (.int .i64) (lT gs)))
  |_=> .no)
 |_=> .no
noncomputable def Yi:List LV→T LV:=gZ Tryz.prog Tryz.f72.params.toList acA
theorem anw (cs:List Cd) (os:List ByteArray) (ks:List Ko) (gs:List Ch) (bs:List Ba) (l:List Le) (d:List Dm) (t:Int) (od:List Int):bY Tryz.prog aQ (ah2) fC (fun i=>if i=3 then E5.lp else aF i) Tryz.f72 [.xq 9 (fun j=>([.xl dZ cs,.xl .str os,.xl eP ks,.xl dR gs,.xl eU bs,.xl oO l,.xl pV d,.v (.int .i64 t),.xl (.int .i64) od]:List LV).getD j .junk)]=.req (0≤(List.length gs:Int)∧(List.length gs:Int)≤(List.length gs:Int)∧8*(List.length gs:Int)≤2^48∧(List.length gs:Int)<2^63) (.req (0=0∧(List.length gs:Int).toNat=List.length (List.replicate (List.length gs:Int).toNat (0:Int))) (.req (aw7 (⟨gs,(List.length gs:Int),(0:Int),(List.replicate (List.length gs:Int).toNat (0:Int))⟩:nH)) (.req (0+(List.length (wR (⟨gs,(List.length gs:Int),(0:Int),(List.replicate (List.length gs:Int).toNat (0:Int))⟩:nH)).out)≤List.length (wR (⟨gs,(List.length gs:Int),(0:Int),(List.replicate (List.length gs:Int).toNat (0:Int))⟩:nH)).out) (.ok (.xl (.int .i64) (((wR (⟨gs,(List.length gs:Int),(0:Int),(List.replicate (List.length gs:Int).toNat (0:Int))⟩:nH)).out.drop 0).take (List.length (wR (⟨gs,(List.length gs:Int),(0:Int),(List.replicate (List.length gs:Int).toNat (0:Int))⟩:nH)).out))))))):=by kernel_rfl
theorem asi:Valid Tryz.prog aQ 72 Yi:=aI Tryz.func72 rfl aqa aH (L:=(fun i=>if i=3 then E5.lp else aF i)) (fun b hb=>by
 rw [show aG _=[BF] by kernel_rfl] at hb
 simp only [List.mem_cons,List.not_mem_nil,or_false] at hb
 subst hb
 exact alB) (fun args lv h=>by
 unfold acA at h
 split at h
 ·split at h
  case h_2=>cases h
  rename_i heq0
  simp only [canL,canX]
  rw [oU (n:=9) heq0]
  simp only [canL,canX]
  rw [anw]
  rename_i cs os ks gs bs l d t od
  obtain ⟨hn,rfl⟩:=h
  have hE:ac9 ⟨gs,(List.length gs:Int),0,List.replicate (List.length gs:Int).toNat 0⟩:=⟨rfl,rfl,hn,by simp,fun j _ _=>rM,trivial⟩
  obtain ⟨_,_,q1,q2⟩:=aoQ _ hE
  have q2:(wR ⟨gs,(List.length gs:Int),0,List.replicate (List.length gs:Int).toNat 0⟩).out=lT gs:=q2
  refine ⟨by omega,⟨rfl,by simp⟩,⟨hE,rfl,rfl⟩,by omega,?_⟩
  show LV.xl _ _=_
  rw [List.drop_zero,List.take_length,q2]
 ·cases h)
structure lM where
 cs:List Cd
 os:List ByteArray
 ks:List Ko
 gs:List Ch
 bs:List Ba
 l:List Le
 d:List Dm
 t:Int
 od:List Int
 m:List Ch
 k:Int
 i:Int
 wanted:List Int
def aB1 (s:lM):List LV:=[.xq 9 (fun j=>([.xl dZ s.cs,.xl .str s.os,.xl eP s.ks,.xl dR s.gs,.xl eU s.bs,.xl oO s.l,.xl pV s.d,.v (.int .i64 s.t),.xl (.int .i64) s.od]:List LV).getD j .junk),.os 0 1 0 (List.length s.wanted),.xl dR s.m,.v (.int .i64 s.k),.v (.int .i64 s.i)]
def aA4 (s:lM):List aT:=[⟨[],3,.vec (.int .i64) s.wanted,false⟩]
noncomputable def BA:Code:=((aG (Tryz.f71.body.getD .skip))[0]?).getD .skip
def Zb (s:lM):T (Rd lM):=
 .br (decide (s.i<s.k)) (.req (0≤s.i∧s.i<(List.length s.m:Int)) (.req (0≤s.i∧s.i<(List.length s.d:Int)) (.br (iR s.d s.i).1 (.req (0≤s.i∧s.i<((List.length s.wanted:Nat):Int)) (.req (s.i.toNat<List.length s.wanted) (.req (0=0∧(List.length s.wanted)=List.length (s.wanted.set s.i.toNat (bF s.m s.i).2.2.2.2.1)) (.ok (.next {s with i:=(IntKind.i64.wrap (s.i+1)),wanted:=(s.wanted.set s.i.toNat (bF s.m s.i).2.2.2.2.1)}))))) (.rl s.wanted (.ok (.next {s with i:=(IntKind.i64.wrap (s.i+1))})))))) (.rl s.wanted (.ok (.stop (.exit 0) s)))
abbrev aq1 (s:lM):=(Zb s).rd s
def ac5 (s:lM):Prop:=s.i=0∧s.k=(List.length s.m:Int)∧s.k≤1000∧s.wanted.length=s.m.length∧(∀j,0≤j→j<s.k→gi s.wanted j=0)∧s.d.length=s.m.length
def MW (s:lM):Prop:=(0≤s.i∧s.i≤s.k)∧s.k=(List.length s.m:Int)∧s.k≤1000∧s.wanted.length=s.m.length∧(∀j,0≤j→j<s.k→gi s.wanted j=if j<s.i then if (iR s.d j).1=true then (bF s.m j).2.2.2.2.1 else 0 else 0)∧s.d.length=s.m.length
def Hg (s:lM):Nat:=(s.k-s.i).toNat
def ajL (x:Ex) (_ s':lM):Prop:=x=.exit 0∧s'.wanted=rH s'.m.length (fun j=>if (iR s'.d j).1=true then (bF s'.m j).2.2.2.2.1 else 0)
theorem azR:∀s,ac5 s→MW s:=by
 intro s h
 obtain ⟨h0,h2,h3,h4,h5,h6⟩:=h
 exact ⟨by omega,h2,h3,h4,fun j j0 j1=>by rw [h5 j j0 j1,if_neg (by omega)],h6⟩
theorem avE (s:lM) (hI:MW s):bQ (fun s'=>MW s'∧Hg s'<Hg s) (fun x s'=>ajL x s s') (aq1 s):=by
 unfold aq1 Zb
 dsimp only [T.rd,T.rl]
 obtain ⟨⟨h0,h1⟩,h2,h3,h4,h5,h6⟩:=hI
 refine ax (fun c1=>?_) (fun c1=>?_)
 ·refine ax (fun c2=>?_) (fun c2=>?_)
  ·have c1:s.i<s.k:=by simpa using c1
   rw [aN (x:=s.i+1) (by omega) (by omega)]
   refine ⟨⟨⟨by simp only;omega,by simp only;omega⟩,h2,h3,by simp only [List.length_set];exact h4,fun j j0 j1=>?_,h6⟩,by simp only [Hg];omega⟩
   simp only
   have hi:=h5 s.i h0 c1
   rw [if_neg (show ¬s.i<s.i by omega)] at hi
   rw [iw h0 (by rw [h4];omega) j0]
   by_cases e:j=s.i
   ·subst e
    rw [if_pos rfl,if_pos (show s.i<s.i+1 by omega)]
    first|(rw [if_pos (by simpa using c2)]) |(rw [if_neg (by simpa using c2)])
   ·rw [if_neg e,h5 j j0 j1]
    by_cases q:j<s.i
    ·rw [if_pos q,if_pos (show j<s.i+1 by omega)]
    ·rw [if_neg q,if_neg (show ¬j<s.i+1 by omega)]
  ·have c1:s.i<s.k:=by simpa using c1
   rw [aN (x:=s.i+1) (by omega) (by omega)]
   refine ⟨⟨⟨by simp only;omega,by simp only;omega⟩,h2,h3,h4,fun j j0 j1=>?_,h6⟩,by simp only [Hg];omega⟩
   simp only
   have hi:=h5 s.i h0 c1
   rw [if_neg (show ¬s.i<s.i by omega)] at hi
   rw [h5 j j0 j1]
   by_cases e:j=s.i
   ·subst e
    rw [if_neg (show ¬s.i<s.i by omega),if_pos (show s.i<s.i+1 by omega)]
    first|(rw [if_pos (by simpa using c2)]) |(rw [if_neg (by simpa using c2)])
   ·by_cases q:j<s.i
    ·rw [if_pos q,if_pos (show j<s.i+1 by omega)]
    ·rw [if_neg q,if_neg (show ¬j<s.i+1 by omega)]
 ·have c1:s.k≤s.i:=by simpa using c1
  refine ⟨rfl,?_⟩
  refine Ii (by rw [fJ];exact h4) fun j j0 j1=>?_
  rw [fJ] at j1
  rw [qU j0 j1,h5 j j0 (by omega),if_pos (show j<s.i by omega)]
def EX:bT lM:=⟨0,53,[0,4,18,19,20],[],aB1,aA4,fun v b=>⟨aS dZ (mZ (v.getD 0 .junk) 0),aS .str (mZ (v.getD 0 .junk) 1),aS eP (mZ (v.getD 0 .junk) 2),aS dR (mZ (v.getD 0 .junk) 3),aS eU (mZ (v.getD 0 .junk) 4),aS oO (mZ (v.getD 0 .junk) 5),aS pV (mZ (v.getD 0 .junk) 6),gI (mZ (v.getD 0 .junk) 7),aS (.int .i64) (mZ (v.getD 0 .junk) 8),aS dR (v.getD 2 .junk),gI (v.getD 3 .junk),gI (v.getD 4 .junk),jy (.int .i64) (aP b 0)⟩,Zb,fun s r=> {r with cs:=s.cs,os:=s.os,ks:=s.ks,gs:=s.gs,bs:=s.bs,l:=s.l,d:=s.d,t:=s.t,od:=s.od,m:=s.m,k:=s.k},fun s=>s,fun _ s=>s,[.exit 0],ac5,MW,Hg⟩
abbrev qL:=EX.run
abbrev aov:=EX.kG
abbrev aw2:=EX.q
theorem atJ (s:lM) (hI:MW s):(Zb s).all (fun _=>True):=by
 refine ⟨fun c1=>⟨?_,?_,fun c2=>⟨?_,?_,?_,trivial⟩,fun c2=>⟨⟨rfl,rfl⟩,trivial⟩⟩,fun c1=>⟨⟨rfl,rfl⟩,trivial⟩⟩
 all_goals ((obtain ⟨⟨h0,h1⟩,h2,h3,h4,h5,h6⟩:=hI;(try simp only [decide_eq_true_eq] at c1);first|omega|exact ⟨rfl,by simp⟩ |(omega)))
noncomputable def ah1:Specs:=bg [(52,yS),(72,Yi)]
theorem ap9:∀g S,ah1 g=some S→Valid Tryz.prog aQ g S:=aU (l:=[(52,yS),(72,Yi)]) ⟨Va,asi,trivial⟩
theorem agE:EX.Ok:=⟨fun s=>by kernel_rfl,fun s=>by kernel_rfl,fun s=>rfl,fun s t r=>rfl,fun s=>rfl,fun s=>by kernel_rfl⟩
theorem afA:EX.Pf (ajL):=⟨azR,fun _ _=>rfl,avE,atJ⟩
theorem alu:bC Tryz.prog aQ (AN 0) (.loop BA) EX.lp:=bT.snd agE afA (aV (Γ:=ah1) (K:=fC) (L:=aF) ap9 aH BA (fun b hb=>by rw [show aG BA=[] by kernel_rfl] at hb;cases hb)) (fun s=>by kernel_rfl)
theorem aoJ (s:lM) (hE:ac5 s):∃s',MW s'∧ajL (aov s) s' (qL s):=bT.fin agE afA s hE
def acv:List LV→T LV
 | [.xq 9 q0]=>(match ([q0 0,q0 1,q0 2,q0 3,q0 4,q0 5,q0 6,q0 7,q0 8]:List LV) with
  | [.xl (.pair .str (.pair (.int .i64) (.pair (.int .i64) (.pair (.int .i64) (.pair (.pair (.int .i64) (.int .i64)) (.pair (.int .i64) (.pair (.int .i64) (.pair (.int .i64) (.pair (.int .i64) (.int .i64)))))))))) cs,.xl (.str) os,.xl (.pair .str (.pair (.int .i64) (.pair (.int .i64) (.int .i64)))) ks,.xl (.pair .str (.pair (.int .i64) (.pair (.int .i64) (.pair (.int .i64) (.pair (.int .i64) (.pair (.int .i64) (.pair (.int .i64) (.int .i64)))))))) gs,.xl (.pair .str (.int .i64)) bs,.xl (.pair (.int .i64) (.pair (.int .i64) (.pair (.int .i64) (.pair (.int .i64) (.int .i64))))) _,.xl (.pair .bool (.pair (.int .i64) (.pair (.int .i64) (.int .i64)))) d,.v (.int .i64 _),.xl (.int .i64) od]=> .req ((List.length gs:Int)≤1000∧d.length=gs.length) (.ok (.iG [.xl (.int .i64) (xK cs os ks gs bs (lT gs) (lV gs d) od),.v (.int .i64 (shE cs os ks gs bs (lT gs) (lV gs d) od))]))
  |_=> .no)
 |_=> .no
noncomputable def Ye:List LV→T LV:=gZ Tryz.prog Tryz.f71.params.toList acv
theorem anr (cs:List Cd) (os:List ByteArray) (ks:List Ko) (gs:List Ch) (bs:List Ba) (l:List Le) (d:List Dm) (t:Int) (od:List Int):bY Tryz.prog aQ (ah1) fC (fun i=>if i=3 then EX.lp else aF i) Tryz.f71 [.xq 9 (fun j=>([.xl dZ cs,.xl .str os,.xl eP ks,.xl dR gs,.xl eU bs,.xl oO l,.xl pV d,.v (.int .i64 t),.xl (.int .i64) od]:List LV).getD j .junk)]=.req (0≤(List.length gs:Int)∧(List.length gs:Int)≤(List.length gs:Int)∧8*(List.length gs:Int)≤2^48∧(List.length gs:Int)<2^63) (.req (0=0∧(List.length gs:Int).toNat=List.length (List.replicate (List.length gs:Int).toNat (0:Int))) (.req (aw2 (⟨cs,os,ks,gs,bs,l,d,t,od,gs,(List.length gs:Int),(0:Int),(List.replicate (List.length gs:Int).toNat (0:Int))⟩:lM)) (.req ((List.length gs:Int)≤1000) (.req (0+(List.length (qL (⟨cs,os,ks,gs,bs,l,d,t,od,gs,(List.length gs:Int),(0:Int),(List.replicate (List.length gs:Int).toNat (0:Int))⟩:lM)).wanted)≤List.length (qL (⟨cs,os,ks,gs,bs,l,d,t,od,gs,(List.length gs:Int),(0:Int),(List.replicate (List.length gs:Int).toNat (0:Int))⟩:lM)).wanted) (.ok (.iG [.xl (.int .i64) (xK cs os ks gs bs (lT gs) (((qL (⟨cs,os,ks,gs,bs,l,d,t,od,gs,(List.length gs:Int),(0:Int),(List.replicate (List.length gs:Int).toNat (0:Int))⟩:lM)).wanted.drop 0).take (List.length (qL (⟨cs,os,ks,gs,bs,l,d,t,od,gs,(List.length gs:Int),(0:Int),(List.replicate (List.length gs:Int).toNat (0:Int))⟩:lM)).wanted)) od),.v (.int .i64 (shE cs os ks gs bs (lT gs) (((qL (⟨cs,os,ks,gs,bs,l,d,t,od,gs,(List.length gs:Int),(0:Int),(List.replicate (List.length gs:Int).toNat (0:Int))⟩:lM)).wanted.drop 0).take (List.length (qL (⟨cs,os,ks,gs,bs,l,d,t,od,gs,(List.length gs:Int),(0:Int),(List.replicate (List.length gs:Int).toNat (0:Int))⟩:lM)).wanted)) od))])))))):=by kernel_rfl
theorem asc:Valid Tryz.prog aQ 71 Ye:=aI Tryz.func71 rfl ap9 aH (L:=(fun i=>if i=3 then EX.lp else aF i)) (fun b hb=>by
 rw [show aG _=[BA] by kernel_rfl] at hb
 simp only [List.mem_cons,List.not_mem_nil,or_false] at hb
 subst hb
 exact alu) (fun args lv h=>by
 unfold acv at h
 split at h
 ·split at h
  case h_2=>cases h
  rename_i heq0
  simp only [canL,canX]
  rw [oU (n:=9) heq0]
  simp only [canL,canX]
  rw [anr]
  rename_i cs os ks gs bs l d t od
  obtain ⟨⟨hn,hd⟩,rfl⟩:=h
  have hE:ac5 ⟨cs,os,ks,gs,bs,l,d,t,od,gs,(List.length gs:Int),0,List.replicate (List.length gs:Int).toNat 0⟩:=⟨rfl,rfl,hn,by simp,fun j _ _=>rM,hd⟩
  obtain ⟨_,_,q1,q2⟩:=aoJ _ hE
  have q2:(qL ⟨cs,os,ks,gs,bs,l,d,t,od,gs,(List.length gs:Int),0,List.replicate (List.length gs:Int).toNat 0⟩).wanted=lV gs d:=q2
  refine ⟨by omega,⟨rfl,by simp⟩,⟨hE,rfl,rfl⟩,hn,by omega,?_⟩
  show LV.iG [LV.xl _ _,_]=_
  rw [List.drop_zero,List.take_length,q2]
 ·cases h)
structure kE where
 m:List Ch
 k:Int
 i:Int
 out:List Int
def aB4 (s:kE):List LV:=[.os 0 1 0 (List.length s.out),.xl dR s.m,.v (.int .i64 s.k),.v (.int .i64 s.i)]
def aA7 (s:kE):List aT:=[⟨[],3,.vec (.int .i64) s.out,false⟩]
noncomputable def TT:Code:=((aG (Tryz.f72.body.getD .skip))[0]?).getD .skip
def Zd (s:kE):T (Rd kE):=
 .br (decide (s.i<s.k)) (.req (0≤s.i∧s.i<(List.length s.m:Int)) (.req (0≤s.i∧s.i<((List.length s.out:Nat):Int)) (.req (s.i.toNat<List.length s.out) (.req (0=0∧(List.length s.out)=List.length (s.out.set s.i.toNat (bF s.m s.i).2.2.2.2.2.2.1)) (.ok (.next {s with i:=(IntKind.i64.wrap (s.i+1)),out:=(s.out.set s.i.toNat (bF s.m s.i).2.2.2.2.2.2.1)})))))) (.rl s.out (.ok (.stop (.exit 0) s)))
abbrev aq3 (s:kE):=(Zd s).rd s
def ac8 (s:kE):Prop:=s.i=0∧s.k=(List.length s.m:Int)∧s.k≤1000∧s.out.length=s.m.length∧(∀j,0≤j→j<s.k→gi s.out j=0)∧True
def MZ (s:kE):Prop:=(0≤s.i∧s.i≤s.k)∧s.k=(List.length s.m:Int)∧s.k≤1000∧s.out.length=s.m.length∧(∀j,0≤j→j<s.k→gi s.out j=if j<s.i then Dh (bF s.m j) else 0)∧True
def O0 (s:kE):Nat:=(s.k-s.i).toNat
def ajN (x:Ex) (_ s':kE):Prop:=x=.exit 0∧s'.out=rH s'.m.length (fun j=>Dh (bF s'.m j))
theorem azU:∀s,ac8 s→MZ s:=by
 intro s h
 obtain ⟨h0,h2,h3,h4,h5,h6⟩:=h
 exact ⟨by omega,h2,h3,h4,fun j j0 j1=>by rw [h5 j j0 j1,if_neg (by omega)],h6⟩
theorem avH (s:kE) (hI:MZ s):bQ (fun s'=>MZ s'∧O0 s'<O0 s) (fun x s'=>ajN x s s') (aq3 s):=by
 unfold aq3 Zd
 dsimp only [T.rd,T.rl]
 obtain ⟨⟨h0,h1⟩,h2,h3,h4,h5,h6⟩:=hI
 refine ax (fun c1=>?_) (fun c1=>?_)
 ·have c1:s.i<s.k:=by simpa using c1
  rw [aN (x:=s.i+1) (by omega) (by omega)]
  refine ⟨⟨⟨by simp only;omega,by simp only;omega⟩,h2,h3,by simp only [List.length_set];exact h4,fun j j0 j1=>?_,h6⟩,by simp only [O0];omega⟩
  simp only
  have hi:=h5 s.i h0 c1
  rw [if_neg (show ¬s.i<s.i by omega)] at hi
  rw [iw h0 (by rw [h4];omega) j0]
  by_cases e:j=s.i
  ·subst e
   rw [if_pos rfl,if_pos (show s.i<s.i+1 by omega)]
   rfl
  ·rw [if_neg e,h5 j j0 j1]
   by_cases q:j<s.i
   ·rw [if_pos q,if_pos (show j<s.i+1 by omega)]
   ·rw [if_neg q,if_neg (show ¬j<s.i+1 by omega)]
 ·have c1:s.k≤s.i:=by simpa using c1
  refine ⟨rfl,?_⟩
  refine Ii (by rw [fJ];exact h4) fun j j0 j1=>?_
  rw [fJ] at j1
  rw [qU j0 j1,h5 j j0 (by omega),if_pos (show j<s.i by omega)]
def JE:bT kE:=⟨0,31,[3,17,18,19],[],aB4,aA7,fun v b=>⟨aS dR (v.getD 1 .junk),gI (v.getD 2 .junk),gI (v.getD 3 .junk),jy (.int .i64) (aP b 0)⟩,Zd,fun s r=> {r with m:=s.m,k:=s.k},fun s=>s,fun _ s=>s,[.exit 0],ac8,MZ,O0⟩
abbrev kW:=JE.run
abbrev aox:=JE.kG
abbrev aw5:=JE.q
noncomputable def zT:Specs:=bg [(52,yS),(66,Yn),(71,Ye)]
theorem DR:∀g S,zT g=some S→Valid Tryz.prog aQ g S:=aU (l:=[(52,yS),(66,Yn),(71,Ye)]) ⟨Va,asq,asc,trivial⟩
noncomputable def ahF:Hand:=inl Tryz.prog aQ zT (lX Tryz.prog aQ (zT) 20 2) 9
theorem apN:dF Tryz.prog aQ ahF:=bU DR (dS DR) 9
theorem atM (s:kE) (hI:MZ s):(Zd s).all (fun _=>True):=by
 refine ⟨fun c1=>⟨?_,?_,?_,?_,trivial⟩,fun c1=>⟨⟨rfl,rfl⟩,trivial⟩⟩
 all_goals ((obtain ⟨⟨h0,h1⟩,h2,h3,h4,h5,h6⟩:=hI;(try simp only [decide_eq_true_eq] at c1);first|omega|exact ⟨rfl,by simp⟩ |(omega)))
theorem agH:JE.Ok:=⟨fun s=>by kernel_rfl,fun s=>by kernel_rfl,fun s=>rfl,fun s t r=>rfl,fun s=>rfl,fun s=>by kernel_rfl⟩
theorem afD:JE.Pf (ajN):=⟨azU,fun _ _=>rfl,avH,atM⟩
theorem alz:bC Tryz.prog aQ (AN 0) (.loop TT) JE.lp:=bT.snd agH afD (bH (Γ:=zT) (K:=ahF) (L:=(tH Tryz.prog aQ zT ahF 20 2)) DR apN TT (fun b _=>dU DR apN 20 2 b)) (fun s=>by kernel_rfl)
theorem aoM (s:kE) (hE:ac8 s):∃s',MZ s'∧ajN (aox s) s' (kW s):=bT.fin agH afD s hE
structure lN where
 cs:List Cd
 os:List ByteArray
 ks:List Ko
 gs:List Ch
 bs:List Ba
 l:List Le
 d:List Dm
 t:Int
 od:List Int
 targets:List Int
 m:List Int
 k:Int
 i:Int
 alive:List Int
def aB2 (s:lN):List LV:=[.xq 9 (fun j=>([.xl dZ s.cs,.xl .str s.os,.xl eP s.ks,.xl dR s.gs,.xl eU s.bs,.xl oO s.l,.xl pV s.d,.v (.int .i64 s.t),.xl (.int .i64) s.od]:List LV).getD j .junk),.xl (.int .i64) s.targets,.os 0 1 0 (List.length s.alive),.xl (.int .i64) s.m,.v (.int .i64 s.k),.v (.int .i64 s.i)]
def aA5 (s:lN):List aT:=[⟨[],3,.vec (.int .i64) s.alive,false⟩]
noncomputable def BB:Code:=((aG (Tryz.f36.body.getD .skip))[0]?).getD .skip
def Zc (s:lN):T (Rd lN):=
 .br (decide (s.i<s.k)) (.req (0≤s.i∧s.i<(List.length s.m:Int)) (.req (0≤s.i∧s.i<((List.length s.alive:Nat):Int)) (.req (s.i.toNat<List.length s.alive) (.req (0≤s.i∧s.i<((List.length s.alive:Nat):Int)) (.req (s.i.toNat<List.length s.alive) (.req (0=0∧(List.length s.alive)=List.length (s.alive.set s.i.toNat (if (s.alive.getD s.i.toNat (Ty.dflt (.int .i64)))<(gi s.m s.i) then (gi s.m s.i) else (s.alive.getD s.i.toNat (Ty.dflt (.int .i64)))))) (.ok (.next {s with i:=(IntKind.i64.wrap (s.i+1)),alive:=(s.alive.set s.i.toNat (if (s.alive.getD s.i.toNat (Ty.dflt (.int .i64)))<(gi s.m s.i) then (gi s.m s.i) else (s.alive.getD s.i.toNat (Ty.dflt (.int .i64)))))})))))))) (.rl s.alive (.ok (.stop (.exit 0) s)))
abbrev aq2 (s:lN):=(Zc s).rd s
def ac6 (s:lN):Prop:=s.i=0∧s.k=(List.length s.m:Int)∧s.k≤1000∧s.alive.length=s.m.length∧(∀j,0≤j→j<s.k→gi s.alive j=Dh (bF s.gs j))∧True
def MX (s:lN):Prop:=(0≤s.i∧s.i≤s.k)∧s.k=(List.length s.m:Int)∧s.k≤1000∧s.alive.length=s.m.length∧(∀j,0≤j→j<s.k→gi s.alive j=if j<s.i then mx (Dh (bF s.gs j)) (gi s.m j) else Dh (bF s.gs j))∧True
def OY (s:lN):Nat:=(s.k-s.i).toNat
def ajM (x:Ex) (_ s':lN):Prop:=x=.exit 0∧s'.alive=rH s'.m.length (fun j=>mx (Dh (bF s'.gs j)) (gi s'.m j))
theorem azS:∀s,ac6 s→MX s:=by
 intro s h
 obtain ⟨h0,h2,h3,h4,h5,h6⟩:=h
 exact ⟨by omega,h2,h3,h4,fun j j0 j1=>by rw [h5 j j0 j1,if_neg (by omega)],h6⟩
theorem avF (s:lN) (hI:MX s):bQ (fun s'=>MX s'∧OY s'<OY s) (fun x s'=>ajM x s s') (aq2 s):=by
 unfold aq2 Zc
 dsimp only [T.rd,T.rl]
 obtain ⟨⟨h0,h1⟩,h2,h3,h4,h5,h6⟩:=hI
 refine ax (fun c1=>?_) (fun c1=>?_)
 ·have c1:s.i<s.k:=by simpa using c1
  rw [aN (x:=s.i+1) (by omega) (by omega)]
  refine ⟨⟨⟨by simp only;omega,by simp only;omega⟩,h2,h3,by simp only [List.length_set];exact h4,fun j j0 j1=>?_,h6⟩,by simp only [OY];omega⟩
  simp only
  have hi:=h5 s.i h0 c1
  rw [if_neg (show ¬s.i<s.i by omega)] at hi
  rw [iw h0 (by rw [h4];omega) j0]
  by_cases e:j=s.i
  ·subst e
   rw [if_pos rfl,if_pos (show s.i<s.i+1 by omega)]
   show mx (gi s.alive s.i) (gi s.m s.i)=_
   rw [hi]
  ·rw [if_neg e,h5 j j0 j1]
   by_cases q:j<s.i
   ·rw [if_pos q,if_pos (show j<s.i+1 by omega)]
   ·rw [if_neg q,if_neg (show ¬j<s.i+1 by omega)]
 ·have c1:s.k≤s.i:=by simpa using c1
  refine ⟨rfl,?_⟩
  refine Ii (by rw [fJ];exact h4) fun j j0 j1=>?_
  rw [fJ] at j1
  rw [qU j0 j1,h5 j j0 (by omega),if_pos (show j<s.i by omega)]
def EY:bT lN:=⟨0,71,[0,4,7,41,42,43],[],aB2,aA5,fun v b=>⟨aS dZ (mZ (v.getD 0 .junk) 0),aS .str (mZ (v.getD 0 .junk) 1),aS eP (mZ (v.getD 0 .junk) 2),aS dR (mZ (v.getD 0 .junk) 3),aS eU (mZ (v.getD 0 .junk) 4),aS oO (mZ (v.getD 0 .junk) 5),aS pV (mZ (v.getD 0 .junk) 6),gI (mZ (v.getD 0 .junk) 7),aS (.int .i64) (mZ (v.getD 0 .junk) 8),aS (.int .i64) (v.getD 1 .junk),aS (.int .i64) (v.getD 3 .junk),gI (v.getD 4 .junk),gI (v.getD 5 .junk),jy (.int .i64) (aP b 0)⟩,Zc,fun s r=> {r with cs:=s.cs,os:=s.os,ks:=s.ks,gs:=s.gs,bs:=s.bs,l:=s.l,d:=s.d,t:=s.t,od:=s.od,targets:=s.targets,m:=s.m,k:=s.k},fun s=>s,fun _ s=>s,[.exit 0],ac6,MX,OY⟩
abbrev qM:=EY.run
abbrev aow:=EY.kG
abbrev aw3:=EY.q
theorem atK (s:lN) (hI:MX s):(Zc s).all (fun _=>True):=by
 refine ⟨fun c1=>⟨?_,?_,?_,?_,?_,?_,trivial⟩,fun c1=>⟨⟨rfl,rfl⟩,trivial⟩⟩
 all_goals ((obtain ⟨⟨h0,h1⟩,h2,h3,h4,h5,h6⟩:=hI;(try simp only [decide_eq_true_eq] at c1);first|omega|exact ⟨rfl,by simp⟩ |(omega)))
noncomputable def ahE:Hand:=inl Tryz.prog aQ zT (kH 72 0 3 (JE.lp) (lX Tryz.prog aQ (zT) 20 2)) 9
theorem apM:dF Tryz.prog aQ ahE:=bU DR (dO Tryz.func72 rfl (by kernel_rfl) alz (dS DR)) 9
theorem agF:EY.Ok:=⟨fun s=>by kernel_rfl,fun s=>by kernel_rfl,fun s=>rfl,fun s t r=>rfl,fun s=>rfl,fun s=>by kernel_rfl⟩
theorem afB:EY.Pf (ajM):=⟨azS,fun _ _=>rfl,avF,atK⟩
theorem alv:bC Tryz.prog aQ (AN 0) (.loop BB) EY.lp:=bT.snd agF afB (aV (Γ:=zT) (K:=ahE) (L:=aF) DR apM BB (fun b hb=>by rw [show aG BB=[] by kernel_rfl] at hb;cases hb)) (fun s=>by kernel_rfl)
theorem aoK (s:lN) (hE:ac6 s):∃s',MX s'∧ajM (aow s) s' (qM s):=bT.fin agF afB s hE
def acw:List LV→T LV
 | [.xq 9 q0]=>(match ([q0 0,q0 1,q0 2,q0 3,q0 4,q0 5,q0 6,q0 7,q0 8]:List LV) with
  | [.xl (.pair .str (.pair (.int .i64) (.pair (.int .i64) (.pair (.int .i64) (.pair (.pair (.int .i64) (.int .i64)) (.pair (.int .i64) (.pair (.int .i64) (.pair (.int .i64) (.pair (.int .i64) (.int .i64)))))))))) cs,.xl (.str) os,.xl (.pair .str (.pair (.int .i64) (.pair (.int .i64) (.int .i64)))) ks,.xl (.pair .str (.pair (.int .i64) (.pair (.int .i64) (.pair (.int .i64) (.pair (.int .i64) (.pair (.int .i64) (.pair (.int .i64) (.int .i64)))))))) gs,.xl (.pair .str (.int .i64)) bs,.xl (.pair (.int .i64) (.pair (.int .i64) (.pair (.int .i64) (.pair (.int .i64) (.int .i64))))) l,.xl (.pair .bool (.pair (.int .i64) (.pair (.int .i64) (.int .i64)))) d,.v (.int .i64 t),.xl (.int .i64) od]=> .req (d.length=gs.length∧sD cs os ks gs bs (lT gs) (lV gs d) od=true∧JS l (List.length gs:Int) t=true∧sD cs os ks gs bs (Xw gs l t) (xK cs os ks gs bs (lT gs) (lV gs d) od) od=true) (.ok (.iG [.xl (.int .i64) (NY cs os ks gs bs l d t od),.v (.int .i64 0)]))
  |_=> .no)
 |_=> .no
noncomputable def Yf:List LV→T LV:=gZ Tryz.prog Tryz.f36.params.toList acw
theorem ant (cs:List Cd) (os:List ByteArray) (ks:List Ko) (gs:List Ch) (bs:List Ba) (l:List Le) (d:List Dm) (t:Int) (od:List Int):bY Tryz.prog aQ (zT) ahE (fun i=>if i=9 then EY.lp else aF i) Tryz.f36 [.xq 9 (fun j=>([.xl dZ cs,.xl .str os,.xl eP ks,.xl dR gs,.xl eU bs,.xl oO l,.xl pV d,.v (.int .i64 t),.xl (.int .i64) od]:List LV).getD j .junk)]=.req ((List.length gs:Int)≤1000∧d.length=gs.length) (.br ((shE cs os ks gs bs (lT gs) (lV gs d) od) !=0) (.ok (.iG [.xl (.int .i64) ([]:List Int),.v (.int .i64 (shE cs os ks gs bs (lT gs) (lV gs d) od))])) (.br ((Uc l (List.length gs:Int) t) !=0) (.ok (.iG [.xl (.int .i64) ([]:List Int),.v (.int .i64 (Uc l (List.length gs:Int) t))])) (.req (0≤(List.length gs:Int)∧(List.length gs:Int)≤(List.length gs:Int)∧8*(List.length gs:Int)≤2^48∧(List.length gs:Int)<2^63) (.req (0=0∧(List.length gs:Int).toNat=List.length (List.replicate (List.length gs:Int).toNat (0:Int))) (.req (aw5 (⟨gs,(List.length gs:Int),(0:Int),(List.replicate (List.length gs:Int).toNat (0:Int))⟩:kE)) (.rl (kW (⟨gs,(List.length gs:Int),(0:Int),(List.replicate (List.length gs:Int).toNat (0:Int))⟩:kE)).out (.req (aw3 (⟨cs,os,ks,gs,bs,l,d,t,od,(xK cs os ks gs bs (lT gs) (lV gs d) od),(oD l (List.length gs:Int) t),(List.length (oD l (List.length gs:Int) t):Int),(0:Int),(kW (⟨gs,(List.length gs:Int),(0:Int),(List.replicate (List.length gs:Int).toNat (0:Int))⟩:kE)).out⟩:lN)) (.req (0+(List.length (qM (⟨cs,os,ks,gs,bs,l,d,t,od,(xK cs os ks gs bs (lT gs) (lV gs d) od),(oD l (List.length gs:Int) t),(List.length (oD l (List.length gs:Int) t):Int),(0:Int),(kW (⟨gs,(List.length gs:Int),(0:Int),(List.replicate (List.length gs:Int).toNat (0:Int))⟩:kE)).out⟩:lN)).alive)≤List.length (qM (⟨cs,os,ks,gs,bs,l,d,t,od,(xK cs os ks gs bs (lT gs) (lV gs d) od),(oD l (List.length gs:Int) t),(List.length (oD l (List.length gs:Int) t):Int),(0:Int),(kW (⟨gs,(List.length gs:Int),(0:Int),(List.replicate (List.length gs:Int).toNat (0:Int))⟩:kE)).out⟩:lN)).alive) (.ok (.iG [.xl (.int .i64) (xK cs os ks gs bs (((qM (⟨cs,os,ks,gs,bs,l,d,t,od,(xK cs os ks gs bs (lT gs) (lV gs d) od),(oD l (List.length gs:Int) t),(List.length (oD l (List.length gs:Int) t):Int),(0:Int),(kW (⟨gs,(List.length gs:Int),(0:Int),(List.replicate (List.length gs:Int).toNat (0:Int))⟩:kE)).out⟩:lN)).alive.drop 0).take (List.length (qM (⟨cs,os,ks,gs,bs,l,d,t,od,(xK cs os ks gs bs (lT gs) (lV gs d) od),(oD l (List.length gs:Int) t),(List.length (oD l (List.length gs:Int) t):Int),(0:Int),(kW (⟨gs,(List.length gs:Int),(0:Int),(List.replicate (List.length gs:Int).toNat (0:Int))⟩:kE)).out⟩:lN)).alive)) (xK cs os ks gs bs (lT gs) (lV gs d) od) od),.v (.int .i64 (shE cs os ks gs bs (((qM (⟨cs,os,ks,gs,bs,l,d,t,od,(xK cs os ks gs bs (lT gs) (lV gs d) od),(oD l (List.length gs:Int) t),(List.length (oD l (List.length gs:Int) t):Int),(0:Int),(kW (⟨gs,(List.length gs:Int),(0:Int),(List.replicate (List.length gs:Int).toNat (0:Int))⟩:kE)).out⟩:lN)).alive.drop 0).take (List.length (qM (⟨cs,os,ks,gs,bs,l,d,t,od,(xK cs os ks gs bs (lT gs) (lV gs d) od),(oD l (List.length gs:Int) t),(List.length (oD l (List.length gs:Int) t):Int),(0:Int),(kW (⟨gs,(List.length gs:Int),(0:Int),(List.replicate (List.length gs:Int).toNat (0:Int))⟩:kE)).out⟩:lN)).alive)) (xK cs os ks gs bs (lT gs) (lV gs d) od) od))])))))))))):=by kernel_rfl
theorem ase:Valid Tryz.prog aQ 36 Yf:=aI Tryz.func36 rfl DR apM (L:=(fun i=>if i=9 then EY.lp else aF i)) (fun b hb=>by
 rw [show aG _=[BB] by kernel_rfl] at hb
 simp only [List.mem_cons,List.not_mem_nil,or_false] at hb
 subst hb
 exact alv) (fun args lv h=>by
 unfold acw at h
 split at h
 ·split at h
  case h_2=>cases h
  rename_i heq0
  simp only [canL,canX]
  rw [oU (n:=9) heq0]
  simp only [canL,canX]
  rw [ant]
  rename_i cs os ks gs bs l d t od
  obtain ⟨⟨hd,hk,hv,hk2⟩,rfl⟩:=h
  have gl:=(gX.1 (jA.1 hk).1).1.2.2.2.2.1
  have ea:oD l (List.length gs:Int) t=Xx gs.length l t:=by unfold oD;rw [if_pos hv,Int.toNat_natCast]
  rw [aeF hk,show Uc l (List.length gs:Int) t=0 by unfold Uc;rw [if_pos hv]]
  refine ⟨⟨by omega,hd⟩,fun c=>absurd c (by decide),fun _=>⟨fun c=>absurd c (by decide),fun _=>?_⟩⟩
  have hE:ac8 ⟨gs,(List.length gs:Int),0,List.replicate (List.length gs:Int).toNat 0⟩:=⟨rfl,rfl,by simp only;omega,by simp,fun j _ _=>rM,trivial⟩
  obtain ⟨_,_,q1,q2⟩:=aoM _ hE
  have q2:(kW ⟨gs,(List.length gs:Int),0,List.replicate (List.length gs:Int).toNat 0⟩).out=lT gs:=q2
  have hE2:ac6 ⟨cs,os,ks,gs,bs,l,d,t,od,xK cs os ks gs bs (lT gs) (lV gs d) od,oD l (List.length gs:Int) t,(List.length (oD l (List.length gs:Int) t):Int),0,(kW ⟨gs,(List.length gs:Int),0,List.replicate (List.length gs:Int).toNat 0⟩).out⟩:=⟨rfl,rfl,by simp only;rw [ea,BN];omega,by simp only;rw [q2,ea,BN];exact fJ,fun j j0 j1=>by
   simp only at j1⊢
   rw [ea,BN] at j1
   rw [q2]
   exact qU j0 j1,trivial⟩
  obtain ⟨_,_,q3,q4⟩:=aoK _ hE2
  have q4:(qM ⟨cs,os,ks,gs,bs,l,d,t,od,xK cs os ks gs bs (lT gs) (lV gs d) od,oD l (List.length gs:Int) t,(List.length (oD l (List.length gs:Int) t):Int),0,(kW ⟨gs,(List.length gs:Int),0,List.replicate (List.length gs:Int).toNat 0⟩).out⟩).alive=Xw gs l t:=q4.trans (by
   show rH (oD l (List.length gs:Int) t).length (fun j=>mx (Dh (bF gs j)) (gi (oD l (List.length gs:Int) t) j))=_
   rw [ea,BN]
   rfl)
  refine ⟨by omega,⟨rfl,by simp⟩,⟨hE,rfl,rfl⟩,⟨rfl,rfl⟩,⟨hE2,rfl,rfl⟩,by omega,?_⟩
  show LV.iG [LV.xl _ _,_]=_
  rw [List.drop_zero,List.take_length,q4,aeF hk2]
  rfl
 ·cases h)
end Go.Proofs.YtlihnbimgclogaaGreatDoor
namespace Go.Proofs.YtlihnbimgclogaaGreatDoor
open Go.Sx
noncomputable def aeO:Array Tmp×Code×Code:=((jJ (Tryz.f38.body.getD .skip))[0]?).getD (#[],.skip,.skip)
noncomputable def ayc:Array Tmp:=aeO.1
noncomputable def ayv:Code:=aeO.2.1
noncomputable def ayq:Code:=aeO.2.2
structure mW where
 i:Int
 cs:List Cd
 os:List ByteArray
 ks:List Ko
 gs:List Ch
 bs:List Ba
 l:List Le
 d:List Dm
 t:Int
 od:List Int
 c:Int
 a:Int
 r:Bool
 m:List Le
 st:LS
def aB3 (s:mW):List LV:=[.uI 5,.own 4 0,.v (.int .i64 s.i)]
noncomputable def aA6 (s:mW):List aT:=[⟨[.xq 9 (fun j=>([.xl dZ s.cs,.xl .str s.os,.xl eP s.ks,.xl dR s.gs,.xl eU s.bs,.xl oO s.l,.xl pV s.d,.v (.int .i64 s.t),.xl (.int .i64) s.od]:List LV).getD j .junk)],73,.cl,false⟩,⟨[.v (.int .i64 s.c)],3,.cl,false⟩,⟨[.v (.int .i64 s.a)],3,.cl,false⟩,⟨[.v (.bool s.r)],4,.cl,false⟩,⟨[.xl oO s.m],29,.cl,false⟩,⟨[.junk,.junk,.junk,.own 0 0,.own 1 0,.own 2 0,.own 3 0,.junk,.v (.tuple #[]),.junk,.junk,.junk,.junk,.junk,.junk,.junk,.junk,.junk,.junk,.junk,.junk,.junk,.junk,.junk,.junk,.junk,.v (.tuple #[]),.v (.tuple #[]),.v (.tuple #[]),.v (.tuple #[]),.v (.tuple #[]),.v (.tuple #[]),.v (.tuple #[]),.v (.tuple #[]),.v (.tuple #[]),.v (.tuple #[]),.v (.tuple #[]),.v (.tuple #[]),.v (.tuple #[]),.v (.tuple #[]),.v (.tuple #[]),.v (.tuple #[]),.v (.tuple #[]),.v (.tuple #[]),.v (.tuple #[])],0,.kL ayc ayv ayq s.st,false⟩]
noncomputable def TS:Code:=((aG (Tryz.f115.body.getD .skip))[0]?).getD .skip
def QV (s:mW):T (Rd mW):=
 .br (decide (s.i≥0)) (.req (0≤s.i∧s.i<(List.length s.m:Int)) (.br ((kC s.m s.i).2.1==s.c) (.ok (.stop (.ret) {s with r:=(((kC s.m s.i).2.2.1 !=s.a) ||(decide ((kC s.m s.i).2.2.2.1≤(IntKind.i64.wrap (s.t-6))))),st:=(.done (.ret))})) (.ok (.next {s with i:=(IntKind.i64.wrap (s.i-1))})))) (.ok (.stop (.exit 0) s))
abbrev aaW (s:mW):=(QV s).rd s
def ac7 (s:mW):Prop:=s.st=.ready∧s.i=(List.length s.m:Int)-1∧(List.length s.m:Int)≤1000∧0≤s.t∧s.t≤1000000
def UH (s:mW):Prop:=s.st=.ready∧(-1≤s.i∧s.i<(List.length s.m:Int))∧(List.length s.m:Int)≤1000∧0≤s.t∧s.t≤1000000
def OZ (s:mW):Nat:=(s.i+1).toNat
def arp (_:Ex) (_ _:mW):Prop:=True
theorem azT:∀s,ac7 s→UH s:=by
 intro s h
 obtain ⟨h0,h1,h2⟩:=h
 exact ⟨h0,by omega,h2⟩
theorem avG (s:mW) (hI:UH s):bQ (fun s'=>UH s'∧OZ s'<OZ s) (fun x s'=>arp x s s') (aaW s):=by
 unfold aaW QV
 dsimp only [T.rd,T.rl]
 obtain ⟨hs,⟨h0,h1⟩,h2⟩:=hI
 refine ax (fun c1=>ax (fun c2=>trivial) (fun c2=>?_)) (fun c1=>trivial)
 have c1:0≤s.i:=by simpa using c1
 rw [aN (x:=s.i-1) (by omega) (by omega)]
 exact ⟨⟨hs,⟨by simp only;omega,by simp only;omega⟩,h2⟩,by simp only [OZ];omega⟩
noncomputable def JD:bT mW:=⟨6,19,[0,1,3],[],aB3,aA6,fun v b=>⟨gI (v.getD 2 .junk),aS dZ (mZ (aZ (aP b 0) 0) 0),aS .str (mZ (aZ (aP b 0) 0) 1),aS eP (mZ (aZ (aP b 0) 0) 2),aS dR (mZ (aZ (aP b 0) 0) 3),aS eU (mZ (aZ (aP b 0) 0) 4),aS oO (mZ (aZ (aP b 0) 0) 5),aS pV (mZ (aZ (aP b 0) 0) 6),gI (mZ (aZ (aP b 0) 0) 7),aS (.int .i64) (mZ (aZ (aP b 0) 0) 8),gI (aZ (aP b 1) 0),gI (aZ (aP b 2) 0),x9 (aZ (aP b 3) 0),aS oO (aZ (aP b 4) 0),.ready⟩,QV,fun s r=> {r with cs:=s.cs,os:=s.os,ks:=s.ks,gs:=s.gs,bs:=s.bs,l:=s.l,d:=s.d,t:=s.t,od:=s.od,c:=s.c,a:=s.a,m:=s.m},fun s=> {s with st:=.ready},fun x s=> {s with st:=(match x with| .ret=>(.done (.ret)) | .exit 0=> .ready|_=> .ready)},[.ret,.exit 0],ac7,UH,OZ⟩
noncomputable abbrev ZG:=JD.run
noncomputable abbrev abl:=JD.kG
abbrev aw4:=JD.q
noncomputable def DX:Specs:=bg []
theorem Ib:∀g S,DX g=some S→Valid Tryz.prog aQ g S:=aU (l:=[]) trivial
noncomputable def ahD:Hand:=inl Tryz.prog aQ DX (lX Tryz.prog aQ (DX) 20 2) 9
theorem apL:dF Tryz.prog aQ ahD:=bU Ib (dS Ib) 9
theorem atL (s:mW) (hI:UH s):(QV s).all (fun _=>True):=by
 refine ⟨fun c1=>⟨?_,fun _=>trivial,fun _=>trivial⟩,fun _=>trivial⟩
 ·(obtain ⟨hs,⟨h0,h1⟩,h2⟩:=hI;simp only [decide_eq_true_eq] at c1;omega)
theorem agG:JD.Ok:=⟨fun s=>by kernel_rfl,fun s=>by kernel_rfl,fun s=>rfl,fun s t r=>rfl,fun s=>rfl,fun s=>by kernel_rfl⟩
theorem afC:JD.Pf (arp):=⟨azT,fun s h=>by
 obtain ⟨i,cs,os,ks,gs,bs,l,d,t,od,c,a,r,m,st⟩:=s
 have e:st=.ready:=h.1
 subst e
 rfl,avG,atL⟩
theorem aly:bC Tryz.prog aQ (AN 6) (.loop TS) JD.lp:=bT.snd agG afC (bH (Γ:=DX) (K:=ahD) (L:=(tH Tryz.prog aQ DX ahD 20 2)) Ib apL TS (fun b _=>dU Ib apL 20 2 b)) (fun s=>by kernel_rfl)
theorem aoL (s:mW) (hE:ac7 s):(fun (x:Ex) (s':mW) (v:Bool)=>(x=.ret∧s'.r=v)∨(x=.exit 0∧v=true)) (abl s) (ZG s) ((fun s:mW=>nwO s.a s.t ((s.m.take (s.i+1).toNat).reverse.find? (fun x=>x.2.1==s.c))) s):=by
 exact bT.xO agG afC (fun s:mW=>nwO s.a s.t ((s.m.take (s.i+1).toNat).reverse.find? (fun x=>x.2.1==s.c))) (fun x s' v=>(x=.ret∧s'.r=v)∨(x=.exit 0∧v=true)) (fun s hI=>by
  show bQ _ _ (aaW s)
  unfold aaW QV
  dsimp only [T.rd,T.rl]
  obtain ⟨hs,⟨h0,h1⟩,h2⟩:=hI
  refine ax (fun c1=>?_) (fun c1=>?_)
  ·have c1:0≤s.i:=by simpa using c1
   have e:=(Io c1 (show s.i<(List.length s.m:Int) by omega)).2
   refine ax (fun c2=> .inl ⟨rfl,?_⟩) (fun c2=>?_)
   ·rw [e,List.reverse_append]
    show _=nwO s.a s.t (List.find? _ (kC s.m s.i::_))
    rw [List.find?_cons_of_pos (by exact c2)]
    simp only [nwO]
    rw [aN (x:=s.t-6) (by omega) (by omega)]
   ·show nwO _ _ _=nwO _ _ _
    simp only
    rw [aN (x:=s.i-1) (by omega) (by omega),e,List.reverse_append]
    show _=nwO s.a s.t (List.find? _ (kC s.m s.i::_))
    rw [List.find?_cons_of_neg (by rw [c2];decide),show (s.i-1+1).toNat=s.i.toNat by omega]
    rfl
  ·have c1:s.i<0:=by simpa using c1
   refine .inr ⟨rfl,?_⟩
   rw [show (s.i+1).toNat=0 by omega]
   rfl) s hE
def acy:List LV→T LV
 | [.xq 9 q0,.v (.int .i64 i),.v (.int .i64 a)]=>(match ([q0 0,q0 1,q0 2,q0 3,q0 4,q0 5,q0 6,q0 7,q0 8]:List LV) with
  | [.xl (.pair .str (.pair (.int .i64) (.pair (.int .i64) (.pair (.int .i64) (.pair (.pair (.int .i64) (.int .i64)) (.pair (.int .i64) (.pair (.int .i64) (.pair (.int .i64) (.pair (.int .i64) (.int .i64)))))))))) _,.xl (.str) _,.xl (.pair .str (.pair (.int .i64) (.pair (.int .i64) (.int .i64)))) _,.xl (.pair .str (.pair (.int .i64) (.pair (.int .i64) (.pair (.int .i64) (.pair (.int .i64) (.pair (.int .i64) (.pair (.int .i64) (.int .i64)))))))) gs,.xl (.pair .str (.int .i64)) _,.xl (.pair (.int .i64) (.pair (.int .i64) (.pair (.int .i64) (.pair (.int .i64) (.int .i64))))) l,.xl (.pair .bool (.pair (.int .i64) (.pair (.int .i64) (.int .i64)))) _,.v (.int .i64 t),.xl (.int .i64) _]=> .req ((0≤i∧i<(List.length gs:Int))∧(List.length l:Int)≤1000∧0≤t∧t≤1000000) (.ok (.v (.bool (nwB gs l t i a))))
  |_=> .no)
 |_=> .no
noncomputable def Yg:List LV→T LV:=gZ Tryz.prog Tryz.f38.params.toList acy
noncomputable def apX:Hand:=inl Tryz.prog aQ DX (kH 115 6 1 (JD.lp) (lX Tryz.prog aQ (DX) 20 2)) 9
theorem ay7:dF Tryz.prog aQ apX:=bU Ib (dO Tryz.func115 rfl (by kernel_rfl) aly (dS Ib)) 9
theorem anu (cs:List Cd) (os:List ByteArray) (ks:List Ko) (gs:List Ch) (bs:List Ba) (l:List Le) (d:List Dm) (t:Int) (od:List Int) (i a:Int):bY Tryz.prog aQ (DX) apX aF Tryz.f38 [.xq 9 (fun j=>([.xl dZ cs,.xl .str os,.xl eP ks,.xl dR gs,.xl eU bs,.xl oO l,.xl pV d,.v (.int .i64 t),.xl (.int .i64) od]:List LV).getD j .junk),.v (.int .i64 i),.v (.int .i64 a)]=.req (0≤i∧i<(List.length gs:Int)) (.br (decide (a≤(bF gs i).2.2.2.2.2.2.1)) (.ok (.v (.bool false))) (.req (aw4 (⟨(IntKind.i64.wrap ((List.length l:Int)-1)),cs,os,ks,gs,bs,l,d,t,od,i,a,false,l,.ready⟩:mW)) (.br (iQ (abl (⟨(IntKind.i64.wrap ((List.length l:Int)-1)),cs,os,ks,gs,bs,l,d,t,od,i,a,false,l,.ready⟩:mW)) (.ret)) (.ok (.v (.bool (ZG (⟨(IntKind.i64.wrap ((List.length l:Int)-1)),cs,os,ks,gs,bs,l,d,t,od,i,a,false,l,.ready⟩:mW)).r))) (.ok (.v (.bool true)))))):=by kernel_rfl
theorem asf:Valid Tryz.prog aQ 38 Yg:=aI Tryz.func38 rfl Ib ay7 (aY (by kernel_rfl)) (fun args lv h=>by
 unfold acy at h
 split at h
 ·split at h
  case h_2=>cases h
  rename_i heq0
  simp only [canL,canX]
  rw [oU (n:=9) heq0]
  simp only [canL,canX]
  rw [anu]
  rename_i i a _ cs os ks gs bs l d t od
  obtain ⟨⟨hi,hl,ht⟩,rfl⟩:=h
  refine ⟨hi,fun c=>congrArg (fun z=>LV.v (.bool z)) ?_,fun c=>?_⟩
  ·have c:a≤Dh (bF gs i):=of_decide_eq_true c
   unfold nwB
   rw [decide_eq_true c]
   rfl
  have c:¬a≤Dh (bF gs i):=of_decide_eq_false c
  have hE:ac7 ⟨IntKind.i64.wrap ((List.length l:Int)-1),cs,os,ks,gs,bs,l,d,t,od,i,a,false,l,.ready⟩:=⟨rfl,by show IntKind.i64.wrap ((List.length l:Int)-1)=_;rw [aN (by omega) (by omega)],hl,ht⟩
  have ev:nwB gs l t i a=nwO a t ((l.take (IntKind.i64.wrap ((List.length l:Int)-1)+1).toNat).reverse.find? (fun x=>x.2.1==i)):=by
   unfold nwB
   rw [decide_eq_false c,aN (x:=(List.length l:Int)-1) (by omega) (by omega),show ((List.length l:Int)-1+1).toNat=l.length by omega,List.take_length]
   rfl
  refine ⟨⟨hE,rfl,rfl⟩,?_⟩
  rcases aoL _ hE with ⟨q1,q2⟩ |⟨q1,q2⟩<;>rw [q1]
  ·exact ⟨fun _=>congrArg (fun z=>LV.v (.bool z)) (q2.trans ev.symm),fun h=>by cases h⟩
  ·exact ⟨fun h=>(by cases h),fun _=>congrArg (fun z=>LV.v (.bool z)) (q2.symm.trans ev.symm)⟩
 ·cases h)
end Go.Proofs.YtlihnbimgclogaaGreatDoor
namespace Go.Proofs.YtlihnbimgclogaaGreatDoor
open Go.Sx
def Um:List LV→T LV
 | [.v (.int .i64 _)]=> .ok (.v (.bool false))
 |_=> .no
noncomputable def Qb:List LV→T LV:=gZ Tryz.prog Tryz.f85.params.toList Um
noncomputable def SN:Specs:=bg []
theorem aar:∀g S,SN g=some S→Valid Tryz.prog aQ g S:=aU (l:=[]) trivial
theorem ag1 (x:Int):bY Tryz.prog aQ (SN) fC aF Tryz.f85 [.v (.int .i64 x)]=.ok (.v (.bool (x !=x))):=by kernel_rfl
theorem akv:Valid Tryz.prog aQ 85 Qb:=aI Tryz.func85 rfl aar aH (aY (by kernel_rfl)) (fun args lv h=>by
 unfold Um at h
 split at h
 ·simp only [canL,canX]
  rw [ag1]
  obtain rfl:=h
  exact congrArg (fun z=>LV.v (.bool z)) (by simp)
 ·cases h)
def acC:List LV→T LV
 | [.v (.int .i64 x),.v (.int .i64 y)]=> .ok (.v (.int .i64 (cm x y)))
 |_=> .no
noncomputable def Yk:List LV→T LV:=gZ Tryz.prog Tryz.f47.params.toList acC
noncomputable def aqv:Specs:=bg [(85,Qb)]
theorem azu:∀g S,aqv g=some S→Valid Tryz.prog aQ g S:=aU (l:=[(85,Qb)]) ⟨akv,trivial⟩
theorem anz (x y:Int):bY Tryz.prog aQ (aqv) fC aF Tryz.f47 [.v (.int .i64 x),.v (.int .i64 y)]=.br false (.br false (.ok (.v (.int .i64 0))) (.ok (.v (.int .i64 (-1))))) (.br false (.ok (.v (.int .i64 1))) (.br (decide (x<y)) (.ok (.v (.int .i64 (-1)))) (.br (decide (x>y)) (.ok (.v (.int .i64 1))) (.ok (.v (.int .i64 0)))))):=by kernel_rfl
theorem asl:Valid Tryz.prog aQ 47 Yk:=aI Tryz.func47 rfl azu aH (aY (by kernel_rfl)) (fun args lv h=>by
 unfold acC at h
 split at h
 ·simp only [canL,canX]
  rw [anz]
  obtain rfl:=h
  unfold cm
  refine ⟨fun h=>(by cases h),fun _=>⟨fun h=>(by cases h),fun _=>⟨fun c=>?_,fun c=>⟨fun c2=>?_,fun c2=>?_⟩⟩⟩⟩<;>refine congrArg (fun z=>LV.v (.int .i64 z)) ?_
  ·rw [if_pos (by simpa using c)]
  ·rw [if_neg (by simpa using c),if_pos (by simpa using c2)]
  ·rw [if_neg (by simpa using c),if_neg (by simpa using c2)]
 ·cases h)
structure mX where
 r:Int
 z:Int
 l:List Int
 n:Int
 i:Int
def aB7 (s:mX):List LV:=[.v (.int .i64 s.r),.v (.int .i64 s.z),.xl (.int .i64) s.l,.v (.int .i64 s.n),.v (.int .i64 s.i)]
def aBa (_:mX):List aT:=[]
noncomputable def BG:Code:=((aG (Tryz.f46.body.getD .skip))[0]?).getD .skip
def QW (s:mX):T (Rd mX):=
 .br (decide (s.i<s.n)) (.req (0≤s.i∧s.i<(List.length s.l:Int)) (.br ((gi s.l s.i) !=s.z) (.ok (.stop (.ret) {s with r:=(gi s.l s.i)})) (.ok (.next {s with i:=(IntKind.i64.wrap (s.i+1))})))) (.ok (.stop (.exit 0) s))
abbrev aaX (s:mX):=(QW s).rd s
def ada (s:mX):Prop:=s.i=0∧s.n=(List.length s.l:Int)∧s.n≤1000∧s.z=0
def UI (s:mX):Prop:=(0≤s.i∧s.i≤s.n)∧s.n=(List.length s.l:Int)∧s.n≤1000∧s.z=0
def O3 (s:mX):Nat:=(s.n-s.i).toNat
def arq (_:Ex) (_ _:mX):Prop:=True
theorem azZ:∀s,ada s→UI s:=by
 intro s h
 obtain ⟨h0,h2,h3,h4⟩:=h
 exact ⟨by omega,h2,h3,h4⟩
theorem avP (s:mX) (hI:UI s):bQ (fun s'=>UI s'∧O3 s'<O3 s) (fun x s'=>arq x s s') (aaX s):=by
 unfold aaX QW
 dsimp only [T.rd,T.rl]
 obtain ⟨⟨h0,h1⟩,h2,h3,h4⟩:=hI
 refine ax (fun c1=>?_) (fun c1=>?_)
 ·refine ax (fun c2=>?_) (fun c2=>?_)
  ·exact trivial
  ·have c1:s.i<s.n:=by simpa using c1
   rw [aN (x:=s.i+1) (by omega) (by omega)]
   exact ⟨⟨⟨by simp only;omega,by simp only;omega⟩,h2,h3,h4⟩,by simp only [O3];omega⟩
 ·exact trivial
def E8:bT mX:=⟨0,18,[2,3,6,7,8],[],aB7,aBa,fun v _=>⟨gI (v.getD 0 .junk),gI (v.getD 1 .junk),aS (.int .i64) (v.getD 2 .junk),gI (v.getD 3 .junk),gI (v.getD 4 .junk)⟩,QW,fun s r=> {r with z:=s.z,l:=s.l,n:=s.n},fun s=>s,fun _ s=>s,[.ret,.exit 0],ada,UI,O3⟩
abbrev ZH:=E8.run
abbrev abm:=E8.kG
abbrev aw8:=E8.q
theorem atP (s:mX) (hI:UI s):(QW s).all (fun _=>True):=by
 refine ⟨fun c1=>⟨?_,fun _=>trivial,fun _=>trivial⟩,fun _=>trivial⟩
 ·(obtain ⟨⟨h0,h1⟩,h2,h3⟩:=hI;simp only [decide_eq_true_eq] at c1;omega)
theorem agJ:E8.Ok:=⟨fun s=>by kernel_rfl,fun s=>by kernel_rfl,fun s=>rfl,fun s t r=>rfl,fun s=>rfl,fun s=>by kernel_rfl⟩
theorem afF:E8.Pf (arq):=⟨azZ,fun _ _=>rfl,avP,atP⟩
theorem alC:bC Tryz.prog aQ (AN 0) (.loop BG) E8.lp:=bT.snd agJ afF (aV (Γ:=SN) (K:=fC) (L:=aF) aar aH BG (fun b hb=>by rw [show aG BG=[] by kernel_rfl] at hb;cases hb)) (fun s=>by kernel_rfl)
theorem aoR (s:mX) (hE:ada s):(fun (x:Ex) (s':mX) (v:Int)=>(x=.ret∧s'.r=v)∨(x=.exit 0∧s'.z=v)) (abm s) (ZH s) ((fun s:mX=>orI (s.l.drop s.i.toNat)) s):=by
 exact bT.xO agJ afF (fun s:mX=>orI (s.l.drop s.i.toNat)) (fun x s' v=>(x=.ret∧s'.r=v)∨(x=.exit 0∧s'.z=v)) (fun s hI=>by
  show bQ _ _ (aaX s)
  unfold aaX QW
  dsimp only [T.rd,T.rl]
  obtain ⟨⟨h0,h1⟩,h2,h3,h4⟩:=hI
  refine ax (fun c1=>?_) (fun c1=>?_)
  ·have c1:s.i<s.n:=by simpa using c1
   have e:s.l.drop s.i.toNat=gi s.l s.i::s.l.drop (s.i+1).toNat:=(gi_step h0 (show s.i<(List.length s.l:Int) by omega)).1
   rw [aN (x:=s.i+1) (by omega) (by omega)]
   refine ax (fun c2=>?_) (fun c2=>?_)
   ·refine .inl ⟨rfl,?_⟩
    simp only
    rw [e,orI,if_pos (by rw [h4] at c2;exact c2)]
   ·show orI _=orI _
    simp only
    rw [e,orI,if_neg (by rw [h4] at c2;rw [c2];simp)]
  ·have c1:s.n≤s.i:=by simpa using c1
   refine .inr ⟨rfl,?_⟩
   rw [List.drop_eq_nil_of_le (by omega),h4]
   rfl) s hE
def acD:List LV→T LV
 | [.xl (.int .i64) l]=> .req ((List.length l:Int)≤1000) (.ok (.v (.int .i64 (orI l))))
 |_=> .no
noncomputable def Yl:List LV→T LV:=gZ Tryz.prog Tryz.f46.params.toList acD
theorem anA (l:List Int):bY Tryz.prog aQ (SN) fC (fun i=>if i=3 then E8.lp else aF i) Tryz.f46 [.xl (.int .i64) l]=.req (aw8 (⟨(0:Int),(0:Int),l,(List.length l:Int),(0:Int)⟩:mX)) (.br (iQ (abm (⟨(0:Int),(0:Int),l,(List.length l:Int),(0:Int)⟩:mX)) (.ret)) (.ok (.v (.int .i64 (ZH (⟨(0:Int),(0:Int),l,(List.length l:Int),(0:Int)⟩:mX)).r))) (.ok (.v (.int .i64 (0:Int))))):=by kernel_rfl
theorem asn:Valid Tryz.prog aQ 46 Yl:=aI Tryz.func46 rfl aar aH (L:=(fun i=>if i=3 then E8.lp else aF i)) (fun b hb=>by
 rw [show aG _=[BG] by kernel_rfl] at hb
 simp only [List.mem_cons,List.not_mem_nil,or_false] at hb
 subst hb
 exact alC) (fun args lv h=>by
 unfold acD at h
 split at h
 ·simp only [canL,canX]
  rw [anA]
  rename_i l
  obtain ⟨hl,rfl⟩:=h
  have hE:ada ⟨0,0,l,(List.length l:Int),0⟩:=⟨rfl,rfl,hl,rfl⟩
  refine ⟨⟨hE,rfl,rfl⟩,?_⟩
  rcases aoR _ hE with ⟨q1,q2⟩ |⟨q1,q2⟩<;>rw [q1]
  ·exact ⟨fun _=>congrArg (fun z=>LV.v (.int .i64 z)) q2,fun h=>by cases h⟩
  ·exact ⟨fun h=>(by cases h),fun _=>congrArg (fun z=>LV.v (.int .i64 z)) q2⟩
 ·cases h)
def abL:List LV→T LV
 | [.v (.int .i64 i),.xq 1 q0,.xq 1 q1]=>(match ([q0 0]:List LV) with
  | [.xl (.pair .bool (.pair (.int .i64) (.pair (.int .i64) (.int .i64)))) d]=>(match ([q1 0]:List LV) with
  | [.v (.int .i64 t)]=> .req (wI d t∧0≤i∧i<(List.length d:Int)) (.ok (.v (.int .i64 (Fv d t i))))
  |_=> .no)
  |_=> .no)
 |_=> .no
noncomputable def yR:List LV→T LV:=gZ Tryz.prog Tryz.f43.params.toList abL
theorem amN (i:Int) (d:List Dm) (t:Int):bY Tryz.prog aQ (SN) fC aF Tryz.f43 [.v (.int .i64 i),.xq 1 (fun j=>([.xl pV d]:List LV).getD j .junk),.xq 1 (fun j=>([.v (.int .i64 t)]:List LV).getD j .junk)]=.req (0≤i∧i<(List.length d:Int)) (.req (0≤i∧i<(List.length d:Int)) (.ok (.v (.int .i64 (IntKind.i64.wrap ((IntKind.i64.wrap ((iR d i).2.2.1-t))-(iR d i).2.1)))))):=by kernel_rfl
theorem U9:Valid Tryz.prog aQ 43 yR:=aI Tryz.func43 rfl aar aH (aY (by kernel_rfl)) (fun args lv h=>by
 unfold abL at h
 split at h
 ·split at h
  case h_2=>cases h
  rename_i heq0
  split at h
  case h_2=>cases h
  rename_i heq1
  simp only [canL,canX]
  rw [oU (n:=1) heq0]
  simp only [canL,canX]
  rw [oU (n:=1) heq1]
  simp only [canL,canX]
  rw [amN]
  rename_i i _ _ _ d _ t
  obtain ⟨⟨hw,hi⟩,rfl⟩:=h
  have b:=aef hw hi.1 hi.2
  have ht:=hw.2
  refine ⟨hi,hi,congrArg (fun z=>LV.v (.int .i64 z)) ?_⟩
  unfold Fv
  rw [aN (x:=(iR d i).2.2.1-t) (by omega) (by omega),aN (by omega) (by omega)]
 ·cases h)
def aje:List LV→T LV
 | [.v (.int .i64 a),.v (.int .i64 b),.xq 1 q0,.xq 1 q1]=>(match ([q0 0]:List LV) with
  | [.xl (.pair .bool (.pair (.int .i64) (.pair (.int .i64) (.int .i64)))) d]=>(match ([q1 0]:List LV) with
  | [.fn 43 [.xq 1 q2,.xq 1 q3]]=>(match ([q2 0]:List LV) with
  | [.xl (.pair .bool (.pair (.int .i64) (.pair (.int .i64) (.int .i64)))) e]=>(match ([q3 0]:List LV) with
  | [.v (.int .i64 t)]=> .req (d=e∧wI d t∧(0≤a∧a<(List.length d:Int))∧0≤b∧b<(List.length d:Int)) (.ok (.v (.int .i64 (cmD d t a b))))
  |_=> .no)
  |_=> .no)
  |_=> .no)
  |_=> .no)
 |_=> .no
noncomputable def Uh:List LV→T LV:=gZ Tryz.prog Tryz.f45.params.toList aje
noncomputable def aqu:Specs:=bg [(43,yR),(46,Yl),(47,Yk)]
theorem azt:∀g S,aqu g=some S→Valid Tryz.prog aQ g S:=aU (l:=[(43,yR),(46,Yl),(47,Yk)]) ⟨U9,asn,asl,trivial⟩
theorem auM (a b:Int) (d e:List Dm) (t:Int):bY Tryz.prog aQ (aqu) fC aF Tryz.f45 [.v (.int .i64 a),.v (.int .i64 b),.xq 1 (fun j=>([.xl pV d]:List LV).getD j .junk),.xq 1 (fun j=>([.fn 43 [.xq 1 (fun j=>([.xl pV e]:List LV).getD j .junk),.xq 1 (fun j=>([.v (.int .i64 t)]:List LV).getD j .junk)]]:List LV).getD j .junk)]=.req (0≤a∧a<(List.length d:Int)) (.req (0≤b∧b<(List.length d:Int)) (.req (wI e t∧0≤a∧a<(List.length e:Int)) (.req (wI e t∧0≤b∧b<(List.length e:Int)) (.req ((List.length ([(cm (iR d a).2.2.2 (iR d b).2.2.2),(cm (Fv e t a) (Fv e t b)),(cm a b)]):Int)≤1000) (.ok (.v (.int .i64 (orI ([(cm (iR d a).2.2.2 (iR d b).2.2.2),(cm (Fv e t a) (Fv e t b)),(cm a b)]))))))))):=by kernel_rfl
theorem aph:Valid Tryz.prog aQ 45 Uh:=aI Tryz.func45 rfl azt aH (aY (by kernel_rfl)) (fun args lv h=>by
 unfold aje at h
 split at h
 ·split at h
  case h_2=>cases h
  rename_i heq0
  split at h
  case h_2=>cases h
  rename_i heq1
  split at h
  case h_2=>cases h
  rename_i heq2
  split at h
  case h_2=>cases h
  rename_i heq3
  simp only [canL,canX]
  rw [oU (n:=1) heq0]
  simp only [canL,canX]
  rw [oU (n:=1) heq1]
  simp only [canL,canX]
  rw [oU (n:=1) heq2]
  simp only [canL,canX]
  rw [oU (n:=1) heq3]
  simp only [canL,canX]
  rw [auM]
  rename_i a b _ d _ _ _ _ e _ t
  obtain ⟨⟨rfl,hw,ha,hb⟩,rfl⟩:=h
  exact ⟨ha,hb,⟨hw,ha⟩,⟨hw,hb⟩,by simp,rfl⟩
 ·cases h)
structure qA where
 n:Int
 i:Int
 d:List Dm
 tick:Int
 out:List Int
def aBF (s:qA):List LV:=[.own 0 0,.own 1 0,.os 2 1 0 (List.length s.out),.v (.int .i64 s.n),.v (.int .i64 s.i)]
def aAI (s:qA):List aT:=[⟨[.xl pV s.d],31,.cl,false⟩,⟨[.v (.int .i64 s.tick)],3,.cl,false⟩,⟨[],3,.vec (.int .i64) s.out,false⟩]
noncomputable def AZ:Code:=((aG (Tryz.f19.body.getD .skip))[0]?).getD .skip
def Y0 (s:qA):T (Rd qA):=
 .br (decide (s.i<s.n)) (.req (0≤s.i∧s.i<((List.length s.out:Nat):Int)) (.req (s.i.toNat<List.length s.out) (.req (0=0∧(List.length s.out)=List.length (s.out.set s.i.toNat s.i)) (.ok (.next {s with i:=(IntKind.i64.wrap (s.i+1)),out:=(s.out.set s.i.toNat s.i)}))))) (.rl s.out (.ok (.stop (.exit 0) s)))
abbrev aqQ (s:qA):=(Y0 s).rd s
def acT (s:qA):Prop:=s.i=0∧s.out=List.replicate s.d.length 0∧s.n=(List.length s.d:Int)∧s.n≤1000∧s.out.length=s.d.length
def Md (s:qA):Prop:=(0≤s.i∧s.i≤s.n)∧s.out=yA s.i.toNat++List.replicate (s.d.length-s.i.toNat) 0∧s.n=(List.length s.d:Int)∧s.n≤1000∧s.out.length=s.d.length
def OA (s:qA):Nat:=(s.n-s.i).toNat
def aju (x:Ex) (_ s':qA):Prop:=x=.exit 0∧s'.out=yA s'.d.length
theorem ayH:∀s,acT s→Md s:=by
 intro s h
 obtain ⟨h0,h1,h2⟩:=h
 exact ⟨by omega,by rw [h0,h1];rfl,h2⟩
theorem aun (s:qA) (hI:Md s):bQ (fun s'=>Md s'∧OA s'<OA s) (fun x s'=>aju x s s') (aqQ s):=by
 unfold aqQ Y0
 dsimp only [T.rd,T.rl]
 obtain ⟨⟨h0,h1⟩,h2,h3,h4,h5⟩:=hI
 refine ax (fun c1=>?_) (fun c1=>?_)
 ·have c1:s.i<s.n:=by simpa using c1
  rw [aN (x:=s.i+1) (by omega) (by omega)]
  have e:s.d.length-s.i.toNat=(s.d.length-(s.i+1).toNat)+1:=by omega
  refine ⟨⟨⟨by simp only;omega,by simp only;omega⟩,?_,h3,h4,by simp only [List.length_set];exact h5⟩,by simp only [OA];omega⟩
  simp only
  have hs:=Zr (xs:=yA s.i.toNat) (r:=s.d.length-(s.i+1).toNat) (v:=s.i)
  rw [pW] at hs
  rw [h2,e,hs,show (s.i+1).toNat=s.i.toNat+1 by omega,adl,Int.toNat_of_nonneg h0]
 ·have c1:s.n≤s.i:=by simpa using c1
  refine ⟨rfl,?_⟩
  rw [h2,show s.i.toNat=s.d.length by omega]
  simp
def EH:bT qA:=⟨0,26,[2,3,5,12,13],[],aBF,aAI,fun v b=>⟨gI (v.getD 3 .junk),gI (v.getD 4 .junk),aS pV (aZ (aP b 0) 0),gI (aZ (aP b 1) 0),jy (.int .i64) (aP b 2)⟩,Y0,fun s r=> {r with n:=s.n,d:=s.d,tick:=s.tick},fun s=>s,fun _ s=>s,[.exit 0],acT,Md,OA⟩
abbrev jT:=EH.run
abbrev aoj:=EH.kG
abbrev awI:=EH.q
theorem atj (s:qA) (hI:Md s):(Y0 s).all (fun _=>True):=by
 refine ⟨fun c1=>⟨?_,?_,?_,trivial⟩,fun c1=>⟨⟨rfl,rfl⟩,trivial⟩⟩
 all_goals ((obtain ⟨⟨h0,h1⟩,h2,h3,h4,h5⟩:=hI;simp only [decide_eq_true_eq] at c1;first|omega|exact ⟨rfl,by simp⟩))
noncomputable def vT:Specs:=bg [(43,yR),(45,Uh)]
theorem xX:∀g S,vT g=some S→Valid Tryz.prog aQ g S:=aU (l:=[(43,yR),(45,Uh)]) ⟨U9,aph,trivial⟩
noncomputable def SG:Hand:=inl Tryz.prog aQ vT (lX Tryz.prog aQ (vT) 20 2) 9
theorem aaj:dF Tryz.prog aQ SG:=bU xX (dS xX) 9
theorem agq:EH.Ok:=⟨fun s=>by kernel_rfl,fun s=>by kernel_rfl,fun s=>rfl,fun s t r=>rfl,fun s=>rfl,fun s=>by kernel_rfl⟩
theorem afm:EH.Pf (aju):=⟨ayH,fun _ _=>rfl,aun,atj⟩
theorem ala:bC Tryz.prog aQ (AN 0) (.loop AZ) EH.lp:=bT.snd agq afm (aV (Γ:=vT) (K:=SG) (L:=aF) xX aaj AZ (fun b hb=>by rw [show aG AZ=[] by kernel_rfl] at hb;cases hb)) (fun s=>by kernel_rfl)
theorem ami (s:qA) (hE:acT s):∃s',Md s'∧aju (aoj s) s' (jT s):=bT.fin agq afm s hE
structure mQ where
 a:Int
 b:Int
 i:Int
 j:Int
 b0:List Dm
 b1:Int
 data:List Int
def aBS (s:mQ):List LV:=[.os 2 1 0 (List.length s.data),.v (.int .i64 s.a),.v (.int .i64 s.b),.fn 45 [.own 0 0,.own 3 0],.v (.int .i64 s.i),.v (.int .i64 s.j)]
def aAV (s:mQ):List aT:=[⟨[.xl pV s.b0],31,.cl,false⟩,⟨[.v (.int .i64 s.b1)],3,.cl,false⟩,⟨[],3,.vec (.int .i64) s.data,false⟩,⟨[.fn 43 [.own 0 0,.own 1 0]],84,.cl,false⟩]
noncomputable def IK:Code:=((aG (((aG (Tryz.f120.body.getD .skip))[0]?).getD .skip))[0]?).getD .skip
def QS (s:mQ):T (Rd mQ):=
 .br (decide (s.j>s.a)) (.req (0≤s.j∧s.j<((List.length s.data:Nat):Int)) (.req (s.j.toNat<List.length s.data) (.req (0≤(IntKind.i64.wrap (s.j-1))∧(IntKind.i64.wrap (s.j-1))<((List.length s.data:Nat):Int)) (.req ((IntKind.i64.wrap (s.j-1)).toNat<List.length s.data) (.req (s.b0=s.b0∧wI s.b0 s.b1∧(0≤(s.data.getD s.j.toNat (Ty.dflt (.int .i64)))∧(s.data.getD s.j.toNat (Ty.dflt (.int .i64)))<(List.length s.b0:Int))∧0≤(s.data.getD (IntKind.i64.wrap (s.j-1)).toNat (Ty.dflt (.int .i64)))∧(s.data.getD (IntKind.i64.wrap (s.j-1)).toNat (Ty.dflt (.int .i64)))<(List.length s.b0:Int)) (.br (decide ((cmD s.b0 s.b1 (s.data.getD s.j.toNat (Ty.dflt (.int .i64))) (s.data.getD (IntKind.i64.wrap (s.j-1)).toNat (Ty.dflt (.int .i64))))<0)) (.req (0≤(IntKind.i64.wrap (s.j-1))∧(IntKind.i64.wrap (s.j-1))<((List.length s.data:Nat):Int)) (.req (0≤s.j∧s.j<((List.length s.data:Nat):Int)) (.req ((IntKind.i64.wrap (s.j-1)).toNat<List.length s.data) (.req (s.j.toNat<List.length s.data) (.req (0≤s.j∧s.j<((List.length s.data:Nat):Int)) (.req (s.j.toNat<List.length s.data) (.req (0≤(IntKind.i64.wrap (s.j-1))∧(IntKind.i64.wrap (s.j-1))<((List.length s.data:Nat):Int)) (.req ((IntKind.i64.wrap (s.j-1)).toNat<List.length (s.data.set s.j.toNat (s.data.getD (IntKind.i64.wrap (s.j-1)).toNat (Ty.dflt (.int .i64))))) (.req (0=0∧(List.length s.data)=List.length ((s.data.set s.j.toNat (s.data.getD (IntKind.i64.wrap (s.j-1)).toNat (Ty.dflt (.int .i64)))).set (IntKind.i64.wrap (s.j-1)).toNat (s.data.getD s.j.toNat (Ty.dflt (.int .i64))))) (.ok (.next {s with j:=(IntKind.i64.wrap (s.j-1)),data:=((s.data.set s.j.toNat (s.data.getD (IntKind.i64.wrap (s.j-1)).toNat (Ty.dflt (.int .i64)))).set (IntKind.i64.wrap (s.j-1)).toNat (s.data.getD s.j.toNat (Ty.dflt (.int .i64))))}))))))))))) (.rl s.data (.ok (.stop (.exit 2) s))))))))) (.rl s.data (.ok (.stop (.exit 2) s)))
abbrev aaT (s:mQ):=(QS s).rd s
def acY (s:mQ):Prop:=s.a=0∧(0≤s.j∧s.j<(List.length s.data:Int))∧(s.data.length=s.b0.length∧(List.length s.data:Int)≤1000)∧(∀x∈s.data,0≤x∧x<(List.length s.b0:Int))∧wI s.b0 s.b1
def UF (s:mQ):Prop:=s.a=0∧(0≤s.j∧s.j<(List.length s.data:Int))∧(s.data.length=s.b0.length∧(List.length s.data:Int)≤1000)∧(∀x∈s.data,0≤x∧x<(List.length s.b0:Int))∧wI s.b0 s.b1
def OJ (s:mQ):Nat:=s.j.toNat
def arl (x:Ex) (_ _:mQ):Prop:=x=.exit 2
theorem ay1:∀s,acY s→UF s:=by
 exact fun s h=>h
theorem au2 (s:mQ) (hI:UF s):bQ (fun s'=>UF s'∧OJ s'<OJ s) (fun x s'=>arl x s s') (aaT s):=by
 unfold aaT QS
 dsimp only [T.rd,T.rl]
 obtain ⟨h0,⟨h1,h2⟩,⟨h3,h3'⟩,h4,h5⟩:=hI
 refine ax (fun c1=>?_) (fun c1=>rfl)
 have c1:s.a<s.j:=by simpa using c1
 rw [aN (x:=s.j-1) (by omega) (by omega)]
 refine ax (fun c2=>?_) (fun c2=>rfl)
 have g0:=fun (k:Nat) (hk:k<s.data.length)=>h4 (s.data.getD k 0) (by simp [List.getD,hk])
 have hm:∀x∈(s.data.set s.j.toNat (s.data.getD (s.j-1).toNat 0)).set (s.j-1).toNat (s.data.getD s.j.toNat 0),0≤x∧x<(List.length s.b0:Int):=fun x hx=>by
  rcases List.mem_or_eq_of_mem_set hx with hx|e
  ·rcases List.mem_or_eq_of_mem_set hx with hx|e
   ·exact h4 x hx
   ·rw [e];exact g0 _ (by omega)
  ·rw [e];exact g0 _ (by omega)
 exact ⟨⟨h0,⟨by simp only;omega,by simp only [List.length_set];omega⟩,⟨by simp only [List.length_set];exact h3,by simp only [List.length_set];exact h3'⟩,hm,h5⟩,by simp only [OJ];omega⟩
def JC:bT mQ:=⟨4,53,[0,1,2,3,8,9],[],aBS,aAV,fun v b=>⟨gI (v.getD 1 .junk),gI (v.getD 2 .junk),gI (v.getD 4 .junk),gI (v.getD 5 .junk),aS pV (aZ (aP b 0) 0),gI (aZ (aP b 1) 0),jy (.int .i64) (aP b 2)⟩,QS,fun s r=> {r with a:=s.a,b:=s.b,i:=s.i,b0:=s.b0,b1:=s.b1},fun s=>s,fun _ s=>s,[.exit 2],acY,UF,OJ⟩
abbrev zu:=JC.run
abbrev aot:=JC.kG
abbrev awU:=JC.q
theorem atz (s:mQ) (hI:UF s):(QS s).all (fun _=>True):=by
 refine ⟨fun c1=>⟨?_,?_,?_,?_,?_,fun c2=>⟨?_,?_,?_,?_,?_,?_,?_,?_,?_,trivial⟩,fun c2=>⟨⟨rfl,rfl⟩,trivial⟩⟩,fun c1=>⟨⟨rfl,rfl⟩,trivial⟩⟩
 all_goals ((obtain ⟨h0,⟨h1,h2⟩,⟨h3,h3'⟩,h4,h5⟩:=hI;simp only [decide_eq_true_eq,gt_iff_lt] at c1;(try rw [aN (x:=s.j-1) (by omega) (by omega)]);have g0:∀k:Nat,k<s.data.length→0≤s.data.getD k (Ty.dflt (.int .i64))∧s.data.getD k (Ty.dflt (.int .i64))<(List.length s.b0:Int):=(fun k hk=>h4 _ (by simp [List.getD,hk]));first|omega|exact ⟨rfl,h5,g0 _ (by omega),g0 _ (by omega)⟩ |(simp only [List.length_set];omega) |exact ⟨rfl,by simp⟩))
theorem agv:JC.Ok:=⟨fun s=>by kernel_rfl,fun s=>by kernel_rfl,fun s=>rfl,fun s t r=>rfl,fun s=>rfl,fun s=>by kernel_rfl⟩
theorem afr:JC.Pf (arl):=⟨ay1,fun _ _=>rfl,au2,atz⟩
theorem aln:bC Tryz.prog aQ (AN 4) (.loop IK) JC.lp:=bT.snd agv afr (bH (Γ:=vT) (K:=SG) (L:=(tH Tryz.prog aQ vT SG 20 2)) xX aaj IK (fun b _=>dU xX aaj 20 2 b)) (fun s=>by kernel_rfl)
theorem aac (s:mQ) (hE:acY s):(fun (x:Ex) (s':mQ) (v:List Int)=>x=.exit 2∧s'.data=v) (aot s) (zu s) ((fun s:mQ=>bub (ltD s.b0 s.b1) s.j.toNat s.data) s):=by
 exact bT.xO agv afr (fun s:mQ=>bub (ltD s.b0 s.b1) s.j.toNat s.data) (fun x s' v=>x=.exit 2∧s'.data=v) (fun s hI=>by
  show bQ _ _ (aaT s)
  unfold aaT QS
  dsimp only [T.rd,T.rl]
  obtain ⟨h0,⟨h1,h2⟩,⟨h3,h3'⟩,h4,h5⟩:=hI
  refine ax (fun c1=>?_) (fun c1=>?_)
  ·have c1:s.a<s.j:=by simpa using c1
   rw [aN (x:=s.j-1) (by omega) (by omega)]
   have e:s.j.toNat=(s.j-1).toNat+1:=by omega
   refine ax (fun c2=>?_) (fun c2=>?_)
   ·show bub _ _ _=bub _ _ _
    simp only
    rw [e,bub,if_pos (by unfold ltD;rw [e] at c2;exact c2)]
    rfl
   ·refine ⟨rfl,?_⟩
    rw [e] at c2
    rw [e,bub,if_neg (fun hh=>absurd ((show true=_ from hh.symm).trans c2) (by decide))]
  ·have c1:s.j≤s.a:=by simpa using c1
   refine ⟨rfl,?_⟩
   rw [show s.j.toNat=0 by omega]
   rfl) s hE
structure kD where
 a:Int
 b:Int
 i:Int
 b0:List Dm
 b1:Int
 data:List Int
def aBT (s:kD):List LV:=[.os 2 1 0 (List.length s.data),.v (.int .i64 s.a),.v (.int .i64 s.b),.fn 45 [.own 0 0,.own 3 0],.v (.int .i64 s.i)]
def aAW (s:kD):List aT:=[⟨[.xl pV s.b0],31,.cl,false⟩,⟨[.v (.int .i64 s.b1)],3,.cl,false⟩,⟨[],3,.vec (.int .i64) s.data,false⟩,⟨[.fn 43 [.own 0 0,.own 1 0]],84,.cl,false⟩]
noncomputable def TN:Code:=((aG (Tryz.f120.body.getD .skip))[0]?).getD .skip
def QT (s:kD):T (Rd kD):=
 .br (decide (s.i<s.b)) (.rl s.data (.req (awU (⟨s.a,s.b,s.i,s.i,s.b0,s.b1,s.data⟩:mQ)) (.rl (zu (⟨s.a,s.b,s.i,s.i,s.b0,s.b1,s.data⟩:mQ)).data (.ok (.next {s with i:=(IntKind.i64.wrap (s.i+1)),data:=(zu (⟨s.a,s.b,s.i,s.i,s.b0,s.b1,s.data⟩:mQ)).data}))))) (.rl s.data (.ok (.stop (.exit 0) s)))
abbrev aaU (s:kD):=(QT s).rd s
def acZ (s:kD):Prop:=s.i=1∧(s.a=0∧s.b=(List.length s.data:Int))∧(s.data.length=s.b0.length∧(List.length s.data:Int)≤1000)∧(∀x∈s.data,0≤x∧x<(List.length s.b0:Int))∧wI s.b0 s.b1
def MN (s:kD):Prop:=1≤s.i∧(s.a=0∧s.b=(List.length s.data:Int))∧(s.data.length=s.b0.length∧(List.length s.data:Int)≤1000)∧(∀x∈s.data,0≤x∧x<(List.length s.b0:Int))∧wI s.b0 s.b1
def OM (s:kD):Nat:=(s.b-s.i).toNat
def arn (x:Ex) (_ _:kD):Prop:=x=.exit 0
theorem ay2:∀s,acZ s→MN s:=by
 intro s h
 obtain ⟨h0,h1⟩:=h
 exact ⟨by omega,h1⟩
theorem WM (s:kD) (hI:MN s) (c1:s.i<s.b):acY ⟨s.a,s.b,s.i,s.i,s.b0,s.b1,s.data⟩:=by
 obtain ⟨h0,⟨h1,h2⟩,h3⟩:=hI
 exact ⟨h1,⟨by simp only;omega,by simp only;omega⟩,h3⟩
theorem au3 (s:kD) (hI:MN s):bQ (fun s'=>MN s'∧OM s'<OM s) (fun x s'=>arn x s s') (aaU s):=by
 unfold aaU QT
 dsimp only [T.rd,T.rl]
 have hin:=fun c1=>WM s hI c1
 obtain ⟨h0,⟨h1,h2⟩,⟨h3,h3'⟩,h4,h5⟩:=hI
 refine ax (fun c1=>?_) (fun c1=>rfl)
 have c1:s.i<s.b:=by simpa using c1
 obtain ⟨q1,q2⟩:=aac _ (hin c1)
 have q2:(zu ⟨s.a,s.b,s.i,s.i,s.b0,s.b1,s.data⟩).data=bub (ltD s.b0 s.b1) s.i.toNat s.data:=q2
 have hp:=aiE (lt:=ltD s.b0 s.b1) (j:=s.i.toNat) (l:=s.data) (by omega)
 rw [aN (x:=s.i+1) (by omega) (by omega),q2]
 exact ⟨⟨by simp only;omega,⟨h1,by simp only [hp.length_eq];exact h2⟩,⟨by simp only [hp.length_eq];exact h3,by simp only [hp.length_eq];exact h3'⟩,fun x hx=>h4 x (hp.subset hx),h5⟩,by simp only [OM];omega⟩
def Cb:bT kD:=⟨4,53,[0,1,2,3,8],[],aBT,aAW,fun v b=>⟨gI (v.getD 1 .junk),gI (v.getD 2 .junk),gI (v.getD 4 .junk),aS pV (aZ (aP b 0) 0),gI (aZ (aP b 1) 0),jy (.int .i64) (aP b 2)⟩,QT,fun s r=> {r with a:=s.a,b:=s.b,b0:=s.b0,b1:=s.b1},fun s=>s,fun _ s=>s,[.exit 0],acZ,MN,OM⟩
abbrev pF:=Cb.run
abbrev aou:=Cb.kG
abbrev akg:=Cb.q
theorem atA (s:kD) (hI:MN s):(QT s).all (fun _=>True):=by
 refine ⟨fun c1=>⟨⟨rfl,rfl⟩,?_,⟨rfl,rfl⟩,trivial⟩,fun c1=>⟨⟨rfl,rfl⟩,trivial⟩⟩
 ·exact ⟨WM s hI (by simpa using c1),rfl,rfl⟩
theorem agw:Cb.Ok:=⟨fun s=>by kernel_rfl,fun s=>by kernel_rfl,fun s=>rfl,fun s t r=>rfl,fun s=>rfl,fun s=>by kernel_rfl⟩
theorem afs:Cb.Pf (arn):=⟨ay2,fun _ _=>rfl,au3,atA⟩
theorem NI:bC Tryz.prog aQ (AN 4) (.loop TN) Cb.lp:=bT.snd agw afs (bH (Γ:=vT) (K:=SG) (L:=(adQ (fun i=>if i=4 then JC.lp else aF i))) xX aaj TN (fun b hb=>by
 rw [show aG _=[IK] by kernel_rfl] at hb
 simp only [List.mem_cons,List.not_mem_nil,or_false] at hb
 subst hb
 exact aln)) (fun s=>by kernel_rfl)
theorem anT (s:kD) (hE:acZ s):(fun (x:Ex) (s':kD) (v:List Int)=>x=.exit 0∧s'.data=v) (aou s) (pF s) ((fun s:kD=>uK (ltD s.b0 s.b1) s.data s.i.toNat) s):=by
 exact bT.xO agw afs (fun s:kD=>uK (ltD s.b0 s.b1) s.data s.i.toNat) (fun x s' v=>x=.exit 0∧s'.data=v) (fun s hI=>by
  show bQ _ _ (aaU s)
  unfold aaU QT
  dsimp only [T.rd,T.rl]
  have hin:=fun c1=>WM s hI c1
  obtain ⟨h0,⟨h1,h2⟩,⟨h3,h3'⟩,h4,h5⟩:=hI
  refine ax (fun c1=>?_) (fun c1=>?_)
  ·have c1:s.i<s.b:=by simpa using c1
   obtain ⟨q1,q2⟩:=aac _ (hin c1)
   have q2:(zu ⟨s.a,s.b,s.i,s.i,s.b0,s.b1,s.data⟩).data=bub (ltD s.b0 s.b1) s.i.toNat s.data:=q2
   rw [aN (x:=s.i+1) (by omega) (by omega)]
   show uK _ _ _=uK _ _ _
   simp only
   rw [q2,show (s.i+1).toNat=s.i.toNat+1 by omega,Vu (by omega)]
  ·have c1:s.b≤s.i:=by simpa using c1
   exact ⟨rfl,(adn (by omega)).symm⟩) s hE
structure nC where
 n:Int
 dA:Int
 a:Int
 b:Int
 b0:List Dm
 b1:Int
 data:List Int
def aBl (s:nC):List LV:=[.os 2 1 0 (List.length s.data),.v (.int .i64 s.n),.fn 45 [.own 0 0,.own 3 0],.v (.int .i64 s.dA),.v (.int .i64 s.a),.v (.int .i64 s.b)]
def aAo (s:nC):List aT:=[⟨[.xl pV s.b0],31,.cl,false⟩,⟨[.v (.int .i64 s.b1)],3,.cl,false⟩,⟨[],3,.vec (.int .i64) s.data,false⟩,⟨[.fn 43 [.own 0 0,.own 1 0]],84,.cl,false⟩]
noncomputable def TJ:Code:=((aG (Tryz.f84.body.getD .skip))[0]?).getD .skip
def QA (s:nC):T (Rd nC):=
 .br (decide (s.b≤s.n)) (.rl s.data (.req (akg (⟨s.a,s.b,(IntKind.i64.wrap (s.a+1)),s.b0,s.b1,s.data⟩:kD)) (.req (0=0∧(List.length s.data)=List.length (pF (⟨s.a,s.b,(IntKind.i64.wrap (s.a+1)),s.b0,s.b1,s.data⟩:kD)).data) (.ok (.next {s with a:=s.b,b:=(IntKind.i64.wrap (s.b+s.dA)),data:=(pF (⟨s.a,s.b,(IntKind.i64.wrap (s.a+1)),s.b0,s.b1,s.data⟩:kD)).data}))))) (.rl s.data (.ok (.stop (.exit 0) s)))
abbrev aaD (s:nC):=(QA s).rd s
def acO (s:nC):Prop:=s.b=20∧s.n<20
def LQ (s:nC):Prop:=s.b=20∧s.n<20
def Wi (_:nC):Nat:=0
def ara (x:Ex) (_ _:nC):Prop:=x=.exit 0
theorem axR:∀s,acO s→LQ s:=by
 exact fun s h=>h
theorem asy (s:nC) (hI:LQ s):bQ (fun s'=>LQ s'∧Wi s'<Wi s) (fun x s'=>ara x s s') (aaD s):=by
 unfold aaD QA
 dsimp only [T.rd,T.rl]
 obtain ⟨h0,h1⟩:=hI
 refine ax (fun c1=>absurd (show s.b≤s.n by simpa using c1) (by omega)) (fun c1=>rfl)
def Ei:bT nC:=⟨4,63,[0,1,2,6,7,8],[],aBl,aAo,fun v b=>⟨gI (v.getD 1 .junk),gI (v.getD 3 .junk),gI (v.getD 4 .junk),gI (v.getD 5 .junk),aS pV (aZ (aP b 0) 0),gI (aZ (aP b 1) 0),jy (.int .i64) (aP b 2)⟩,QA,fun s r=> {r with n:=s.n,dA:=s.dA,b0:=s.b0,b1:=s.b1},fun s=>s,fun _ s=>s,[.exit 0],acO,LQ,Wi⟩
abbrev jb:=Ei.run
abbrev an9:=Ei.kG
abbrev awn:=Ei.q
noncomputable def ahH:Hand:=inl Tryz.prog aQ vT (kH 120 4 1 (Cb.lp) (lX Tryz.prog aQ (vT) 20 2)) 9
theorem apP:dF Tryz.prog aQ ahH:=bU xX (dO Tryz.func120 rfl (by kernel_rfl) NI (dS xX)) 9
theorem asY (s:nC) (hI:LQ s):(QA s).all (fun _=>True):=by
 refine ⟨fun c1=>⟨⟨rfl,rfl⟩,?_,?_,trivial⟩,fun c1=>⟨⟨rfl,rfl⟩,trivial⟩⟩
 all_goals ((simp only [decide_eq_true_eq] at c1;exact absurd c1 (by have:=hI;unfold LQ at this;omega)))
theorem af4:Ei.Ok:=⟨fun s=>by kernel_rfl,fun s=>by kernel_rfl,fun s=>rfl,fun s t r=>rfl,fun s=>rfl,fun s=>by kernel_rfl⟩
theorem ae3:Ei.Pf (ara):=⟨axR,fun _ _=>rfl,asy,asY⟩
theorem Zl:bC Tryz.prog aQ (AN 4) (.loop TJ) Ei.lp:=bT.snd af4 ae3 (bH (Γ:=vT) (K:=ahH) (L:=(tH Tryz.prog aQ vT ahH 20 2)) xX apP TJ (fun b _=>dU xX apP 20 2 b)) (fun s=>by kernel_rfl)
theorem akI (s:nC) (hE:acO s):(fun (x:Ex) (s':nC) (v:List Int×Int)=>x=.exit 0∧(s'.data,s'.a)=v) (an9 s) (jb s) ((fun s:nC=>(s.data,s.a)) s):=by
 exact bT.xO af4 ae3 (fun s:nC=>(s.data,s.a)) (fun x s' v=>x=.exit 0∧(s'.data,s'.a)=v) (fun s hI=>by
  show bQ _ _ (aaD s)
  unfold aaD QA
  dsimp only [T.rd,T.rl]
  obtain ⟨h0,h1⟩:=hI
  exact ax (fun c1=>absurd (show s.b≤s.n by simpa using c1) (by omega)) (fun c1=>⟨rfl,rfl⟩)) s hE
def XG:List LV→T LV:=fun _=> .req False (.ok (.v undef))
theorem arI:Valid Tryz.prog aQ 121 XG:=by
 intro _ _ _ _ _ _ _ _ _ h
 exact h.1.elim
structure rC where
 n:Int
 dA:Int
 a:Int
 b:Int
 b0:List Dm
 b1:Int
 data:List Int
def aBj (s:rC):List LV:=[.os 2 1 0 (List.length s.data),.v (.int .i64 s.n),.fn 45 [.own 0 0,.own 3 0],.v (.int .i64 s.dA),.v (.int .i64 s.a),.v (.int .i64 s.b)]
def aAm (s:rC):List aT:=[⟨[.xl pV s.b0],31,.cl,false⟩,⟨[.v (.int .i64 s.b1)],3,.cl,false⟩,⟨[],3,.vec (.int .i64) s.data,false⟩,⟨[.fn 43 [.own 0 0,.own 1 0]],84,.cl,false⟩]
noncomputable def IE:Code:=((aG (((aG (Tryz.f84.body.getD .skip))[1]?).getD .skip))[0]?).getD .skip
def YM (s:rC):T (Rd rC):=
 .br (decide (s.b≤s.n)) (.req (0+(List.length s.data)≤List.length s.data) (.req False (.rl s.data (.ok (.next {s with a:=s.b,b:=(IntKind.i64.wrap (s.b+(IntKind.i64.wrap (2*s.dA))))}))))) (.rl s.data (.ok (.stop (.exit 4) s)))
abbrev aqD (s:rC):=(YM s).rd s
def aru (_:rC):Prop:=False
def Uy (_:rC):Prop:=False
def V9 (_:rC):Nat:=0
def aq8 (_:Ex) (_ _:rC):Prop:=True
theorem axP:∀s,aru s→Uy s:=by
 exact fun s h=>h
theorem asw (s:rC) (hI:Uy s):bQ (fun s'=>Uy s'∧V9 s'<V9 s) (fun x s'=>aq8 x s s') (aqD s):=by
 unfold aqD YM
 dsimp only [T.rd,T.rl]
 exact hI.elim
def Np:bT rC:=⟨4,63,[0,1,2,6,7,8],[],aBj,aAm,fun v b=>⟨gI (v.getD 1 .junk),gI (v.getD 3 .junk),gI (v.getD 4 .junk),gI (v.getD 5 .junk),aS pV (aZ (aP b 0) 0),gI (aZ (aP b 1) 0),jy (.int .i64) (aP b 2)⟩,YM,fun s r=> {r with n:=s.n,dA:=s.dA,b0:=s.b0,b1:=s.b1,data:=s.data},fun s=>s,fun _ s=>s,[.exit 4],aru,Uy,V9⟩
abbrev alR:=Np.run
abbrev awl:=Np.q
noncomputable def zV:Specs:=bg [(43,yR),(45,Uh),(121,XG)]
theorem DU:∀g S,zV g=some S→Valid Tryz.prog aQ g S:=aU (l:=[(43,yR),(45,Uh),(121,XG)]) ⟨U9,aph,arI,trivial⟩
noncomputable def aal:Hand:=inl Tryz.prog aQ zV (kH 84 4 2 (Ei.lp) (kH 120 4 1 (Cb.lp) (lX Tryz.prog aQ (zV) 20 2))) 9
theorem ahA:dF Tryz.prog aQ aal:=bU DU (dO Tryz.func84 rfl (by kernel_rfl) Zl (dO Tryz.func120 rfl (by kernel_rfl) NI (dS DU))) 9
theorem asW (s:rC) (hI:Uy s):(YM s).all (fun _=>True):=by
 refine ⟨fun c1=>⟨?_,?_,⟨rfl,rfl⟩,trivial⟩,fun c1=>⟨⟨rfl,rfl⟩,trivial⟩⟩
 all_goals (exact hI.elim)
theorem aul:Np.Ok:=⟨fun s=>by kernel_rfl,fun s=>by kernel_rfl,fun s=>rfl,fun s t r=>rfl,fun s=>rfl,fun s=>by kernel_rfl⟩
theorem auf:Np.Pf (aq8):=⟨axP,fun _ _=>rfl,asw,asW⟩
theorem akP:bC Tryz.prog aQ (AN 4) (.loop IE) Np.lp:=bT.snd aul auf (bH (Γ:=zV) (K:=aal) (L:=(tH Tryz.prog aQ zV aal 20 2)) DU ahA IE (fun b _=>dU DU ahA 20 2 b)) (fun s=>by kernel_rfl)
structure rD where
 n:Int
 dA:Int
 b0:List Dm
 b1:Int
 data:List Int
def aBk (s:rD):List LV:=[.os 2 1 0 (List.length s.data),.v (.int .i64 s.n),.fn 45 [.own 0 0,.own 3 0],.v (.int .i64 s.dA)]
def aAn (s:rD):List aT:=[⟨[.xl pV s.b0],31,.cl,false⟩,⟨[.v (.int .i64 s.b1)],3,.cl,false⟩,⟨[],3,.vec (.int .i64) s.data,false⟩,⟨[.fn 43 [.own 0 0,.own 1 0]],84,.cl,false⟩]
noncomputable def TI:Code:=((aG (Tryz.f84.body.getD .skip))[1]?).getD .skip
def YN (s:rD):T (Rd rD):=
 .br (decide (s.dA<s.n)) (.rl s.data (.req (awl (⟨s.n,s.dA,(0:Int),(IntKind.i64.wrap (2*s.dA)),s.b0,s.b1,s.data⟩:rC)) (.br (decide ((IntKind.i64.wrap ((alR (⟨s.n,s.dA,(0:Int),(IntKind.i64.wrap (2*s.dA)),s.b0,s.b1,s.data⟩:rC)).a+s.dA))<s.n)) (.req (0+(List.length s.data)≤List.length s.data) (.req False (.rl s.data (.ok (.next {s with dA:=(IntKind.i64.wrap (s.dA*2))}))))) (.rl s.data (.ok (.next {s with dA:=(IntKind.i64.wrap (s.dA*2))})))))) (.rl s.data (.ok (.stop (.exit 2) s)))
abbrev aqE (s:rD):=(YN s).rd s
def ajY (s:rD):Prop:=s.dA=20∧s.n<20
def LP (s:rD):Prop:=s.dA=20∧s.n<20
def Wh (_:rD):Nat:=0
def aq9 (x:Ex) (_ _:rD):Prop:=x=.exit 2
theorem axQ:∀s,ajY s→LP s:=by
 exact fun s h=>h
theorem asx (s:rD) (hI:LP s):bQ (fun s'=>LP s'∧Wh s'<Wh s) (fun x s'=>aq9 x s s') (aqE s):=by
 unfold aqE YN
 dsimp only [T.rd,T.rl]
 obtain ⟨h0,h1⟩:=hI
 refine ax (fun c1=>absurd (show s.dA<s.n by simpa using c1) (by omega)) (fun c1=>rfl)
def U0:bT rD:=⟨4,63,[0,1,2,6],[],aBk,aAn,fun v b=>⟨gI (v.getD 1 .junk),gI (v.getD 3 .junk),aS pV (aZ (aP b 0) 0),gI (aZ (aP b 1) 0),jy (.int .i64) (aP b 2)⟩,YN,fun s r=> {r with n:=s.n,b0:=s.b0,b1:=s.b1,data:=s.data},fun s=>s,fun _ s=>s,[.exit 2],ajY,LP,Wh⟩
abbrev awm:=U0.q
theorem asX (s:rD) (hI:LP s):(YN s).all (fun _=>True):=by
 refine ⟨fun c1=>⟨⟨rfl,rfl⟩,?_,fun c2=>⟨?_,?_,⟨rfl,rfl⟩,trivial⟩,fun c2=>⟨⟨rfl,rfl⟩,trivial⟩⟩,fun c1=>⟨⟨rfl,rfl⟩,trivial⟩⟩
 all_goals ((simp only [decide_eq_true_eq] at c1;exact absurd c1 (by have:=hI;unfold LP at this;omega)))
theorem aum:U0.Ok:=⟨fun s=>by kernel_rfl,fun s=>by kernel_rfl,fun s=>rfl,fun s t r=>rfl,fun s=>rfl,fun s=>by kernel_rfl⟩
theorem aug:U0.Pf (aq9):=⟨axQ,fun _ _=>rfl,asx,asX⟩
theorem akQ:bC Tryz.prog aQ (AN 4) (.loop TI) U0.lp:=bT.snd aum aug (bH (Γ:=zV) (K:=aal) (L:=(adQ (fun i=>if i=9 then Np.lp else aF i))) DU ahA TI (fun b hb=>by
 rw [show aG _=[IE] by kernel_rfl] at hb
 simp only [List.mem_cons,List.not_mem_nil,or_false] at hb
 subst hb
 exact akP)) (fun s=>by kernel_rfl)
def ab5:List LV→T LV
 | [.xl (.pair .bool (.pair (.int .i64) (.pair (.int .i64) (.int .i64)))) d,.v (.int .i64 t)]=> .req (wI d t∧d.length≤19) (.ok (.xl (.int .i64) (iP d t)))
 |_=> .no
noncomputable def yT:List LV→T LV:=gZ Tryz.prog Tryz.f19.params.toList ab5
def iy (d:List Dm) (t:Int):qA:=(⟨(((List.length d:Int).toNat:Nat):Int),(0:Int),d,t,(List.replicate (List.length d:Int).toNat (0:Int))⟩:qA)
def gJ (d:List Dm) (t:Int):nC:=(⟨((List.length (jT (iy d t)).out:Nat):Int),(20:Int),(0:Int),(20:Int),d,t,(jT (iy d t)).out⟩:nC)
def nZ (d:List Dm) (t:Int):kD:=(⟨(jb (gJ d t)).a,((List.length (jT (iy d t)).out:Nat):Int),(IntKind.i64.wrap ((jb (gJ d t)).a+1)),d,t,(jb (gJ d t)).data⟩:kD)
def Q8 (d:List Dm) (t:Int):rD:=(⟨((List.length (jT (iy d t)).out:Nat):Int),(20:Int),d,t,(pF (nZ d t)).data⟩:rD)
noncomputable def ap0:Hand:=inl Tryz.prog aQ zV (kH 84 4 7 (U0.lp) (kH 84 4 2 (Ei.lp) (kH 120 4 1 (Cb.lp) (lX Tryz.prog aQ (zV) 20 2)))) 9
theorem aza:dF Tryz.prog aQ ap0:=bU DU (dO Tryz.func84 rfl (by kernel_rfl) akQ (dO Tryz.func84 rfl (by kernel_rfl) Zl (dO Tryz.func120 rfl (by kernel_rfl) NI (dS DU)))) 9
theorem am7 (d:List Dm) (t:Int):bY Tryz.prog aQ (zV) ap0 (fun i=>if i=3 then EH.lp else aF i) Tryz.f19 [.xl pV d,.v (.int .i64 t)]=.req (0≤(List.length d:Int)∧(List.length d:Int)≤(List.length d:Int)∧8*(List.length d:Int)≤2^48∧(List.length d:Int)<2^63) (.req (0=0∧(List.length d:Int).toNat=List.length (List.replicate (List.length d:Int).toNat (0:Int))) (.req (awI (iy d t)) (.rl (jT (iy d t)).out (.req (awn (gJ d t)) (.rl (jb (gJ d t)).data (.req (akg (nZ d t)) (.req (0=0∧(List.length (jb (gJ d t)).data)=List.length (pF (nZ d t)).data) (.req (awm (Q8 d t)) (.req (0+(List.length (jT (iy d t)).out)≤List.length (pF (nZ d t)).data) (.ok (.xl (.int .i64) (((pF (nZ d t)).data.drop 0).take (List.length (jT (iy d t)).out))))))))))))):=by kernel_rfl
theorem Vb:Valid Tryz.prog aQ 19 yT:=aI Tryz.func19 rfl DU aza (L:=(fun i=>if i=3 then EH.lp else aF i)) (fun b hb=>by
 rw [show aG _=[AZ] by kernel_rfl] at hb
 simp only [List.mem_cons,List.not_mem_nil,or_false] at hb
 subst hb
 exact ala) (fun args lv h=>by
 unfold ab5 at h
 split at h
 ·simp only [canL,canX]
  rw [am7]
  rename_i d t
  obtain ⟨⟨hw,hd⟩,rfl⟩:=h
  have hE:acT (iy d t):=⟨rfl,by show List.replicate (List.length d:Int).toNat (0:Int)=List.replicate d.length 0;rw [Int.toNat_natCast],by show (((List.length d:Int).toNat:Nat):Int)=(List.length d:Int);omega,by show (((List.length d:Int).toNat:Nat):Int)≤1000;omega,by show (List.replicate _ (0:Int)).length=d.length;rw [List.length_replicate];omega⟩
  obtain ⟨_,_,_,q1⟩:=ami _ hE
  have q1:(jT (iy d t)).out=yA d.length:=q1
  have hl:(jT (iy d t)).out.length=d.length:=by rw [q1,pW]
  have hE2:acO (gJ d t):=⟨rfl,by show ((List.length (jT (iy d t)).out:Nat):Int)<20;omega⟩
  obtain ⟨_,q2⟩:=akI _ hE2
  have q2a:(jb (gJ d t)).data=yA d.length:=(congrArg Prod.fst q2).trans q1
  have q2b:(jb (gJ d t)).a=0:=congrArg Prod.snd q2
  have hE3:acZ (nZ d t):=⟨by show IntKind.i64.wrap ((jb (gJ d t)).a+1)=1;rw [q2b];rfl,⟨q2b,by show ((List.length (jT (iy d t)).out:Nat):Int)=(List.length (jb (gJ d t)).data:Int);rw [q2a,hl,pW]⟩,⟨by show (jb (gJ d t)).data.length=d.length;rw [q2a,pW],by show (List.length (jb (gJ d t)).data:Int)≤1000;rw [q2a,pW];omega⟩,fun x hx=>Rx.1 (by have hx:x∈(jb (gJ d t)).data:=hx;rw [q2a] at hx;exact hx),hw⟩
  obtain ⟨_,q3⟩:=anT _ hE3
  have q3:(pF (nZ d t)).data=iP d t:=q3.trans (by
   show uK (ltD d t) (jb (gJ d t)).data (IntKind.i64.wrap ((jb (gJ d t)).a+1)).toNat=_
   rw [q2b,q2a]
   exact adm)
  have hl3:(pF (nZ d t)).data.length=d.length:=by rw [q3,RS]
  have hE4:ajY (Q8 d t):=⟨rfl,by show ((List.length (jT (iy d t)).out:Nat):Int)<20;omega⟩
  refine ⟨⟨by omega,by omega,by omega,by omega⟩,⟨rfl,by simp⟩,⟨hE,rfl,rfl⟩,⟨rfl,rfl⟩,⟨hE2,rfl,rfl⟩,⟨rfl,rfl⟩,⟨hE3,rfl,rfl⟩,⟨rfl,by rw [q2a,pW,hl3]⟩,⟨hE4,rfl,rfl⟩,by omega,?_⟩
  show LV.xl _ _=_
  rw [List.drop_zero,hl,←hl3,List.take_length,q3]
 ·cases h)
end Go.Proofs.YtlihnbimgclogaaGreatDoor
namespace Go.Proofs.YtlihnbimgclogaaGreatDoor
theorem ayR {ph mn mx st fb a s want:Int}(h:okB ph mn mx st fb a s want=true):nE ph mn mx st fb a s want=0:=by rw [nE,if_pos h]
end Go.Proofs.YtlihnbimgclogaaGreatDoor
namespace Go.Proofs.YtlihnbimgclogaaGreatDoor
open Go.Sx
structure kT where
 rs:List Ra
 tick:Int
 n:Int
 t15:Int
 offers:List Int
 m:List Ch
 k:Int
 i:Int
 Xj:List Cd
 c1:List ByteArray
 c2:List Ko
 c3:List Ch
 c4:List Ba
 jB:List Le
 Dk:List Dm
 uF:Int
 PY:List Int
 dQ:List Int
 next:List Ra
 dw:List Le
def aB5 (s:kT):List LV:=[.xl JI s.rs,.v (.int .i64 s.tick),.v (.int .i64 s.n),.v (.slice none 0 0),.v (.slice none 0 0),.v (.slice none 0 0),.v (.int .i64 s.t15),.own 0 0,.xl (.int .i64) s.offers,.os 1 1 0 (List.length s.dQ),.os 2 2 0 (List.length s.next),.os 3 5 0 (List.length s.dw),.xl dR s.m,.v (.int .i64 s.k),.v (.int .i64 s.i)]
def aA8 (s:kT):List aT:=[⟨[.xl dZ s.Xj,.xl .str s.c1,.xl eP s.c2,.xl dR s.c3,.xl eU s.c4,.xl oO s.jB,.xl pV s.Dk,.v (.int .i64 s.uF),.xl (.int .i64) s.PY],75,.cl,true⟩,⟨[],3,.vec (.int .i64) s.dQ,false⟩,⟨[],53,.vec JI s.next,false⟩,⟨[],63,.vec oO s.dw,false⟩]
noncomputable def BD:Code:=((aG (Tryz.f14.body.getD .skip))[0]?).getD .skip
def Nz (s:kT) (e:Int) (w:Bool) (x:Int) (y:Int):T (Rd kT):=
 .br (decide (s.i<s.k)) (.req (0≤s.i∧s.i<(List.length s.m:Int)) (.req (0≤s.i∧s.i<(List.length s.rs:Int)) (.req (0≤s.i∧s.i<(List.length s.offers:Int)) (.br (e !=0) (.rl s.dQ (.rl s.next (.rl s.dw (.ok (.stop (.ret) {s with t15:=(1:Int)}))))) (.req (0≤s.i∧s.i<((List.length s.dQ:Nat):Int)) (.req (s.i.toNat<List.length s.dQ) (.req (0≤s.i∧s.i<((List.length s.next:Nat):Int)) (.req (s.i.toNat<List.length s.next) (.req ((0≤s.i∧s.i<(List.length s.c3:Int))∧(List.length s.jB:Int)≤1000∧0≤s.uF∧s.uF≤1000000) (.br w (.req (0+(List.length s.dw)=List.length s.dw∧((List.length s.dw+List.length ([(s.n,(s.i,(x,(s.tick,(12:Int)))))]):Nat):Int)*40≤2^47∧((List.length s.dw+List.length ([(s.n,(s.i,(x,(s.tick,(12:Int)))))]):Nat):Int)<2^62) (.req (0=0∧(List.length s.dQ)=List.length (s.dQ.set s.i.toNat x)) (.req (0=0∧(List.length s.next)=List.length (s.next.set s.i.toNat (x,y))) (.req (0=0∧(List.length s.dw+List.length ([(s.n,(s.i,(x,(s.tick,(12:Int)))))]))=List.length (s.dw++([(s.n,(s.i,(x,(s.tick,(12:Int)))))]))) (.ok (.next {s with n:=(IntKind.i64.wrap (s.n+1)),i:=(IntKind.i64.wrap (s.i+1)),dQ:=(s.dQ.set s.i.toNat x),next:=(s.next.set s.i.toNat (x,y)),dw:=(s.dw++([(s.n,(s.i,(x,(s.tick,(12:Int)))))]))})))))) (.req (0=0∧(List.length s.dQ)=List.length (s.dQ.set s.i.toNat x)) (.req (0=0∧(List.length s.next)=List.length (s.next.set s.i.toNat (x,y))) (.rl s.dw (.ok (.next {s with i:=(IntKind.i64.wrap (s.i+1)),dQ:=(s.dQ.set s.i.toNat x),next:=(s.next.set s.i.toNat (x,y))}))))))))))))))) (.rl s.dQ (.rl s.next (.rl s.dw (.ok (.stop (.exit 0) s)))))
abbrev Ze (s:kT):=Nz s (nE (bF s.m s.i).2.2.1 (bF s.m s.i).2.2.2.1 (bF s.m s.i).2.2.2.2.1 (bF s.m s.i).2.2.2.2.2.1 (bF s.m s.i).2.2.2.2.2.2.1 (lU s.rs s.i).1 (lU s.rs s.i).2 (gi s.offers s.i)) (nwB s.c3 s.jB s.uF s.i (nA (bF s.m s.i).2.2.1 (bF s.m s.i).2.2.2.1 (bF s.m s.i).2.2.2.2.1 (bF s.m s.i).2.2.2.2.2.1 (bF s.m s.i).2.2.2.2.2.2.1 (lU s.rs s.i).1 (lU s.rs s.i).2 (gi s.offers s.i))) (nA (bF s.m s.i).2.2.1 (bF s.m s.i).2.2.2.1 (bF s.m s.i).2.2.2.2.1 (bF s.m s.i).2.2.2.2.2.1 (bF s.m s.i).2.2.2.2.2.2.1 (lU s.rs s.i).1 (lU s.rs s.i).2 (gi s.offers s.i)) (nS (bF s.m s.i).2.2.1 (bF s.m s.i).2.2.2.1 (bF s.m s.i).2.2.2.2.1 (bF s.m s.i).2.2.2.2.2.1 (bF s.m s.i).2.2.2.2.2.2.1 (lU s.rs s.i).1 (lU s.rs s.i).2 (gi s.offers s.i))
abbrev aio (s:kT):=(Ze s).rd s
def UX (s:kT):Prop:=s.i=0∧s.dw=[]∧(s.k=(List.length s.m:Int)∧s.k≤16)∧(s.c3=s.m∧s.uF=s.tick)∧((List.length s.jB:Int)≤1000∧0≤s.tick∧s.tick≤1000000)∧(s.rs.length=s.m.length∧s.offers.length=s.m.length∧s.dQ.length=s.m.length∧s.next.length=s.m.length)∧dcK s.m s.rs s.offers∧1≤s.n-(List.length s.dw:Int)∧s.n-(List.length s.dw:Int)≤999900
def Ed (s:kT):Prop:=(0≤s.i∧s.i≤s.k)∧(∀j,0≤j→j<s.i→gi s.dQ j=nxA (bF s.m j) (lU s.rs j) (gi s.offers j)∧lU s.next j=(nxA (bF s.m j) (lU s.rs j) (gi s.offers j),nxS (bF s.m j) (lU s.rs j) (gi s.offers j)))∧s.dw=dcL s.m s.jB s.tick (s.n-(List.length s.dw:Int)) (dcA s.m s.rs s.offers s.m.length) s.i.toNat∧(s.k=(List.length s.m:Int)∧s.k≤16)∧(s.c3=s.m∧s.uF=s.tick)∧((List.length s.jB:Int)≤1000∧0≤s.tick∧s.tick≤1000000)∧(s.rs.length=s.m.length∧s.offers.length=s.m.length∧s.dQ.length=s.m.length∧s.next.length=s.m.length)∧dcK s.m s.rs s.offers∧1≤s.n-(List.length s.dw:Int)∧s.n-(List.length s.dw:Int)≤999900
def yF (s:kT):Nat:=(s.k-s.i).toNat
def acN (x:Ex) (_ s':kT):Prop:=x=.exit 0∧s'.dQ=dcA s'.m s'.rs s'.offers s'.m.length∧s'.next=dcR s'.m s'.rs s'.offers s'.m.length∧s'.dw=dcL s'.m s'.jB s'.tick (s'.n-(List.length s'.dw:Int)) (dcA s'.m s'.rs s'.offers s'.m.length) s'.m.length
theorem azX:∀s,UX s→Ed s:=by
 intro s h
 obtain ⟨h0,h1,h2⟩:=h
 exact ⟨by omega,fun j j0 j1=>by omega,by rw [h0,h1];rfl,h2⟩
theorem aoP (s:kT) (hI:Ed s) (e:Int) (w:Bool) (x:Int) (y:Int) (he:nE (bF s.m s.i).2.2.1 (bF s.m s.i).2.2.2.1 (bF s.m s.i).2.2.2.2.1 (bF s.m s.i).2.2.2.2.2.1 (bF s.m s.i).2.2.2.2.2.2.1 (lU s.rs s.i).1 (lU s.rs s.i).2 (gi s.offers s.i)=e) (hw:nwB s.c3 s.jB s.uF s.i (nA (bF s.m s.i).2.2.1 (bF s.m s.i).2.2.2.1 (bF s.m s.i).2.2.2.2.1 (bF s.m s.i).2.2.2.2.2.1 (bF s.m s.i).2.2.2.2.2.2.1 (lU s.rs s.i).1 (lU s.rs s.i).2 (gi s.offers s.i))=w) (hx:nA (bF s.m s.i).2.2.1 (bF s.m s.i).2.2.2.1 (bF s.m s.i).2.2.2.2.1 (bF s.m s.i).2.2.2.2.2.1 (bF s.m s.i).2.2.2.2.2.2.1 (lU s.rs s.i).1 (lU s.rs s.i).2 (gi s.offers s.i)=x) (hy:nS (bF s.m s.i).2.2.1 (bF s.m s.i).2.2.2.1 (bF s.m s.i).2.2.2.2.1 (bF s.m s.i).2.2.2.2.2.1 (bF s.m s.i).2.2.2.2.2.2.1 (lU s.rs s.i).1 (lU s.rs s.i).2 (gi s.offers s.i)=y):bQ (fun s'=>Ed s'∧yF s'<yF s) (fun x s'=>acN x s s') ((Nz s e w x y).rd s):=by
 unfold Nz
 dsimp only [T.rd,T.rl]
 obtain ⟨⟨h0,h1⟩,hA,hL,⟨h2,h3⟩,⟨h4,h5⟩,h6,⟨h7,h8,h9,h10⟩,hk,h11⟩:=hI
 have hll:s.dw.length≤s.i.toNat:=(by rw [hL];exact FT)
 refine ax (fun c1=>?_) (fun c1=>?_)
 ·refine ax (fun c2=>?_) (fun c2=>?_)
  ·have c1:s.i<s.k:=by simpa using c1
   have hm:s.i<(s.m.length:Int):=by omega
   exact absurd (he.symm.trans (ayR (hk s.i h0 hm))) (by simpa using c2)
  ·refine ax (fun c3=>?_) (fun c3=>?_)
   ·have c1:s.i<s.k:=by simpa using c1
    have hm:s.i<(s.m.length:Int):=by omega
    have hx':nxA (bF s.m s.i) (lU s.rs s.i) (gi s.offers s.i)=x:=hx
    have hy':nxS (bF s.m s.i) (lU s.rs s.i) (gi s.offers s.i)=y:=hy
    have hA':∀j,0≤j→j<s.i+1→gi (s.dQ.set s.i.toNat x) j=nxA (bF s.m j) (lU s.rs j) (gi s.offers j)∧lU (s.next.set s.i.toNat (x,y)) j=(nxA (bF s.m j) (lU s.rs j) (gi s.offers j),nxS (bF s.m j) (lU s.rs j) (gi s.offers j)):=fun j j0 j1=>by
     rw [iw h0 (by omega) j0,aaA h0 (by omega) j0]
     by_cases e:j=s.i
     ·subst e
      rw [if_pos rfl,if_pos rfl,hx',hy']
      exact ⟨rfl,rfl⟩
     ·rw [if_neg e,if_neg e]
      exact hA j j0 (by omega)
    have hs:s.i.toNat+1=(s.i+1).toNat:=by omega
    have hg:gi (dcA s.m s.rs s.offers s.m.length) (s.i.toNat:Nat)=x:=by rw [Int.toNat_of_nonneg h0,dcA,qU h0 hm,hx']
    have hw':nwB s.m s.jB s.tick (s.i.toNat:Nat) x=w:=by rw [Int.toNat_of_nonneg h0,←hw,h4,h5];rw [←hx]
    rw [aN (x:=s.i+1) (by omega) (by omega),aN (x:=s.n+1) (by omega) (by omega)]
    have hn:s.n+1-((List.length (s.dw++[(s.n,s.i,x,s.tick,12)]):Nat):Int)=s.n-(List.length s.dw:Int):=by
     rw [List.length_append]
     show s.n+1-((s.dw.length+1:Nat):Int)=_
     omega
    refine ⟨⟨⟨by simp only;omega,by simp only;omega⟩,hA',?_,⟨h2,h3⟩,⟨h4,h5⟩,h6,⟨h7,h8,by simp only [List.length_set];exact h9,by simp only [List.length_set];exact h10⟩,hk,by simp only;rw [hn];exact h11⟩,by simp only [yF];omega⟩
    simp only
    rw [hn,←hs,dcL,←hL,hg,hw',c3,if_pos rfl,Int.toNat_of_nonneg h0,show s.n-(List.length s.dw:Int)+(List.length s.dw:Int)=s.n by omega]
   ·have c1:s.i<s.k:=by simpa using c1
    have hm:s.i<(s.m.length:Int):=by omega
    have hx':nxA (bF s.m s.i) (lU s.rs s.i) (gi s.offers s.i)=x:=hx
    have hy':nxS (bF s.m s.i) (lU s.rs s.i) (gi s.offers s.i)=y:=hy
    have hA':∀j,0≤j→j<s.i+1→gi (s.dQ.set s.i.toNat x) j=nxA (bF s.m j) (lU s.rs j) (gi s.offers j)∧lU (s.next.set s.i.toNat (x,y)) j=(nxA (bF s.m j) (lU s.rs j) (gi s.offers j),nxS (bF s.m j) (lU s.rs j) (gi s.offers j)):=fun j j0 j1=>by
     rw [iw h0 (by omega) j0,aaA h0 (by omega) j0]
     by_cases e:j=s.i
     ·subst e
      rw [if_pos rfl,if_pos rfl,hx',hy']
      exact ⟨rfl,rfl⟩
     ·rw [if_neg e,if_neg e]
      exact hA j j0 (by omega)
    have hs:s.i.toNat+1=(s.i+1).toNat:=by omega
    have hg:gi (dcA s.m s.rs s.offers s.m.length) (s.i.toNat:Nat)=x:=by rw [Int.toNat_of_nonneg h0,dcA,qU h0 hm,hx']
    have hw':nwB s.m s.jB s.tick (s.i.toNat:Nat) x=w:=by rw [Int.toNat_of_nonneg h0,←hw,h4,h5];rw [←hx]
    rw [aN (x:=s.i+1) (by omega) (by omega)]
    refine ⟨⟨⟨by simp only;omega,by simp only;omega⟩,hA',?_,⟨h2,h3⟩,⟨h4,h5⟩,h6,⟨h7,h8,by simp only [List.length_set];exact h9,by simp only [List.length_set];exact h10⟩,hk,h11⟩,by simp only [yF];omega⟩
    simp only
    rw [←hs,dcL,←hL,hg,hw',c3,if_neg (by decide),List.append_nil]
 ·have c1:s.k≤s.i:=by simpa using c1
  have hi:s.i.toNat=s.m.length:=by omega
  refine ⟨rfl,Ii (by rw [h9];exact fJ.symm) fun j j0 j1=>?_,anZ (by rw [h10,PV]) fun j j0 j1=>?_,by have hL':=hL;rw [hi] at hL';exact hL'⟩
  ·rw [dcA,fJ] at j1
   rw [dcA,qU j0 j1]
   exact (hA j j0 (by omega)).1
  ·rw [PV] at j1
   rw [avN j0 j1]
   exact (hA j j0 (by omega)).2
theorem avM (s:kT) (hI:Ed s):bQ (fun s'=>Ed s'∧yF s'<yF s) (fun x s'=>acN x s s') (aio s):=aoP s hI _ _ _ _ rfl rfl rfl rfl
def EZ:bT kT:=⟨0,108,[2,4,5,12,13,14,15,16,17,19,20,21,57,58,59],[.nl 21 63 oO],aB5,aA8,fun v b=>⟨aS JI (v.getD 0 .junk),gI (v.getD 1 .junk),gI (v.getD 2 .junk),gI (v.getD 6 .junk),aS (.int .i64) (v.getD 8 .junk),aS dR (v.getD 12 .junk),gI (v.getD 13 .junk),gI (v.getD 14 .junk),aS dZ (aZ (aP b 0) 0),aS .str (aZ (aP b 0) 1),aS eP (aZ (aP b 0) 2),aS dR (aZ (aP b 0) 3),aS eU (aZ (aP b 0) 4),aS oO (aZ (aP b 0) 5),aS pV (aZ (aP b 0) 6),gI (aZ (aP b 0) 7),aS (.int .i64) (aZ (aP b 0) 8),jy (.int .i64) (aP b 1),jy JI (aP b 2),jy oO (aP b 3)⟩,Ze,fun s r=> {r with rs:=s.rs,tick:=s.tick,offers:=s.offers,m:=s.m,k:=s.k,Xj:=s.Xj,c1:=s.c1,c2:=s.c2,c3:=s.c3,c4:=s.c4,jB:=s.jB,Dk:=s.Dk,uF:=s.uF,PY:=s.PY},fun s=>s,fun _ s=>s,[.ret,.exit 0],UX,Ed,yF⟩
abbrev gG:=EZ.run
abbrev PO:=EZ.kG
abbrev aw6:=EZ.q
theorem atN (s:kT) (hI:Ed s):(Ze s).all (fun _=>True):=by
 refine ⟨fun c1=>⟨?_,?_,?_,fun c2=>⟨⟨rfl,rfl⟩,⟨rfl,rfl⟩,⟨rfl,rfl⟩,trivial⟩,fun c2=>⟨?_,?_,?_,?_,?_,fun c3=>⟨?_,?_,?_,?_,trivial⟩,fun c3=>⟨?_,?_,⟨rfl,rfl⟩,trivial⟩⟩⟩,fun c1=>⟨⟨rfl,rfl⟩,⟨rfl,rfl⟩,⟨rfl,rfl⟩,trivial⟩⟩
 all_goals ((obtain ⟨⟨h0,h1⟩,hA,hL,⟨h2,h3⟩,⟨h4,h5⟩,h6,⟨h7,h8,h9,h10⟩,hk,h11⟩:=hI;have hll:s.dw.length≤s.i.toNat:=(by rw [hL];exact FT);(try simp only [decide_eq_true_eq] at c1);have hl3:s.c3.length=s.m.length:=congrArg List.length h4;first|omega|exact ⟨rfl,by simp⟩ |(refine ⟨by omega,?_,?_⟩<;>simp only [List.length_cons,List.length_nil]<;>omega)))
noncomputable def ah0:Specs:=bg [(19,yT),(35,Yd),(36,Yf),(37,XY),(38,Yg)]
theorem ap8:∀g S,ah0 g=some S→Valid Tryz.prog aQ g S:=aU (l:=[(19,yT),(35,Yd),(36,Yf),(37,XY),(38,Yg)]) ⟨Vb,asb,ase,arX,asf,trivial⟩
theorem V5:EZ.Ok:=⟨fun s=>by kernel_rfl,fun s=>by kernel_rfl,fun s=>rfl,fun s t r=>rfl,fun s=>rfl,fun s=>by kernel_rfl⟩
theorem VK:EZ.Pf (acN):=⟨azX,fun _ _=>rfl,avM,atN⟩
theorem alA:bC Tryz.prog aQ (AN 0) (.loop BD) EZ.lp:=bT.snd V5 VK (aV (Γ:=ah0) (K:=fC) (L:=aF) ap8 aH BD (fun b hb=>by rw [show aG BD=[] by kernel_rfl] at hb;cases hb)) (fun s=>by kernel_rfl)
theorem aoO (s:kT) (hE:UX s):∃s',Ed s'∧acN (PO s) s' (gG s):=bT.fin V5 VK s hE
theorem aoN (s:kT) (hE:UX s):(fun (_:Ex) (s':kT) (v:Int)=>s'.n-(List.length s'.dw:Int)=v) (PO s) (gG s) ((fun s:kT=>s.n-(List.length s.dw:Int)) s):=by
 exact bT.xO V5 VK (fun s:kT=>s.n-(List.length s.dw:Int)) (fun x s' v=>s'.n-(List.length s'.dw:Int)=v) (fun s hI=>by
  show bQ _ _ (aio s)
  unfold aio Ze Nz
  dsimp only [T.rd,T.rl]
  obtain ⟨⟨h0,h1⟩,hA,hL,⟨h2,h3⟩,⟨h4,h5⟩,h6,⟨h7,h8,h9,h10⟩,hk,h11⟩:=hI
  have hll:s.dw.length≤s.i.toNat:=(by rw [hL];exact FT)
  refine ax (fun c1=>?_) (fun c1=>?_)
  ·refine ax (fun c2=>?_) (fun c2=>?_)
   ·rfl
   ·refine ax (fun c3=>?_) (fun c3=>?_)
    ·have c1:s.i<s.k:=by simpa using c1
     rw [aN (x:=s.n+1) (by omega) (by omega)]
     show s.n+1-((List.length (s.dw++[_]):Nat):Int)=s.n-(List.length s.dw:Int)
     rw [List.length_append]
     show s.n+1-((s.dw.length+1:Nat):Int)=_
     omega
    ·rfl
  ·rfl) s hE
def acz:List LV→T LV
 | [.agg [.xl (.pair .str (.pair (.int .i64) (.pair (.int .i64) (.pair (.int .i64) (.pair (.pair (.int .i64) (.int .i64)) (.pair (.int .i64) (.pair (.int .i64) (.pair (.int .i64) (.pair (.int .i64) (.int .i64)))))))))) cs,.xl (.str) os,.xl (.pair .str (.pair (.int .i64) (.pair (.int .i64) (.int .i64)))) ks,.xl (.pair .str (.pair (.int .i64) (.pair (.int .i64) (.pair (.int .i64) (.pair (.int .i64) (.pair (.int .i64) (.pair (.int .i64) (.int .i64)))))))) gs,.xl (.pair .str (.int .i64)) bs],.xl (.pair (.int .i64) (.pair (.int .i64) (.pair (.int .i64) (.pair (.int .i64) (.int .i64))))) l,.xl (.pair (.int .i64) (.int .i64)) rs,.xl (.pair .bool (.pair (.int .i64) (.pair (.int .i64) (.int .i64)))) d,.v (.int .i64 t),.v (.int .i64 n)]=> .req (wI d t∧d.length≤19) (.ok (.iG [.xl (.int .i64) (deA cs os ks gs bs l rs d t n),.xl JI (deR cs os ks gs bs l rs d t n),.xl oO (deL cs os ks gs bs l rs d t n),.v (.int .i64 (deE cs os ks gs bs l rs d t n))]))
 |_=> .no
noncomputable def Yh:List LV→T LV:=gZ Tryz.prog Tryz.f14.params.toList acz
def dX (cs:List Cd) (os:List ByteArray) (ks:List Ko) (gs:List Ch) (bs:List Ba) (l:List Le) (rs:List Ra) (d:List Dm) (t n:Int):kT:=(⟨rs,t,n,(0:Int),(NY cs os ks gs bs l d t (iP d t)),gs,(List.length gs:Int),(0:Int),cs,os,ks,gs,bs,l,d,t,(iP d t),(List.replicate (List.length (NY cs os ks gs bs l d t (iP d t)):Int).toNat (0:Int)),(List.replicate (List.length (NY cs os ks gs bs l d t (iP d t)):Int).toNat ((0:Int),(0:Int))),([]:List Le)⟩:kT)
theorem anv (cs:List Cd) (os:List ByteArray) (ks:List Ko) (gs:List Ch) (bs:List Ba) (l:List Le) (rs:List Ra) (d:List Dm) (t n:Int):bY Tryz.prog aQ (ah0) fC (fun i=>if i=11 then EZ.lp else aF i) Tryz.f14 [.agg [.xl dZ cs,.xl .str os,.xl eP ks,.xl dR gs,.xl eU bs],.xl oO l,.xl JI rs,.xl pV d,.v (.int .i64 t),.v (.int .i64 n)]=.req (wI d t∧d.length≤19) (.br (!(JG cs os ks gs bs l rs d t n)) (.ok (.iG [.xl (.int .i64) ([]:List Int),.xl JI ([]:List Ra),.xl oO ([]:List Le),.v (.int .i64 1)])) (.req (d.length=gs.length∧sD cs os ks gs bs (lT gs) (lV gs d) (iP d t)=true∧JS l (List.length gs:Int) t=true∧sD cs os ks gs bs (Xw gs l t) (xK cs os ks gs bs (lT gs) (lV gs d) (iP d t)) (iP d t)=true) (.br ((0:Int) !=0) (.ok (.iG [.xl (.int .i64) ([]:List Int),.xl JI ([]:List Ra),.xl oO ([]:List Le),.v (.int .i64 1)])) (.req (0≤(List.length (NY cs os ks gs bs l d t (iP d t)):Int)∧(List.length (NY cs os ks gs bs l d t (iP d t)):Int)≤(List.length (NY cs os ks gs bs l d t (iP d t)):Int)∧8*(List.length (NY cs os ks gs bs l d t (iP d t)):Int)≤2^48∧(List.length (NY cs os ks gs bs l d t (iP d t)):Int)<2^63) (.req (0≤(List.length (NY cs os ks gs bs l d t (iP d t)):Int)∧(List.length (NY cs os ks gs bs l d t (iP d t)):Int)≤(List.length (NY cs os ks gs bs l d t (iP d t)):Int)∧16*(List.length (NY cs os ks gs bs l d t (iP d t)):Int)≤2^48∧(List.length (NY cs os ks gs bs l d t (iP d t)):Int)<2^63) (.req (0=0∧(List.length (NY cs os ks gs bs l d t (iP d t)):Int).toNat=List.length (List.replicate (List.length (NY cs os ks gs bs l d t (iP d t)):Int).toNat (0:Int))) (.req (0=0∧(List.length (NY cs os ks gs bs l d t (iP d t)):Int).toNat=List.length (List.replicate (List.length (NY cs os ks gs bs l d t (iP d t)):Int).toNat ((0:Int),(0:Int)))) (.req (0=0∧0=List.length ([]:List Le)) (.req (aw6 (dX cs os ks gs bs l rs d t n)) (.br (iQ (PO (dX cs os ks gs bs l rs d t n)) (.ret)) (.ok (.iG [.xl (.int .i64) ([]:List Int),.xl JI ([]:List Ra),.xl oO ([]:List Le),.v (.int .i64 (gG (dX cs os ks gs bs l rs d t n)).t15)])) (.req (0+(List.length (gG (dX cs os ks gs bs l rs d t n)).dQ)≤List.length (gG (dX cs os ks gs bs l rs d t n)).dQ) (.req (0+(List.length (gG (dX cs os ks gs bs l rs d t n)).next)≤List.length (gG (dX cs os ks gs bs l rs d t n)).next) (.req (0+(List.length (gG (dX cs os ks gs bs l rs d t n)).dw)≤List.length (gG (dX cs os ks gs bs l rs d t n)).dw) (.ok (.iG [.xl (.int .i64) (((gG (dX cs os ks gs bs l rs d t n)).dQ.drop 0).take (List.length (gG (dX cs os ks gs bs l rs d t n)).dQ)),.xl JI (((gG (dX cs os ks gs bs l rs d t n)).next.drop 0).take (List.length (gG (dX cs os ks gs bs l rs d t n)).next)),.xl oO (((gG (dX cs os ks gs bs l rs d t n)).dw.drop 0).take (List.length (gG (dX cs os ks gs bs l rs d t n)).dw)),.v (.int .i64 0)]))))))))))))))):=by kernel_rfl
theorem ash:Valid Tryz.prog aQ 14 Yh:=aI Tryz.func14 rfl ap8 aH (L:=(fun i=>if i=11 then EZ.lp else aF i)) (fun b hb=>by
 rw [show aG _=[BD] by kernel_rfl] at hb
 simp only [List.mem_cons,List.not_mem_nil,or_false] at hb
 subst hb
 exact alA) (fun args lv h=>by
 unfold acz at h
 split at h
 ·simp only [canL,canX]
  rw [anv]
  rename_i cs os ks gs bs l rs d t n
  obtain ⟨hw,rfl⟩:=h
  refine ⟨hw,fun c=>?_,fun c=>?_⟩
  ·unfold deA deR deL deE
   rw [ntW c]
   rfl
  have c:=RX c
  have V:=ape c
  have ol:(NY cs os ks gs bs l d t (iP d t)).length=gs.length:=(apG V).1
  have hE:UX (dX cs os ks gs bs l rs d t n):=⟨rfl,rfl,⟨rfl,by have:=V.gl;show (gs.length:Int)≤16;omega⟩,⟨rfl,rfl⟩,⟨by have:=(zK V.les).1;show (l.length:Int)≤1000;omega,V.tb⟩,⟨V.rl,ol,by show (List.replicate _ (0:Int)).length=gs.length;rw [List.length_replicate];omega,by show (List.replicate _ ((0:Int),(0:Int))).length=gs.length;rw [List.length_replicate];omega⟩,avL V,by have:=V.nb;show 1≤n-(0:Int);omega,by have:=V.nb;show n-(0:Int)≤999900;omega⟩
  obtain ⟨_,_,q1,q2,q3,q4⟩:=aoO _ hE
  have hn:=aoN _ hE
  have hn:(gG (dX cs os ks gs bs l rs d t n)).n-((gG (dX cs os ks gs bs l rs d t n)).dw.length:Int)=n:=hn.trans (Int.sub_zero n)
  have q2:(gG (dX cs os ks gs bs l rs d t n)).dQ=deA cs os ks gs bs l rs d t n:=q2.trans (by unfold deA;rw [if_pos c];rfl)
  have q3:(gG (dX cs os ks gs bs l rs d t n)).next=deR cs os ks gs bs l rs d t n:=q3.trans (by unfold deR;rw [if_pos c];rfl)
  rw [hn] at q4
  have q4:(gG (dX cs os ks gs bs l rs d t n)).dw=deL cs os ks gs bs l rs d t n:=q4.trans (by unfold deL;rw [if_pos c];rfl)
  have gl:=V.gl
  refine ⟨⟨V.dl,Qz V.si,ao1 V,apF V⟩,fun c2=>absurd c2 (by decide),fun _=>?_⟩
  refine ⟨by rw [ol];omega,by rw [ol];omega,⟨rfl,by simp⟩,⟨rfl,by simp⟩,⟨rfl,rfl⟩,⟨hE,rfl,rfl⟩,?_⟩
  rw [q1]
  refine ⟨fun h=>(by cases h),fun _=>⟨by omega,by omega,by omega,?_⟩⟩
  show LV.iG [LV.xl _ _,LV.xl _ _,LV.xl _ _,_]=_
  rw [List.drop_zero,List.take_length,List.drop_zero,List.take_length,List.drop_zero,List.take_length,q2,q3,q4]
  unfold deE
  rw [if_pos c]
 ·cases h)
end Go.Proofs.YtlihnbimgclogaaGreatDoor
namespace Go.Proofs.YtlihnbimgclogaaGreatDoor
open Go.Sx
noncomputable def ah6:Specs:=bg []
theorem aqe:∀g S,ah6 g=some S→Valid Tryz.prog aQ g S:=aU (l:=[]) trivial
structure jQ where
 a:List Int
 b:List Int
 r:Bool
 i:Int
def axe (s:jQ):List LV:=[.xl (.int .i64) s.a,.xl (.int .i64) s.b,.v (.bool s.r),.v (.int .i64 s.i)]
def axd (_:jQ):List aT:=[]
noncomputable def xG:Code:=((aG (Tryz.f16.body.getD .skip))[0]?).getD .skip
def NC (s:jQ):T (Rd jQ):=
 .br (decide (s.i<(List.length s.a:Int))) (.req (0≤s.i∧s.i<(List.length s.a:Int)) (.req (0≤s.i∧s.i<(List.length s.b:Int)) (.br ((gi s.a s.i) !=(gi s.b s.i)) (.ok (.stop (.ret) {s with r:=false})) (.ok (.next {s with i:=(IntKind.i64.wrap (s.i+1))}))))) (.ok (.stop (.exit 0) s))
abbrev ain (s:jQ):=(NC s).rd s
def yV (s:jQ) (j:Int):Bool:=gi s.a j==gi s.b j
def Yt (s:jQ):Prop:=s.i=0∧0≤(List.length s.a:Int)∧(List.length s.a:Int)≤1000∧s.a.length=s.b.length
def Dw (s:jQ):Prop:=0≤s.i∧s.i≤(List.length s.a:Int)∧(List.length s.a:Int)≤1000∧(s.a.length=s.b.length)∧∀j:Nat,(j:Int)<s.i→yV s j=true
def FI (s:jQ):Nat:=((List.length s.a:Int)-s.i).toNat
def Yo (x:Ex) (_ s':jQ):Prop:=(x=.exit 0∧∀j:Nat,(j:Int)<(List.length s'.a:Int)→yV s' j=true)∨(x=.ret∧s'.r=false∧∃j:Nat,(j:Int)<(List.length s'.a:Int)∧yV s' j=false)
theorem at6:∀s,Yt s→Dw s:=by
 intro s h
 obtain ⟨h0,h1,h2,h3⟩:=h
 exact ⟨by omega,by omega,h2,h3,fun j hj=>by omega⟩
theorem al4 (s:jQ) (hI:Dw s):bQ (fun s'=>Dw s'∧FI s'<FI s) (fun x s'=>Yo x s s') (ain s):=by
 unfold ain NC
 dsimp only [T.rd,T.rl]
 obtain ⟨h0,h1,h2,h3,h4⟩:=hI
 refine ax (fun c1=>ax (fun c2=>?_) (fun c2=>?_)) (fun c1=>?_)
 ·have c1:s.i<(List.length s.a:Int):=by simpa using c1
  refine .inr ⟨rfl,rfl,s.i.toNat,by simp only;omega,?_⟩
  rw [Int.toNat_of_nonneg (by omega)]
  have hg:yV s s.i=false:=by unfold yV;(simpa using c2)
  exact hg
 ·have c1:s.i<(List.length s.a:Int):=by simpa using c1
  have hg:yV s s.i=true:=by unfold yV;(simpa using c2)
  rw [aN (x:=s.i+1) (by omega) (by omega)]
  refine ⟨⟨by simp only;omega,by simp only;omega,h2,h3,fun j hj=>?_⟩,by simp only [FI];omega⟩
  by_cases hji:(j:Int)<s.i
  ·exact h4 j hji
  ·have:(j:Int)=s.i:=by simp only at hj;omega
   rw [this];exact hg
 ·have c1:(List.length s.a:Int)≤s.i:=by simpa using c1
  exact .inl ⟨rfl,fun j hj=>h4 j (by omega)⟩
def wG:bT jQ:=⟨0,26,[0,1,4,5],[],axe,axd,fun v _=>⟨aS (.int .i64) (v.getD 0 .junk),aS (.int .i64) (v.getD 1 .junk),x9 (v.getD 2 .junk),gI (v.getD 3 .junk)⟩,NC,fun s r=> {r with a:=s.a,b:=s.b},fun s=>s,fun _ s=>s,[.ret,.exit 0],Yt,Dw,FI⟩
abbrev Rq:=wG.run
abbrev Tm:=wG.kG
abbrev apa:=wG.q
theorem alU (s:jQ) (hI:Dw s):(NC s).all (fun _=>True):=by
 refine ⟨fun c1=>⟨?_,?_,fun _=>trivial,fun _=>trivial⟩,fun _=>trivial⟩
 all_goals ((obtain ⟨h0,h1,h2,h3,h4⟩:=hI;simp at c1;omega))
theorem ZO:wG.Ok:=⟨fun s=>by kernel_rfl,fun s=>by kernel_rfl,fun s=>rfl,fun s t r=>rfl,fun s=>rfl,fun s=>by kernel_rfl⟩
theorem ZM:wG.Pf (Yo):=⟨at6,fun _ _=>rfl,al4,alU⟩
theorem aev:bC Tryz.prog aQ (AN 0) (.loop xG) wG.lp:=bT.snd ZO ZM (aV (Γ:=ah6) (K:=fC) (L:=aF) aqe aH xG (fun b hb=>by rw [show aG xG=[] by kernel_rfl] at hb;cases hb)) (fun s=>by kernel_rfl)
theorem aeU (s:jQ) (hE:Yt s):∃s',Dw s'∧Yo (Tm s) s' (Rq s):=bT.fin ZO ZM s hE
def Ul:List LV→T LV
 | [.xl (.int .i64) a,.xl (.int .i64) b]=> .req ((List.length a:Int)≤1000) (.ok (.v (.bool (a==b))))
 |_=> .no
noncomputable def Qa:List LV→T LV:=gZ Tryz.prog Tryz.f16.params.toList Ul
theorem ag0 (a b:List Int):bY Tryz.prog aQ (ah6) fC (fun i=>if i=4 then wG.lp else aF i) Tryz.f16 [.xl (.int .i64) a,.xl (.int .i64) b]=.br ((List.length a:Int) !=(List.length b:Int)) (.ok (.v (.bool false))) (.req (apa (⟨a,b,false,(0:Int)⟩:jQ)) (.br (iQ (Tm (⟨a,b,false,(0:Int)⟩:jQ)) (.ret)) (.ok (.v (.bool (Rq (⟨a,b,false,(0:Int)⟩:jQ)).r))) (.ok (.v (.bool true))))):=by kernel_rfl
theorem aku:Valid Tryz.prog aQ 16 Qa:=aI Tryz.func16 rfl aqe aH (L:=(fun i=>if i=4 then wG.lp else aF i)) (fun b hb=>by
 rw [show aG _=[xG] by kernel_rfl] at hb
 simp only [List.mem_cons,List.not_mem_nil,or_false] at hb
 subst hb
 exact aev) (fun args lv h=>by
 unfold Ul at h
 split at h
 ·simp only [canL,canX]
  rw [ag0]
  rename_i a b
  obtain ⟨hl,rfl⟩:=h
  refine ⟨fun c=>congrArg (fun z=>LV.v (.bool z)) ?_,fun c=>?_⟩
  ·have c:¬a.length=b.length:=by simp at c;omega
   rw [eq_comm,beq_eq_false_iff_ne]
   exact fun e=>c (by rw [e])
  ·have c:a.length=b.length:=by simp at c;omega
   refine nP ⟨⟨rfl,Int.natCast_nonneg _,hl,c⟩,rfl,rfl⟩ (fun hE=>?_)
   obtain ⟨s',_,hq⟩:=aeU _ hE.1
   rcases hq with ⟨q1,q2⟩ |⟨q1,q2,j,q3,q4⟩
   ·have e:(a==b)=true:=by
     rw [beq_iff_eq]
     refine List.ext_getElem c fun j h1 h2=>?_
     have:(gi a j==gi b j)=true:=q2 j (by show (j:Int)<(a.length:Int);omega)
     rw [o6 (by simpa using h1),o6 (by simpa using h2)] at this
     simpa using this
    rw [q1,e]
    exact ⟨fun h=>(by cases h),fun _=>rfl⟩
   ·have e:(a==b)=false:=by
     rw [beq_eq_false_iff_ne]
     rintro rfl
     have q4:(gi a j==gi a j)=false:=q4
     simp at q4
    rw [q1,q2,e]
    exact ⟨fun _=>rfl,fun h=>by cases h⟩
 ·cases h)
end Go.Proofs.YtlihnbimgclogaaGreatDoor
namespace Go.Proofs.YtlihnbimgclogaaGreatDoor
open Go.Sx
structure nG where
 l:List ByteArray
 k:Int
 i:Int
 bK:Value
 iT:Value
 fM:Value
 gu:Value
 mM:Value
 ak:List Cd
 aC:List ByteArray
 aj:Value
 aK:Value
 gs:List Ch
def aBE (s:nG):List LV:=[.own 0 0,.own 1 0,.xl .str s.l,.v (.int .i64 s.k),.v (.int .i64 s.i)]
def aAH (s:nG):List aT:=[⟨[.v (s.bK),.v (s.iT),.v (s.fM),.v (s.gu),.v (s.mM)],28,.cl,false⟩,⟨[.xl dZ s.ak,.xl .str s.aC,.v (s.aj),.os 2 8 0 (List.length s.gs),.v (s.aK)],28,.cl,false⟩,⟨[],58,.vec dR s.gs,false⟩]
noncomputable def AY:Code:=((aG (Tryz.f33.body.getD .skip))[0]?).getD .skip
def YZ (s:nG):T (Rd nG):=
 .br (decide (s.i<s.k)) (.req (0≤s.i∧s.i<(List.length s.l:Int)) (.req (0+(List.length s.gs)=List.length s.gs∧((List.length s.gs+List.length ([((gS s.l s.i),((0:Int),((1:Int),((6:Int),((10:Int),((1:Int),((0:Int),(0:Int))))))))]):Nat):Int)*72≤2^47∧((List.length s.gs+List.length ([((gS s.l s.i),((0:Int),((1:Int),((6:Int),((10:Int),((1:Int),((0:Int),(0:Int))))))))]):Nat):Int)<2^62) (.req (0=0∧(List.length s.gs+List.length ([((gS s.l s.i),((0:Int),((1:Int),((6:Int),((10:Int),((1:Int),((0:Int),(0:Int))))))))]))=List.length (s.gs++([((gS s.l s.i),((0:Int),((1:Int),((6:Int),((10:Int),((1:Int),((0:Int),(0:Int))))))))]))) (.ok (.next {s with i:=(IntKind.i64.wrap (s.i+1)),gs:=(s.gs++([((gS s.l s.i),((0:Int),((1:Int),((6:Int),((10:Int),((1:Int),((0:Int),(0:Int))))))))]))}))))) (.rl s.gs (.ok (.stop (.exit 0) s)))
abbrev aqP (s:nG):=(YZ s).rd s
def pkG:List Ch:=[(ByteArray.mk #[120],0,1,6,10,1,0,0),(ByteArray.mk #[121],0,1,6,10,1,0,0)]
def pkC (n:Int):List Cd:=[(ByteArray.mk #[102],-1,n,100,(0,0),0,0,0,0,0)]
def pkS:List ByteArray:=[ByteArray.mk #[120],ByteArray.mk #[121]]
def acS (s:nG):Prop:=s.i=0∧s.gs=[]∧s.l=pkS∧s.k=2
def Mc (s:nG):Prop:=(0≤s.i∧s.i≤2)∧s.gs=pkG.take s.i.toNat∧s.l=pkS∧s.k=2
def Oz (s:nG):Nat:=(2-s.i).toNat
def ajt (x:Ex) (_ s':nG):Prop:=x=.exit 0∧s'.gs=pkG
theorem ayC:∀s,acS s→Mc s:=by
 intro s h
 obtain ⟨h0,h1,h2⟩:=h
 exact ⟨by omega,by rw [h0,h1];rfl,h2⟩
theorem aue (s:nG) (hI:Mc s):bQ (fun s'=>Mc s'∧Oz s'<Oz s) (fun x s'=>ajt x s s') (aqP s):=by
 unfold aqP YZ
 dsimp only [T.rd,T.rl]
 obtain ⟨⟨h0,h1⟩,h2,h3,h4⟩:=hI
 refine ax (fun c1=>?_) (fun c1=>?_)
 ·have c1:s.i<2:=by simpa [h4] using c1
  rw [aN (x:=s.i+1) (by omega) (by omega)]
  refine ⟨⟨⟨by simp only;omega,by simp only;omega⟩,?_,h3,h4⟩,by simp only [Oz];omega⟩
  simp only
  rw [h2,h3]
  rcases (by omega:s.i=0∨s.i=1) with e|e<;>rw [e]<;>rfl
 ·have c1:2≤s.i:=by simpa [h4] using c1
  refine ⟨rfl,?_⟩
  rw [h2,show s.i.toNat=2 by omega]
  rfl
def EG:bT nG:=⟨0,27,[2,3,12,13,14],[.nc 1 3 58 dR],aBE,aAH,fun v b=>⟨aS .str (v.getD 2 .junk),gI (v.getD 3 .junk),gI (v.getD 4 .junk),gAn (aZ (aP b 0) 0),gAn (aZ (aP b 0) 1),gAn (aZ (aP b 0) 2),gAn (aZ (aP b 0) 3),gAn (aZ (aP b 0) 4),aS dZ (aZ (aP b 1) 0),aS .str (aZ (aP b 1) 1),gAn (aZ (aP b 1) 2),gAn (aZ (aP b 1) 4),jy dR (aP b 2)⟩,YZ,fun s r=> {r with l:=s.l,k:=s.k,bK:=s.bK,iT:=s.iT,fM:=s.fM,gu:=s.gu,mM:=s.mM,ak:=s.ak,aC:=s.aC,aj:=s.aj,aK:=s.aK},fun s=>s,fun _ s=>s,[.exit 0],acS,Mc,Oz⟩
abbrev wM:=EG.run
abbrev aoi:=EG.kG
abbrev awH:=EG.q
theorem ati (s:nG) (hI:Mc s):(YZ s).all (fun _=>True):=by
 refine ⟨fun c1=>⟨?_,?_,?_,trivial⟩,fun c1=>⟨⟨rfl,rfl⟩,trivial⟩⟩
 all_goals ((obtain ⟨⟨h0,h1⟩,h2,h3,h4⟩:=hI;simp only [decide_eq_true_eq] at c1;have hl:s.l.length=2:=(by rw [h3];rfl);have hg:s.gs.length≤2:=(by rw [h2,List.length_take];show min _ 2≤2;omega);first|omega|(refine ⟨by omega,?_,?_⟩<;>simp only [List.length_cons,List.length_nil]<;>omega) |exact ⟨rfl,by simp⟩))
noncomputable def WX:Specs:=bg []
theorem ahW:∀g S,WX g=some S→Valid Tryz.prog aQ g S:=aU (l:=[]) trivial
theorem agp:EG.Ok:=⟨fun s=>by kernel_rfl,fun s=>by kernel_rfl,fun s=>rfl,fun s t r=>rfl,fun s=>rfl,fun s=>by kernel_rfl⟩
theorem afl:EG.Pf (ajt):=⟨ayC,fun _ _=>rfl,aue,ati⟩
theorem ak9:bC Tryz.prog aQ (AN 0) (.loop AY) EG.lp:=bT.snd agp afl (aV (Γ:=WX) (K:=fC) (L:=aF) ahW aH AY (fun b hb=>by rw [show aG AY=[] by kernel_rfl] at hb;cases hb)) (fun s=>by kernel_rfl)
theorem al8 (s:nG) (hE:acS s):∃s',Mc s'∧ajt (aoi s) s' (wM s):=bT.fin agp afl s hE
def ab4:List LV→T LV
 | [.v (.int .i64 n)]=> .ok (.agg [.xl dZ (pkC n),.xl .str ([(ByteArray.mk #[111])]),.xl eP ([]:List Ko),.xl dR pkG,.xl eU ([]:List Ba)])
 |_=> .no
noncomputable def XV:List LV→T LV:=gZ Tryz.prog Tryz.f33.params.toList ab4
theorem am6 (n:Int):bY Tryz.prog aQ (WX) fC (fun i=>if i=3 then EG.lp else aF i) Tryz.f33 [.v (.int .i64 n)]=.req (0=0∧0=List.length ([]:List Ch)) (.req (awH (⟨([(ByteArray.mk #[120]),(ByteArray.mk #[121])]),(List.length ([(ByteArray.mk #[120]),(ByteArray.mk #[121])]):Int),(0:Int),(.slice none 0 0),(.slice none 0 0),(.slice none 0 0),(.slice none 0 0),(.slice none 0 0),([((ByteArray.mk #[102]),((-1:Int),(n,((100:Int),(((0:Int),(0:Int)),((0:Int),((0:Int),((0:Int),((0:Int),(0:Int))))))))))]),([(ByteArray.mk #[111])]),(.slice none 0 0),(.slice none 0 0),([]:List Ch)⟩:nG)) (.req (0+(List.length (wM (⟨([(ByteArray.mk #[120]),(ByteArray.mk #[121])]),(List.length ([(ByteArray.mk #[120]),(ByteArray.mk #[121])]):Int),(0:Int),(.slice none 0 0),(.slice none 0 0),(.slice none 0 0),(.slice none 0 0),(.slice none 0 0),([((ByteArray.mk #[102]),((-1:Int),(n,((100:Int),(((0:Int),(0:Int)),((0:Int),((0:Int),((0:Int),((0:Int),(0:Int))))))))))]),([(ByteArray.mk #[111])]),(.slice none 0 0),(.slice none 0 0),([]:List Ch)⟩:nG)).gs)≤List.length (wM (⟨([(ByteArray.mk #[120]),(ByteArray.mk #[121])]),(List.length ([(ByteArray.mk #[120]),(ByteArray.mk #[121])]):Int),(0:Int),(.slice none 0 0),(.slice none 0 0),(.slice none 0 0),(.slice none 0 0),(.slice none 0 0),([((ByteArray.mk #[102]),((-1:Int),(n,((100:Int),(((0:Int),(0:Int)),((0:Int),((0:Int),((0:Int),((0:Int),(0:Int))))))))))]),([(ByteArray.mk #[111])]),(.slice none 0 0),(.slice none 0 0),([]:List Ch)⟩:nG)).gs) (.ok (.agg [.xl dZ ([((ByteArray.mk #[102]),((-1:Int),(n,((100:Int),(((0:Int),(0:Int)),((0:Int),((0:Int),((0:Int),((0:Int),(0:Int))))))))))]),.xl .str ([(ByteArray.mk #[111])]),.xl eP ([]:List Ko),.xl dR (((wM (⟨([(ByteArray.mk #[120]),(ByteArray.mk #[121])]),(List.length ([(ByteArray.mk #[120]),(ByteArray.mk #[121])]):Int),(0:Int),(.slice none 0 0),(.slice none 0 0),(.slice none 0 0),(.slice none 0 0),(.slice none 0 0),([((ByteArray.mk #[102]),((-1:Int),(n,((100:Int),(((0:Int),(0:Int)),((0:Int),((0:Int),((0:Int),((0:Int),(0:Int))))))))))]),([(ByteArray.mk #[111])]),(.slice none 0 0),(.slice none 0 0),([]:List Ch)⟩:nG)).gs.drop 0).take (List.length (wM (⟨([(ByteArray.mk #[120]),(ByteArray.mk #[121])]),(List.length ([(ByteArray.mk #[120]),(ByteArray.mk #[121])]):Int),(0:Int),(.slice none 0 0),(.slice none 0 0),(.slice none 0 0),(.slice none 0 0),(.slice none 0 0),([((ByteArray.mk #[102]),((-1:Int),(n,((100:Int),(((0:Int),(0:Int)),((0:Int),((0:Int),((0:Int),((0:Int),(0:Int))))))))))]),([(ByteArray.mk #[111])]),(.slice none 0 0),(.slice none 0 0),([]:List Ch)⟩:nG)).gs)),.xl eU ([]:List Ba)])))):=by kernel_rfl
theorem arV:Valid Tryz.prog aQ 33 XV:=aI Tryz.func33 rfl ahW aH (L:=(fun i=>if i=3 then EG.lp else aF i)) (fun b hb=>by
 rw [show aG _=[AY] by kernel_rfl] at hb
 simp only [List.mem_cons,List.not_mem_nil,or_false] at hb
 subst hb
 exact ak9) (fun args lv h=>by
 unfold ab4 at h
 split at h
 ·simp only [canL,canX]
  rw [am6]
  rename_i n
  obtain rfl:=h
  have hE:acS ⟨([(ByteArray.mk #[120]),(ByteArray.mk #[121])]),(List.length ([(ByteArray.mk #[120]),(ByteArray.mk #[121])]):Int),0,.slice none 0 0,.slice none 0 0,.slice none 0 0,.slice none 0 0,.slice none 0 0,[((ByteArray.mk #[102]),-1,n,100,(0,0),0,0,0,0,0)],[(ByteArray.mk #[111])],.slice none 0 0,.slice none 0 0,[]⟩:=⟨rfl,rfl,rfl,rfl⟩
  obtain ⟨_,_,q1,q2⟩:=al8 _ hE
  have q2:(wM ⟨([(ByteArray.mk #[120]),(ByteArray.mk #[121])]),(List.length ([(ByteArray.mk #[120]),(ByteArray.mk #[121])]):Int),0,.slice none 0 0,.slice none 0 0,.slice none 0 0,.slice none 0 0,.slice none 0 0,[((ByteArray.mk #[102]),-1,n,100,(0,0),0,0,0,0,0)],[(ByteArray.mk #[111])],.slice none 0 0,.slice none 0 0,[]⟩).gs=pkG:=q2
  refine ⟨⟨rfl,rfl⟩,⟨hE,rfl,rfl⟩,by omega,?_⟩
  rw [List.drop_zero,List.take_length,q2]
  rfl
 ·cases h)
def aco:List LV→T LV
 | []=> .ok (.v (.bool true))
 |_=> .no
noncomputable def X9:List LV→T LV:=gZ Tryz.prog Tryz.f11.params.toList aco
noncomputable def aid:Specs:=bg [(14,Yh),(16,Qa),(19,yT),(33,XV)]
theorem avi:∀g S,aid g=some S→Valid Tryz.prog aQ g S:=aU (l:=[(14,Yh),(16,Qa),(19,yT),(33,XV)]) ⟨ash,aku,Vb,arV,trivial⟩
theorem anm:(bY Tryz.prog aQ (aid) fC aF Tryz.f11 []).red=.req (wI ([(true,((0:Int),((0:Int),(2:Int)))),(true,((0:Int),((50:Int),(1:Int))))]) (40:Int)∧([(true,((0:Int),((0:Int),(2:Int)))),(true,((0:Int),((50:Int),(1:Int))))]).length≤19) (.req (wI ([(true,((0:Int),((0:Int),(2:Int)))),(true,((0:Int),((50:Int),(1:Int))))]) (40:Int)∧([(true,((0:Int),((0:Int),(2:Int)))),(true,((0:Int),((50:Int),(1:Int))))]).length≤19) (.req (0≤(0:Int)∧(0:Int)≤(1:Int)∧(1:Int)≤(List.length ([((0:Int),(9:Int)),((0:Int),(9:Int))]):Int)) (.req (wI ([(true,((0:Int),((0:Int),(2:Int)))),(true,((0:Int),((50:Int),(1:Int))))]) (40:Int)∧([(true,((0:Int),((0:Int),(2:Int)))),(true,((0:Int),((50:Int),(1:Int))))]).length≤19) (.req ((List.length (deA (pkC (10:Int)) ([(ByteArray.mk #[111])]) ([]:List Ko) pkG ([]:List Ba) ([]:List Le) ([((0:Int),(9:Int)),((0:Int),(9:Int))]) ([(true,((0:Int),((0:Int),(2:Int)))),(true,((0:Int),((50:Int),(1:Int))))]) (40:Int) (7:Int)):Int)≤1000) (.req (0≤(1:Int)∧1<(List.length (deR (pkC (10:Int)) ([(ByteArray.mk #[111])]) ([]:List Ko) pkG ([]:List Ba) ([]:List Le) ([((0:Int),(9:Int)),((0:Int),(9:Int))]) ([(true,((0:Int),((0:Int),(2:Int)))),(true,((0:Int),((50:Int),(1:Int))))]) (40:Int) (7:Int)):Int)) (.req (0≤(0:Int)∧0<(List.length (deR (pkC (10:Int)) ([(ByteArray.mk #[111])]) ([]:List Ko) pkG ([]:List Ba) ([]:List Le) ([((0:Int),(9:Int)),((0:Int),(9:Int))]) ([(true,((0:Int),((0:Int),(2:Int)))),(true,((0:Int),((50:Int),(1:Int))))]) (40:Int) (7:Int)):Int)) (.req (0≤(0:Int)∧0<(List.length (deL (pkC (10:Int)) ([(ByteArray.mk #[111])]) ([]:List Ko) pkG ([]:List Ba) ([]:List Le) ([((0:Int),(9:Int)),((0:Int),(9:Int))]) ([(true,((0:Int),((0:Int),(2:Int)))),(true,((0:Int),((50:Int),(1:Int))))]) (40:Int) (7:Int)):Int)) (.req ((List.length (deA (pkC (20:Int)) ([(ByteArray.mk #[111])]) ([]:List Ko) pkG ([]:List Ba) ([((3:Int),((1:Int),((20:Int),((30:Int),(12:Int)))))]) ([((0:Int),(9:Int)),((0:Int),(9:Int))]) ([(true,((0:Int),((0:Int),(2:Int)))),(true,((0:Int),((50:Int),(1:Int))))]) (40:Int) (7:Int)):Int)≤1000) (.req (wI ([(true,((0:Int),((0:Int),(2:Int)))),(true,((0:Int),((50:Int),(1:Int))))]) (40:Int)∧([(true,((0:Int),((0:Int),(2:Int)))),(true,((0:Int),((50:Int),(1:Int))))]).length≤19) (.req ((List.length (iP ([(true,((0:Int),((0:Int),(2:Int)))),(true,((0:Int),((50:Int),(1:Int))))]) (40:Int)):Int)≤1000) (.ok (.v (.bool true))))))))))))):=by kernel_rfl
theorem ar7:Valid Tryz.prog aQ 11 X9:=aI Tryz.func11 rfl avi aH (aY (by kernel_rfl)) (fun args lv h=>by
 unfold aco at h
 split at h
 ·simp only [canL]
  refine @T.F5 _ _ _ ?_
  rw [anm]
  exact ⟨(by first|decide+kernel|(unfold wI;decide+kernel)),(by first|decide+kernel|(unfold wI;decide+kernel)),(by first|decide+kernel|(unfold wI;decide+kernel)),(by first|decide+kernel|(unfold wI;decide+kernel)),(by first|decide+kernel|(unfold wI;decide+kernel)),(by first|decide+kernel|(unfold wI;decide+kernel)),(by first|decide+kernel|(unfold wI;decide+kernel)),(by first|decide+kernel|(unfold wI;decide+kernel)),(by first|decide+kernel|(unfold wI;decide+kernel)),(by first|decide+kernel|(unfold wI;decide+kernel)),(by first|decide+kernel|(unfold wI;decide+kernel)),h⟩
 ·cases h)
end Go.Proofs.YtlihnbimgclogaaGreatDoor
namespace Go.Proofs.YtlihnbimgclogaaGreatDoor
open Go.Sx
structure ja where
 d:List Dm
 tick:Int
 m:List Ch
 k:Int
 i:Int
 ak:List Cd
 aC:List ByteArray
 aj:List Ko
 au:List Ch
 aK:List Ba
 base:List Int
 most:List Int
def aBO (s:ja):List LV:=[.xl pV s.d,.v (.int .i64 s.tick),.own 0 0,.os 1 1 0 (List.length s.base),.os 2 1 0 (List.length s.most),.xl dR s.m,.v (.int .i64 s.k),.v (.int .i64 s.i)]
def aAR (s:ja):List aT:=[⟨[.xl dZ s.ak,.xl .str s.aC,.xl eP s.aj,.xl dR s.au,.xl eU s.aK],28,.cl,false⟩,⟨[],3,.vec (.int .i64) s.base,false⟩,⟨[],3,.vec (.int .i64) s.most,false⟩]
noncomputable def Bg:Code:=((aG (Tryz.f23.body.getD .skip))[0]?).getD .skip
def Y2 (s:ja):T (Rd ja):=
 .br (decide (s.i<s.k)) (.req (0≤s.i∧s.i<(List.length s.m:Int)) (.req (0+(List.length s.base)=List.length s.base∧((List.length s.base+List.length ([(bF s.m s.i).2.2.2.2.2.2.1]):Nat):Int)*8≤2^47∧((List.length s.base+List.length ([(bF s.m s.i).2.2.2.2.2.2.1]):Nat):Int)<2^62) (.req (0+(List.length s.most)=List.length s.most∧((List.length s.most+List.length ([(0:Int)]):Nat):Int)*8≤2^47∧((List.length s.most+List.length ([(0:Int)]):Nat):Int)<2^62) (.req (0≤s.i∧s.i<(List.length s.d:Int)) (.br (iR s.d s.i).1 (.req (0≤s.i∧s.i<((List.length s.most+List.length ([(0:Int)]):Nat):Int)) (.req (s.i.toNat<List.length (s.most++([(0:Int)]))) (.req (0=0∧(List.length s.base+List.length ([(bF s.m s.i).2.2.2.2.2.2.1]))=List.length (s.base++([(bF s.m s.i).2.2.2.2.2.2.1]))) (.req (0=0∧(List.length s.most+List.length ([(0:Int)]))=List.length ((s.most++([(0:Int)])).set s.i.toNat (bF s.m s.i).2.2.2.2.1)) (.ok (.next {s with i:=(IntKind.i64.wrap (s.i+1)),base:=(s.base++([(bF s.m s.i).2.2.2.2.2.2.1])),most:=((s.most++([(0:Int)])).set s.i.toNat (bF s.m s.i).2.2.2.2.1)})))))) (.req (0=0∧(List.length s.base+List.length ([(bF s.m s.i).2.2.2.2.2.2.1]))=List.length (s.base++([(bF s.m s.i).2.2.2.2.2.2.1]))) (.req (0=0∧(List.length s.most+List.length ([(0:Int)]))=List.length (s.most++([(0:Int)]))) (.ok (.next {s with i:=(IntKind.i64.wrap (s.i+1)),base:=(s.base++([(bF s.m s.i).2.2.2.2.2.2.1])),most:=(s.most++([(0:Int)]))}))))))))) (.rl s.base (.rl s.most (.ok (.stop (.exit 0) s))))
abbrev aqS (s:ja):=(Y2 s).rd s
def acV (s:ja):Prop:=s.i=0∧s.base=[]∧s.most=[]∧s.k=(List.length s.m:Int)∧s.k≤1000∧s.d.length=s.m.length
def MI (s:ja):Prop:=(0≤s.i∧s.i≤s.k)∧s.base=rH s.i.toNat (fun j=>Dh (bF s.m j))∧s.most=rH s.i.toNat (fun j=>if (iR s.d j).1=true then (bF s.m j).2.2.2.2.1 else 0)∧s.k=(List.length s.m:Int)∧s.k≤1000∧s.d.length=s.m.length
def He (s:ja):Nat:=(s.k-s.i).toNat
def ajC (x:Ex) (_ s':ja):Prop:=x=.exit 0∧s'.base=rH s'.m.length (fun j=>Dh (bF s'.m j))∧s'.most=rH s'.m.length (fun j=>if (iR s'.d j).1=true then (bF s'.m j).2.2.2.2.1 else 0)
theorem ayT:∀s,acV s→MI s:=by
 intro s h
 obtain ⟨h0,hb,hm,h2⟩:=h
 exact ⟨by omega,by rw [h0,hb];rfl,by rw [h0,hm];rfl,h2⟩
theorem auU (s:ja) (hI:MI s):bQ (fun s'=>MI s'∧He s'<He s) (fun x s'=>ajC x s s') (aqS s):=by
 unfold aqS Y2
 dsimp only [T.rd,T.rl]
 obtain ⟨⟨h0,h1⟩,hb,hm,h2,h3,h4⟩:=hI
 have hbl:s.base.length=s.i.toNat:=(by rw [hb,fJ])
 have hml:s.most.length=s.i.toNat:=(by rw [hm,fJ])
 refine ax (fun c1=>?_) (fun c1=>?_)
 ·refine ax (fun c2=>?_) (fun c2=>?_)
  ·have c1:s.i<s.k:=by simpa using c1
   rw [aN (x:=s.i+1) (by omega) (by omega)]
   have hs:s.i.toNat+1=(s.i+1).toNat:=by omega
   refine ⟨⟨⟨by simp only;omega,by simp only;omega⟩,by simp only;rw [←hs,wZ,←hb,Int.toNat_of_nonneg h0];rfl,?_,h2,h3,h4⟩,by simp only [He];omega⟩
   simp only
   rw [←hs,wZ,←hm,Int.toNat_of_nonneg h0,if_pos (show (iR s.d s.i).1=true from c2),List.set_append_right _ _ (by omega),show s.i.toNat-s.most.length=0 by omega]
   rfl
  ·have c1:s.i<s.k:=by simpa using c1
   rw [aN (x:=s.i+1) (by omega) (by omega)]
   have hs:s.i.toNat+1=(s.i+1).toNat:=by omega
   refine ⟨⟨⟨by simp only;omega,by simp only;omega⟩,by simp only;rw [←hs,wZ,←hb,Int.toNat_of_nonneg h0];rfl,?_,h2,h3,h4⟩,by simp only [He];omega⟩
   simp only
   rw [←hs,wZ,←hm,Int.toNat_of_nonneg h0,if_neg (show ¬(iR s.d s.i).1=true by rw [c2];decide)]
 ·have c1:s.k≤s.i:=by simpa using c1
  have hi:s.i.toNat=s.m.length:=by omega
  exact ⟨rfl,by rw [←hi];exact hb,by rw [←hi];exact hm⟩
def EO:bT ja:=⟨0,48,[1,2,3,8,9,13,14,15],[.nl 8 3 (.int .i64),.nl 9 3 (.int .i64)],aBO,aAR,fun v b=>⟨aS pV (v.getD 0 .junk),gI (v.getD 1 .junk),aS dR (v.getD 5 .junk),gI (v.getD 6 .junk),gI (v.getD 7 .junk),aS dZ (aZ (aP b 0) 0),aS .str (aZ (aP b 0) 1),aS eP (aZ (aP b 0) 2),aS dR (aZ (aP b 0) 3),aS eU (aZ (aP b 0) 4),jy (.int .i64) (aP b 1),jy (.int .i64) (aP b 2)⟩,Y2,fun s r=> {r with d:=s.d,tick:=s.tick,m:=s.m,k:=s.k,ak:=s.ak,aC:=s.aC,aj:=s.aj,au:=s.au,aK:=s.aK},fun s=>s,fun _ s=>s,[.exit 0],acV,MI,He⟩
abbrev jd:=EO.run
abbrev aoq:=EO.kG
abbrev awQ:=EO.q
theorem atv (s:ja) (hI:MI s):(Y2 s).all (fun _=>True):=by
 refine ⟨fun c1=>⟨?_,?_,?_,?_,fun c2=>⟨?_,?_,?_,?_,trivial⟩,fun c2=>⟨?_,?_,trivial⟩⟩,fun c1=>⟨⟨rfl,rfl⟩,⟨rfl,rfl⟩,trivial⟩⟩
 all_goals ((obtain ⟨⟨h0,h1⟩,hb,hm,h2,h3,h4⟩:=hI;have hbl:s.base.length=s.i.toNat:=(by rw [hb,fJ]);have hml:s.most.length=s.i.toNat:=(by rw [hm,fJ]);(try simp only [decide_eq_true_eq] at c1);first|omega|(refine ⟨by omega,?_,?_⟩<;>simp only [List.length_cons,List.length_nil]<;>omega) |(simp only [List.length_append,List.length_cons,List.length_nil];omega) |(refine ⟨by omega,?_⟩;simp only [List.length_cons,List.length_nil];omega) |exact ⟨rfl,by simp⟩))
noncomputable def WW:Specs:=bg [(19,yT),(52,yS)]
theorem ahV:∀g S,WW g=some S→Valid Tryz.prog aQ g S:=aU (l:=[(19,yT),(52,yS)]) ⟨Vb,Va,trivial⟩
theorem ags:EO.Ok:=⟨fun s=>by kernel_rfl,fun s=>by kernel_rfl,fun s=>rfl,fun s t r=>rfl,fun s=>rfl,fun s=>by kernel_rfl⟩
theorem afo:EO.Pf (ajC):=⟨ayT,fun _ _=>rfl,auU,atv⟩
theorem ali:bC Tryz.prog aQ (AN 0) (.loop Bg) EO.lp:=bT.snd ags afo (aV (Γ:=WW) (K:=fC) (L:=aF) ahV aH Bg (fun b hb=>by rw [show aG Bg=[] by kernel_rfl] at hb;cases hb)) (fun s=>by kernel_rfl)
theorem anJ (s:ja) (hE:acV s):∃s',MI s'∧ajC (aoq s) s' (jd s):=bT.fin ags afo s hE
def acd:List LV→T LV
 | [.agg [.xl (.pair .str (.pair (.int .i64) (.pair (.int .i64) (.pair (.int .i64) (.pair (.pair (.int .i64) (.int .i64)) (.pair (.int .i64) (.pair (.int .i64) (.pair (.int .i64) (.pair (.int .i64) (.int .i64)))))))))) cs,.xl (.str) os,.xl (.pair .str (.pair (.int .i64) (.pair (.int .i64) (.int .i64)))) ks,.xl (.pair .str (.pair (.int .i64) (.pair (.int .i64) (.pair (.int .i64) (.pair (.int .i64) (.pair (.int .i64) (.pair (.int .i64) (.int .i64)))))))) gs,.xl (.pair .str (.int .i64)) bs],.xl (.pair .bool (.pair (.int .i64) (.pair (.int .i64) (.int .i64)))) d,.v (.int .i64 t)]=> .req (Si cs os ks gs bs d∧wI d t∧d.length≤19) (.ok (.iG [.xl (.int .i64) (YH cs os ks gs bs d t),.v (.int .i64 0)]))
 |_=> .no
noncomputable def X0:List LV→T LV:=gZ Tryz.prog Tryz.f23.params.toList acd
theorem anc (cs:List Cd) (os:List ByteArray) (ks:List Ko) (gs:List Ch) (bs:List Ba) (d:List Dm) (t:Int):bY Tryz.prog aQ (WW) fC (fun i=>if i=3 then EO.lp else aF i) Tryz.f23 [.agg [.xl dZ cs,.xl .str os,.xl eP ks,.xl dR gs,.xl eU bs],.xl pV d,.v (.int .i64 t)]=.req (0=0∧0=List.length ([]:List Int)) (.req (0=0∧0=List.length ([]:List Int)) (.req (awQ (⟨d,t,gs,(List.length gs:Int),(0:Int),cs,os,ks,gs,bs,([]:List Int),([]:List Int)⟩:ja)) (.req (wI d t∧d.length≤19) (.req (0+(List.length (jd (⟨d,t,gs,(List.length gs:Int),(0:Int),cs,os,ks,gs,bs,([]:List Int),([]:List Int)⟩:ja)).base)≤List.length (jd (⟨d,t,gs,(List.length gs:Int),(0:Int),cs,os,ks,gs,bs,([]:List Int),([]:List Int)⟩:ja)).base) (.req (0+(List.length (jd (⟨d,t,gs,(List.length gs:Int),(0:Int),cs,os,ks,gs,bs,([]:List Int),([]:List Int)⟩:ja)).most)≤List.length (jd (⟨d,t,gs,(List.length gs:Int),(0:Int),cs,os,ks,gs,bs,([]:List Int),([]:List Int)⟩:ja)).most) (.ok (.iG [.xl (.int .i64) (xK cs os ks gs bs (((jd (⟨d,t,gs,(List.length gs:Int),(0:Int),cs,os,ks,gs,bs,([]:List Int),([]:List Int)⟩:ja)).base.drop 0).take (List.length (jd (⟨d,t,gs,(List.length gs:Int),(0:Int),cs,os,ks,gs,bs,([]:List Int),([]:List Int)⟩:ja)).base)) (((jd (⟨d,t,gs,(List.length gs:Int),(0:Int),cs,os,ks,gs,bs,([]:List Int),([]:List Int)⟩:ja)).most.drop 0).take (List.length (jd (⟨d,t,gs,(List.length gs:Int),(0:Int),cs,os,ks,gs,bs,([]:List Int),([]:List Int)⟩:ja)).most)) (iP d t)),.v (.int .i64 (shE cs os ks gs bs (((jd (⟨d,t,gs,(List.length gs:Int),(0:Int),cs,os,ks,gs,bs,([]:List Int),([]:List Int)⟩:ja)).base.drop 0).take (List.length (jd (⟨d,t,gs,(List.length gs:Int),(0:Int),cs,os,ks,gs,bs,([]:List Int),([]:List Int)⟩:ja)).base)) (((jd (⟨d,t,gs,(List.length gs:Int),(0:Int),cs,os,ks,gs,bs,([]:List Int),([]:List Int)⟩:ja)).most.drop 0).take (List.length (jd (⟨d,t,gs,(List.length gs:Int),(0:Int),cs,os,ks,gs,bs,([]:List Int),([]:List Int)⟩:ja)).most)) (iP d t)))]))))))):=by kernel_rfl
theorem arZ:Valid Tryz.prog aQ 23 X0:=aI Tryz.func23 rfl ahV aH (L:=(fun i=>if i=3 then EO.lp else aF i)) (fun b hb=>by
 rw [show aG _=[Bg] by kernel_rfl] at hb
 simp only [List.mem_cons,List.not_mem_nil,or_false] at hb
 subst hb
 exact ali) (fun args lv h=>by
 unfold acd at h
 split at h
 ·simp only [canL,canX]
  rw [anc]
  rename_i cs os ks gs bs d t
  obtain ⟨⟨hs,hw⟩,rfl⟩:=h
  have hE:acV ⟨d,t,gs,(List.length gs:Int),0,cs,os,ks,gs,bs,[],[]⟩:=⟨rfl,rfl,rfl,rfl,by have:=hs.dl;show (gs.length:Int)≤1000;omega,hs.dl⟩
  obtain ⟨_,_,q1,q2,q3⟩:=anJ _ hE
  have q2:(jd ⟨d,t,gs,(List.length gs:Int),0,cs,os,ks,gs,bs,[],[]⟩).base=lT gs:=q2
  have q3:(jd ⟨d,t,gs,(List.length gs:Int),0,cs,os,ks,gs,bs,[],[]⟩).most=lV gs d:=q3
  refine ⟨⟨rfl,rfl⟩,⟨rfl,rfl⟩,⟨hE,rfl,rfl⟩,hw,by omega,by omega,?_⟩
  rw [List.drop_zero,List.take_length,List.drop_zero,List.take_length,q2,q3,aeF (Qz hs)]
  rfl
 ·cases h)
end Go.Proofs.YtlihnbimgclogaaGreatDoor
namespace Go.Proofs.YtlihnbimgclogaaGreatDoor
open Go.Sx
section
variable {P : List Int → Bool} {tp : Int → Int}
def Dn (P:List Int→Bool) (n:Nat):Prop:=∀a b:List Int,(∀j,0≤j→j<(n:Int)→0≤gi a j∧gi a j≤gi b j)→P b=true→P a=true
theorem anW {L i x:Int}{n:Nat}(D:Dn P n) {lv A:List Int}(hl:lv.length=n) (hn:∀j,0≤j→0≤gi lv j) (hi:0≤i∧i<(n:Int)) (hx:0≤x∧x<(n:Int)) (e:x≠i) (hv:gi lv i=L-1)
  (hA:∀j,0≤j→gi (yZ P tp L lv x) j≤gi A j) (hAl:A.length=n) (hP:P (A.set i.toNat L)=true):yZ P tp L (lv.set i.toNat L) x=(yZ P tp L lv x).set i.toNat L:=by
 have hL:0≤L-1:=by rw [←hv];exact hn i hi.1
 have g1:gi (lv.set i.toNat L) x=gi lv x:=by rw [iw hi.1 (by rw [hl];exact hi.2) hx.1,if_neg e]
 unfold yZ at hA⊢
 rw [g1]
 by_cases c:gi lv x=L-1∧L≤tp x
 ·rw [if_pos c] at hA⊢
  rw [if_pos c]
  have ne:i.toNat≠x.toNat:=by omega
  by_cases p:P (lv.set x.toNat L)=true
  ·rw [if_pos p] at hA⊢
   have p2:P ((lv.set i.toNat L).set x.toNat L)=true:=by
    refine D _ _ (fun j j0 j1=>?_) hP
    have hA:=hA j j0
    rw [iw hx.1 (by rw [hl];exact hx.2) j0] at hA
    rw [iw hx.1 (by rw [List.length_set,hl];exact hx.2) j0,iw hi.1 (by rw [hl];exact hi.2) j0,iw hi.1 (by rw [hAl];exact hi.2) j0]
    have:=hn j j0
    split
    ·rename_i q
     rw [if_pos q] at hA
     split<;>omega
    ·rename_i q
     rw [if_neg q] at hA
     split<;>omega
   rw [if_pos p2,List.set_comm _ _ ne]
  ·rw [if_neg p] at hA⊢
   have p2:¬P ((lv.set i.toNat L).set x.toNat L)=true:=fun h=>p (by
    refine D _ _ (fun j j0 j1=>?_) h
    rw [iw hx.1 (by rw [hl];exact hx.2) j0,iw hx.1 (by rw [List.length_set,hl];exact hx.2) j0,iw hi.1 (by rw [hl];exact hi.2) j0]
    have:=hn j j0
    split
    ·omega
    ·split
     ·rename_i q;subst q;omega
     ·omega)
   rw [if_neg p2]
 ·rw [if_neg c,if_neg c]
theorem aap {L i:Int}{n:Nat}(D:Dn P n) (hi:0≤i∧i<(n:Int)):∀ {m lv:List Int},lv.length=n→(∀j,0≤j→0≤gi lv j)→qC n m→i∉m→gi lv i=L-1→P ((qf P tp L lv m).set i.toNat L)=true→qf P tp L (lv.set i.toNat L) m=(qf P tp L lv m).set i.toNat L
 | [],_,_,_,_,_,_,_=>rfl
 |x::m,lv,hl,hn,hm,hne,hv,hP=>by
  have hx:=hm x (by simp)
  have e:x≠i:=fun e=>hne (by simp [e])
  have h1:(yZ P tp L lv x).length=n:=by rw [xu,hl]
  have hr:qC (yZ P tp L lv x).length m:=by rw [h1];exact fun y hy=>hm y (by simp [hy])
  rw [kN,kN] at*
  rw [anW D hl hn hi hx e hv (A:=qf P tp L (yZ P tp L lv x) m) (fun j j0=>yI j0 hr) (by rw [uw,h1]) hP]
  exact aap D hi h1 (fun j j0=>Int.le_trans (hn j j0) (ahQ (by rw [hl];exact hx) j0)) (fun y hy=>hm y (by simp [hy])) (fun h=>hne (by simp [h])) (by rw [KJ (by rw [hl];exact hx) hi.1 (.inl (fun q=>e q.symm)),hv]) hP
theorem ahP {L i:Int}{n:Nat}(D:Dn P n) {l1 m l2 lv:List Int}(hl:lv.length=n) (hn:∀j,0≤j→0≤gi lv j) (hr:qC n (l1++m++i::l2)) (nd:(l1++m++i::l2).Nodup) (hv:gi lv i=L-1) (ht:L≤tp i)
  (hq:gi (qf P tp L lv (l1++m++i::l2)) i=L):qf P tp L lv (l1++i::(m++l2))=qf P tp L lv (l1++m++i::l2):=by
 have hi:0≤i∧i<(n:Int):=hr i (by simp)
 have hr1:qC n l1:=fun x hx=>hr x (by simp [hx])
 have hrm:qC n m:=fun x hx=>hr x (by simp [hx])
 have hr2:qC n l2:=fun x hx=>hr x (by simp [hx])
 rw [List.nodup_append] at nd
 obtain ⟨nd1,nd2,nd3⟩:=nd
 have i1:i∉l1:=fun h=>nd3 i (by simp [h]) i (by simp) rfl
 have im:i∉m:=fun h=>nd3 i (by simp [h]) i (by simp) rfl
 have i2:i∉l2:=(List.nodup_cons.1 nd2).1
 have bl:(qf P tp L lv l1).length=n:=by rw [uw,hl]
 have al:(qf P tp L (qf P tp L lv l1) m).length=n:=by rw [uw,bl]
 have bn:∀j,0≤j→0≤gi (qf P tp L lv l1) j:=fun j j0=>Int.le_trans (hn j j0) (yI j0 (by rw [hl];exact hr1))
 have bi:gi (qf P tp L lv l1) i=L-1:=by rw [pR hi.1 (by rw [hl];exact hr1) (.inl i1),hv]
 have ai:gi (qf P tp L (qf P tp L lv l1) m) i=L-1:=by rw [pR hi.1 (by rw [bl];exact hrm) (.inl im),bi]
 rw [xk,xk,kN] at hq
 rw [xk,xk,xk,kN,kN,xk]
 have hg:(yZ P tp L (qf P tp L (qf P tp L lv l1) m) i).length=n:=by rw [xu,al]
 rw [pR hi.1 (by rw [hg];exact hr2) (.inl i2)] at hq
 have hP:P ((qf P tp L (qf P tp L lv l1) m).set i.toNat L)=true:=by
  cases hp:P ((qf P tp L (qf P tp L lv l1) m).set i.toNat L) with
  |true=>rfl
  |false=>
   unfold yZ at hq
   rw [if_pos ⟨ai,ht⟩,hp,if_neg (by decide)] at hq
   omega
 have e1:yZ P tp L (qf P tp L (qf P tp L lv l1) m) i=(qf P tp L (qf P tp L lv l1) m).set i.toNat L:=by
  unfold yZ
  rw [if_pos ⟨ai,ht⟩,if_pos hP]
 have hP2:P ((qf P tp L lv l1).set i.toNat L)=true:=by
  refine D _ _ (fun j j0 j1=>?_) hP
  have:=yI (P:=P) (tp:=tp) (L:=L) j0 (show qC (qf P tp L lv l1).length m by rw [bl];exact hrm)
  have:=bn j j0
  have:=hn i hi.1
  rw [iw hi.1 (by rw [bl];exact hi.2) j0,iw hi.1 (by rw [al];exact hi.2) j0]
  split<;>omega
 have e2:yZ P tp L (qf P tp L lv l1) i=(qf P tp L lv l1).set i.toNat L:=by
  unfold yZ
  rw [if_pos ⟨bi,ht⟩,if_pos hP2]
 rw [e1,e2,aap D hi bl bn hrm im bi hP]
theorem SH {i:Int}{n:Nat}(D:Dn P n) {l1 m l2 lv:List Int}{L0:Int}(hl:lv.length=n) (hn:∀j,0≤j→0≤gi lv j) (hr:qC n (l1++m++i::l2)) (nd:(l1++m++i::l2).Nodup) (hv:gi lv i≤L0-1):
  ∀f:Nat,gi (vS P tp (l1++m++i::l2) f L0 lv) i≤gi (vS P tp (l1++i::(m++l2)) f L0 lv) i∧(gi (vS P tp (l1++m++i::l2) f L0 lv) i=L0-1+f→vS P tp (l1++i::(m++l2)) f L0 lv=vS P tp (l1++m++i::l2) f L0 lv)
 |0=>⟨Int.le_refl _,fun _=>rfl⟩
 | f +1=>by
  obtain ⟨h1,h2⟩:=SH D hl hn hr nd hv f
  have hi:0≤i∧i<(n:Int):=hr i (by simp)
  have hr':qC n (l1++i::(m++l2)):=fun x hx=>hr x (by simp only [List.mem_append,List.mem_cons] at hx⊢;rcases hx with h|h|h|h<;>simp [h])
  have xl:(vS P tp (l1++m++i::l2) f L0 lv).length=n:=by rw [FM,hl]
  have yl:(vS P tp (l1++i::(m++l2)) f L0 lv).length=n:=by rw [FM,hl]
  have xb:=WR (P:=P) (tp:=tp) (f:=f) (L:=L0) (lv:=lv) hi.1 (by rw [hl];exact hr)
  rw [zO,zO]
  have ge1:=yI (P:=P) (tp:=tp) (L:=L0+f) hi.1 (show qC (vS P tp (l1++m++i::l2) f L0 lv).length _ by rw [xl];exact hr)
  have ge2:=yI (P:=P) (tp:=tp) (L:=L0+f) hi.1 (show qC (vS P tp (l1++i::(m++l2)) f L0 lv).length _ by rw [yl];exact hr')
  have bd:=Pz (P:=P) (tp:=tp) (L:=L0+f) hi.1 (show qC (vS P tp (l1++m++i::l2) f L0 lv).length _ by rw [xl];exact hr)
  by_cases c:gi (qf P tp (L0+f) (vS P tp (l1++m++i::l2) f L0 lv) (l1++m++i::l2)) i=L0+f
  ·have c2:gi (vS P tp (l1++m++i::l2) f L0 lv) i=L0+f-1:=by
    by_cases q:gi (vS P tp (l1++m++i::l2) f L0 lv) i=L0+f-1
    ·exact q
    ·have:=pR (P:=P) (tp:=tp) (L:=L0+f) hi.1 (show qC (vS P tp (l1++m++i::l2) f L0 lv).length _ by rw [xl];exact hr) (.inr q)
     omega
   have e:=h2 (by omega)
   have mv:=ahP D (L:=L0+f) xl (fun j j0=>Int.le_trans (hn j j0) (WQ j0 (by rw [hl];exact hr))) hr nd c2 (by omega) c
   rw [e,mv]
   exact ⟨Int.le_refl _,fun _=>rfl⟩
  ·refine ⟨?_,fun q=>absurd (by omega) c⟩
   by_cases q:gi (vS P tp (l1++m++i::l2) f L0 lv) i=L0+f-1
   ·omega
   ·have:=pR (P:=P) (tp:=tp) (L:=L0+f) hi.1 (show qC (vS P tp (l1++m++i::l2) f L0 lv).length _ by rw [xl];exact hr) (.inr q)
    omega
end
theorem Sv {d:List Dm}{t a b:Int}(h1:ltD d t a b=false) (h2:ltD d t b a=false):a=b:=by
 rw [Ws] at h1 h2
 omega
theorem afO {d c:List Dm}{t i:Int}(hl:c.length=d.length) (h0:0≤i) (h1:i<(d.length:Int)) (hs:∀a b,0≤a→0≤b→a≠i→b≠i→ltD c t a b=ltD d t a b) (hi:∀a,0≤a→a≠i→ltD c t a i=true→ltD d t a i=true):
  ∃l1 m l2,iP d t=l1++m++i::l2∧iP c t=l1++i::(m++l2):=by
 obtain ⟨a1,a2,ea⟩:=List.append_of_mem (zC (d:=d) (t:=t) (x:=i) |>.2 ⟨h0,h1⟩)
 obtain ⟨c1,c2,ec⟩:=List.append_of_mem (zC (d:=c) (t:=t) (x:=i) |>.2 ⟨h0,by rw [hl];exact h1⟩)
 have na:=yC (d:=d) (t:=t)
 have nc:=yC (d:=c) (t:=t)
 have sa:=DC (d:=d) (t:=t)
 have sc:=DC (d:=c) (t:=t)
 have hp:(iP d t).Perm (iP c t):=(sG.trans (by rw [hl])).trans sG.symm
 rw [ea] at na sa hp
 rw [ec] at nc sc hp
 have hp2:(a1++a2).Perm (c1++c2):=(List.perm_cons i).1 ((List.perm_middle.symm.trans hp).trans List.perm_middle)
 have nia:∀x∈a1++a2,x≠i:=fun x hx e=>by
  have:=List.perm_middle.nodup_iff.1 na
  exact (List.nodup_cons.1 this).1 (e▸hx)
 have nic:∀x∈c1++c2,x≠i:=fun x hx e=>by
  have:=List.perm_middle.nodup_iff.1 nc
  exact (List.nodup_cons.1 this).1 (e▸hx)
 have nn:∀x∈c1++c2,0≤x:=fun x hx=>(zC (d:=c) (t:=t) |>.1 (by rw [ec];simp only [List.mem_append,List.mem_cons] at hx⊢;rcases hx with h|h<;>simp [h])).1
 have sa2:(a1++a2).Pairwise (fun a b=>ltD d t b a=false):=List.Pairwise.sublist (List.Sublist.append_left (List.sublist_cons_self i a2) a1) sa
 have sc2:(c1++c2).Pairwise (fun a b=>ltD d t b a=false):=by
  have:=List.Pairwise.sublist (List.Sublist.append_left (List.sublist_cons_self i c2) c1) sc
  exact this.imp_of_mem fun {a b} ha hb h=>by rw [←hs b a (nn b hb) (nn a ha) (nic b hb) (nic a ha)];exact h
 have e:a1++a2=c1++c2:=List.Perm.eq_of_pairwise (fun a b _ _ h1 h2=>Sv h2 h1) sa2 sc2 hp2
 rw [List.pairwise_append] at sa sc
 rcases List.append_eq_append_iff.1 e with ⟨m,e1,e2⟩ |⟨m,e1,e2⟩
 ·cases m with
  |nil=>exact ⟨c1,[],a2,by rw [ea,e1];simp,by rw [ec,e2];simp⟩
  | cons x m=>
   exfalso
   have hx:x∈c1:=by rw [e1];simp
   have hx2:x∈a2:=by rw [e2];simp
   have n1:x≠i:=nic x (by simp [hx])
   have q1:=sc.2.2 x hx i (by simp)
   have q2:ltD c t x i=true:=by
    cases h:ltD c t x i with
    |true=>rfl
    |false=>exact absurd (Sv h q1) n1
   have q3:=hi x (nn x (by simp [hx])) n1 q2
   have q4:=(List.pairwise_cons.1 sa.2.1).1 x hx2
   rw [q3] at q4
   cases q4
 ·exact ⟨c1,m,a2,by rw [ea,e1],by rw [ec,e2]⟩
end Go.Proofs.YtlihnbimgclogaaGreatDoor
namespace Go.Proofs.YtlihnbimgclogaaGreatDoor
open Go.Sx
section
variable {cs : List Cd} {os : List ByteArray} {ks : List Ko} {gs : List Ch} {bs : List Ba} {l : List Le} {rs : List Ra} {d : List Dm} {t n : Int}
end
end Go.Proofs.YtlihnbimgclogaaGreatDoor
namespace Go.Proofs.YtlihnbimgclogaaGreatDoor
open Go.Sx
section
variable {cs : List Cd} {os : List ByteArray} {ks : List Ko} {gs : List Ch} {bs : List Ba} {l : List Le} {rs : List Ra} {d : List Dm} {t n : Int}
structure Fit (l:List Le) (n t:Int):Prop where
 les:pK l=true
 last:l.length=0∨((kC l ((l.length:Int)-1)).1<n∧(kC l ((l.length:Int)-1)).2.2.2.1≤t)
theorem Fit.mono {n' t':Int}(h:Fit l n t) (hn:n≤n') (ht:t≤t'):Fit l n' t':=⟨h.les,by
 rcases h.last with h1|h1
 ·exact .inl h1
 ·exact .inr (by omega)⟩
theorem akC {c:List Dm}{i:Int}(h:Si cs os ks gs bs d) (hc:c.length=d.length) (hw:∀j,(iR c j).1=(iR d j).1) (h0:0≤i) (h1:i<(d.length:Int)) (ho:∀j,0≤j→j≠i→iR c j=iR d j) (hr:(iR c i).2.2.2≤(iR d i).2.2.2) (hs:Fv c t i≤Fv d t i):gi (YH cs os ks gs bs d t) i≤gi (YH cs os ks gs bs c t) i:=by
 have hsi:Si cs os ks gs bs c:=⟨h.site,by rw [hc];exact h.dl⟩
 have k1:=Qz (t:=t) h
 have k2:=Qz (t:=t) hsi
 have ew:lV gs c=lV gs d:=by
  unfold lV
  simp only [hw]
 rw [ew] at k2
 unfold YH
 rw [ew,Vo k1,Vo k2]
 have H1:=Zp k1
 have H2:=Zp k2
 have hi:i<(gs.length:Int):=by rw [←h.dl];exact h1
 rw [kY h0 hi,kY h0 hi]
 refine BM (H1.has i h0 hi) (ahh H1 h0) ?_
 have es:∀a,0≤a→a≠i→Fv c t a=Fv d t a:=fun a a0 ha=>by unfold Fv;rw [ho a a0 ha]
 obtain ⟨l1,m,l2,e1,e2⟩:=afO (d:=d) (c:=c) (t:=t) hc h0 h1 (fun a b a0 b0 ha hb=>by
  rw [Bool.eq_iff_iff,zJ,zJ,ho a a0 ha,ho b b0 hb,es a a0 ha,es b b0 hb]) (fun a a0 ha hl=>by
  rw [zJ] at hl⊢
  rw [ho a a0 ha,es a a0 ha] at hl
  omega)
 unfold lvF
 rw [e1,e2]
 have D:Dn (PP (jV cs gs cs.length) gs (lT gs)) gs.length:=fun a b hab hb=>ao6 H1 hab hb
 have hr2:=H1.ord
 have nd:=H1.nd
 rw [e1] at hr2 nd
 exact (SH D (tp:=tpO gs (lV gs d)) (lv:=List.replicate gs.length 0) (L0:=1) (by simp) (fun j _=>by rw [rM];exact Int.le_refl 0) hr2 nd (by rw [rM];decide) 80).1
end
end Go.Proofs.YtlihnbimgclogaaGreatDoor
namespace Go.Proofs.YtlihnbimgclogaaGreatDoor
open Go.Sx
def yY (w:Int) (d:List Dm):Int:=(IntKind.i64.wrap w).tmod (List.length d:Int)
def prX (d:List Dm) (i:Int):Dm:=(([]:List Dm)++d).getD i.toNat (Ty.dflt pV)
def prR (d:List Dm) (i r:Int):Int:=if (1:Int)<IntKind.i64.wrap ((prX d i).2.2.2-(IntKind.i64.wrap r).tmod 9) then IntKind.i64.wrap ((prX d i).2.2.2-(IntKind.i64.wrap r).tmod 9) else 1
def prS (d:List Dm) (i s:Int):Int:=if (0:Int)<IntKind.i64.wrap ((prX d i).2.2.1-IntKind.i64.wrap s) then IntKind.i64.wrap ((prX d i).2.2.1-IntKind.i64.wrap s) else 0
def pr1 (d:List Dm) (i r:Int):List Dm:=(([]:List Dm)++d).set i.toNat ((prX d i).1,(prX d i).2.1,(prX d i).2.2.1,prR d i r)
def prY (d:List Dm) (i r:Int):Dm:=(pr1 d i r).getD i.toNat (Ty.dflt pV)
def pr2 (d:List Dm) (i r s:Int):List Dm:=(pr1 d i r).set i.toNat ((prY d i r).1,(prY d i r).2.1,prS d i s,(prY d i r).2.2.2)
def prZ (d:List Dm) (i r s:Int):List Dm:=((pr2 d i r s).drop 0).take (0+List.length d)
theorem ayD {d:List Dm}{i r s:Int}(h0:0≤i) (h1:i<(d.length:Int)):prZ d i r s=d.set i.toNat ((iR d i).1,(iR d i).2.1,prS d i s,prR d i r):=by
 have eX:prX d i=iR d i:=rfl
 have e1:pr1 d i r=d.set i.toNat ((iR d i).1,(iR d i).2.1,(iR d i).2.2.1,prR d i r):=rfl
 have eY:prY d i r=((iR d i).1,(iR d i).2.1,(iR d i).2.2.1,prR d i r):=by
  unfold prY
  rw [e1,List.getD_eq_getElem?_getD,List.getElem?_set_self (by omega)]
  rfl
 unfold prZ pr2
 rw [eY,e1,List.set_set,List.drop_zero,List.take_of_length_le (by simp)]
theorem an1 {d:List Dm}{i j:Int}{v:Dm}(h0:0≤i) (h1:i<(d.length:Int)) (hj:0≤j):iR (d.set i.toNat v) j=if j=i then v else iR d j:=by
 unfold iR
 rw [List.getD_eq_getElem?_getD,List.getD_eq_getElem?_getD,List.getElem?_set]
 by_cases e:j=i
 ·subst e
  rw [if_pos rfl,if_pos rfl,if_pos (by omega)]
  rfl
 ·rw [if_neg (by omega),if_neg e]
def aq7:List LV→T LV
 | [.agg [.xl (.pair .str (.pair (.int .i64) (.pair (.int .i64) (.pair (.int .i64) (.pair (.pair (.int .i64) (.int .i64)) (.pair (.int .i64) (.pair (.int .i64) (.pair (.int .i64) (.pair (.int .i64) (.int .i64)))))))))) cs,.xl (.str) os,.xl (.pair .str (.pair (.int .i64) (.pair (.int .i64) (.int .i64)))) ks,.xl (.pair .str (.pair (.int .i64) (.pair (.int .i64) (.pair (.int .i64) (.pair (.int .i64) (.pair (.int .i64) (.pair (.int .i64) (.int .i64)))))))) gs,.xl (.pair .str (.int .i64)) bs],.xl (.pair .bool (.pair (.int .i64) (.pair (.int .i64) (.int .i64)))) d,.v (.int .i64 t),.v (.int .u8 w),.v (.int .u8 r),.v (.int .u8 s)]=> .req (nmR (gK cs os ks gs bs)∧(List.length gs:Int)≤17592186044416∧(0≤w∧w≤255)∧(0≤r∧r≤255)∧0≤s∧s≤255) (.ok (.v (.bool true)))
 |_=> .no
noncomputable def az9:List LV→T LV:=gZ Tryz.prog Tryz.f6.params.toList aq7
noncomputable def aic:Specs:=bg [(11,X9),(12,XP),(22,XO),(23,X0)]
theorem avh:∀g S,aic g=some S→Valid Tryz.prog aQ g S:=aU (l:=[(11,X9),(12,XP),(22,XO),(23,X0)]) ⟨ar7,arQ,arP,arZ,trivial⟩
theorem ayQ (cs:List Cd) (os:List ByteArray) (ks:List Ko) (gs:List Ch) (bs:List Ba) (d:List Dm) (t w r s:Int):bY Tryz.prog aQ (aic) fC aF Tryz.f6 [.agg [.xl dZ cs,.xl .str os,.xl eP ks,.xl dR gs,.xl eU bs],.xl pV d,.v (.int .i64 t),.v (.int .u8 w),.v (.int .u8 r),.v (.int .u8 s)]=.req (0≤(List.length gs:Int)∧(List.length gs:Int)≤(List.length gs:Int)∧16*(List.length gs:Int)≤2^48∧(List.length gs:Int)<2^63) (.req (0+(List.length gs:Int).toNat≤List.length (List.replicate (List.length gs:Int).toNat ((0:Int),(0:Int)))) (.br (!(azF cs os ks gs bs ([]:List Le) (((List.replicate (List.length gs:Int).toNat ((0:Int),(0:Int))).drop 0).take (List.length gs:Int).toNat) d)) (.ok (.v (.bool true))) (.req (0+(List.length gs:Int).toNat≤List.length (List.replicate (List.length gs:Int).toNat ((0:Int),(0:Int)))) (.req (nmR (gK cs os ks gs bs)∧(List.length ([]:List Le):Int)≤1000) (.br ((!(JG cs os ks gs bs ([]:List Le) (((List.replicate (List.length gs:Int).toNat ((0:Int),(0:Int))).drop 0).take (List.length gs:Int).toNat) d t (1:Int))) ||((List.length d:Int)==0)) (.ok (.v (.bool true))) (.req ((List.length d:Int)≠0) (.req (0+0=List.length ([]:List Dm)∧((0+List.length d:Nat):Int)*32≤2^47∧((0+List.length d:Nat):Int)<2^62) (.req (0≤(yY w d)∧(yY w d)<((0+List.length d:Nat):Int)) (.req ((9:Int)≠0) (.req (0≤(yY w d)∧(yY w d)<((0+List.length d:Nat):Int)) (.req ((yY w d).toNat<List.length (([]:List Dm)++d)) (.req ((yY w d).toNat<List.length (([]:List Dm)++d)) (.req (0≤(yY w d)∧(yY w d)<((0+List.length d:Nat):Int)) (.req ((yY w d).toNat<List.length (([]:List Dm)++d)) (.req (0≤(yY w d)∧(yY w d)<((0+List.length d:Nat):Int)) (.req ((yY w d).toNat<List.length (pr1 d (yY w d) r)) (.req (Si cs os ks gs bs d∧wI d t∧d.length≤19) (.req (0+(0+List.length d)≤List.length (pr2 d (yY w d) r s)) (.req (Si cs os ks gs bs (prZ d (yY w d) r s)∧wI (prZ d (yY w d) r s) t∧(prZ d (yY w d) r s).length≤19) (.br true (.br ((0:Int)==0) (.br ((0:Int)==0) (.br ((List.length (YH cs os ks gs bs d t):Int)==(List.length d:Int)) (.br ((List.length (YH cs os ks gs bs (prZ d (yY w d) r s) t):Int)==(List.length d:Int)) (.req (0≤(yY w d)∧(yY w d)<(List.length (YH cs os ks gs bs (prZ d (yY w d) r s) t):Int)) (.req (0≤(yY w d)∧(yY w d)<(List.length (YH cs os ks gs bs d t):Int)) (.ok (.v (.bool (decide ((gi (YH cs os ks gs bs (prZ d (yY w d) r s) t) (yY w d))≥(gi (YH cs os ks gs bs d t) (yY w d))))))))) (.ok (.v (.bool false)))) (.ok (.v (.bool false)))) (.ok (.v (.bool false)))) (.ok (.v (.bool false)))) (.ok (.v (.bool false))))))))))))))))))))))):=by kernel_rfl
theorem aCj:Valid Tryz.prog aQ 6 az9:=aI Tryz.func6 rfl avh aH (aY (by kernel_rfl)) (fun args lv h=>by
 unfold aq7 at h
 split at h
 ·simp only [canL,canX]
  rw [ayQ]
  rename_i cs os ks gs bs d t w r s
  obtain ⟨⟨hn,hg,hw,hr,hs⟩,rfl⟩:=h
  refine ⟨by omega,by simp,fun c=>rfl,fun c=>⟨by simp,⟨hn,by simp⟩,fun c2=>rfl,fun c2=>?_⟩⟩
  rw [Bool.or_eq_false_iff] at c2
  have V:=ape (RX c2.1)
  have gl:=V.gl
  have dl:=V.dl
  have hd:=axs V
  have d0:(d.length:Int)≠0:=by simpa using c2.2
  have ew:IntKind.i64.wrap w=w:=aN (by omega) (by omega)
  have hi:0≤yY w d∧yY w d<(d.length:Int):=by
   unfold yY
   rw [ew,Int.tmod_eq_emod_of_nonneg hw.1]
   exact ⟨Int.emod_nonneg _ d0,Int.emod_lt_of_pos _ (by omega)⟩
  generalize yY w d=i at hi⊢
  have er:IntKind.i64.wrap r=r:=aN (by omega) (by omega)
  have es:IntKind.i64.wrap s=s:=aN (by omega) (by omega)
  have hx:=aef hd.1 hi.1 hi.2
  have hdm:=V.dm i hi.1 (by omega)
  unfold Tz at hdm
  simp only [Bool.and_eq_true,dW] at hdm
  have eX:prX d i=iR d i:=rfl
  have hm:0≤r%9∧r%9<9:=by omega
  have eR:prR d i r≤(iR d i).2.2.2∧1≤prR d i r:=by
   unfold prR
   rw [eX,er,Int.tmod_eq_emod_of_nonneg hr.1,aN (by omega) (by omega)]
   split<;>omega
  have eS:prS d i s≤(iR d i).2.2.1∧0≤prS d i s:=by
   unfold prS
   rw [eX,es,aN (by omega) (by omega)]
   split<;>omega
  have hZ:=ayD (r:=r) (s:=s) hi.1 hi.2
  have zl:(prZ d i r s).length=d.length:=by rw [hZ,List.length_set]
  have l1:(pr1 d i r).length=d.length:=by unfold pr1;rw [List.length_set];rfl
  have l2:(pr2 d i r s).length=d.length:=by unfold pr2;rw [List.length_set,l1]
  have S1:Si cs os ks gs bs (prZ d i r s):=⟨V.site,by rw [zl,dl]⟩
  have gz:∀j,0≤j→iR (prZ d i r s) j=if j=i then ((iR d i).1,(iR d i).2.1,prS d i s,prR d i r) else iR d j:=fun j hj=>by rw [hZ];exact an1 hi.1 hi.2 hj
  have W1:wI (prZ d i r s) t∧(prZ d i r s).length≤19:=by
   refine ⟨⟨fun x hx=>?_,hd.1.2⟩,by rw [zl];exact hd.2⟩
   rw [hZ] at hx
   rcases List.mem_or_eq_of_mem_set hx with hx|rfl
   ·exact hd.1.1 x hx
   ·simp only
    omega
  have tl:=(YG (t:=t) V.si).1
  have tz:=(YG (t:=t) S1).1
  have key:=akC (t:=t) V.si zl (fun j=>by
   by_cases hj:0≤j
   ·rw [gz j hj]
    split
    ·rename_i e;rw [e]
    ·rfl
   ·have e:∀l:List Dm,iR l j=iR l 0:=fun l=>by unfold iR;rw [show j.toNat=(0:Int).toNat by omega]
    rw [e,e,gz 0 (Int.le_refl 0)]
    split
    ·rename_i e;rw [←e]
    ·rfl) hi.1 hi.2 (fun j hj hne=>by rw [gz j hj,if_neg hne]) (by rw [gz i hi.1,if_pos rfl];exact eR.1) (by
   unfold Fv
   rw [gz i hi.1,if_pos rfl]
   simp only
   omega)
  have dn:(([]:List Dm)++d).length=d.length:=rfl
  rw [tl,tz,dl]
  refine ⟨by omega,⟨by simp,by omega,by omega⟩,by omega,by omega,by omega,by omega,by omega,by omega,by omega,by omega,by omega,⟨V.si,hd.1,by omega⟩,by omega,⟨S1,W1⟩,fun _=>⟨fun _=>⟨fun _=>⟨fun _=>⟨fun _=>⟨by omega,by omega,?_⟩,fun h=>absurd h (by simp)⟩,fun h=>absurd h (by simp)⟩,fun h=>(by cases h)⟩,fun h=>(by cases h)⟩,fun h=>by cases h⟩
  exact congrArg (fun z=>LV.v (.bool z)) (decide_eq_true key)
 ·cases h)
end Go.Proofs.YtlihnbimgclogaaGreatDoor
namespace Go.Sx
open Go Go.RowKit Go.Proofs.YtlihnbimgclogaaGreatDoor
def mb:Ty→Nat
 | .int k=>k.bits / 8
 | .bool=>1
 | .str=>16
 | .sl _=>24
 | .pair a b=>mb a+mb b
def Qm:(t:Ty)→t.D→Prop
 | .int k,n=>(Lit.int k n).wf=true
 | .bool,_=>True
 | .str,s=>s.size≤maxLen
 | .sl e,l=>(List.length l≤maxLen∧List.length l*mb e≤reachBytes)∧∀d,d∈l→Qm e d
 | .pair a b,d=>Qm a d.1∧Qm b d.2
def CQ (P:Program):Nat→List Field→Bool
 |_,[]=>true
 |o,f::fs=>decide (f.offset=o)&&CQ P (o+P.cellsOf f.type) fs
def Gn (P:Program):Nat→TypeId→Bool
 |0,_=>false
 |m+1,t=>match P.underlying t with
  |some (.int _) |some .bool|some .string=>decide (P.cellsOf t=1)
  |some (.struct fs)=>CQ P 0 fs.toList&&decide (P.cellsOf t=((fs.toList.map (·.type)).map P.cellsOf).sum)&&fs.toList.all (fun f=>Gn P m f.type)
  |some (.array n e)=>decide (P.cellsOf t=((List.replicate n e).map P.cellsOf).sum)&&Gn P m e
  |some (.slice e)=>decide (P.cellsOf t=1)&&decide (1≤P.cellsOf e)&&(xJ P m e).any (fun ty=>ty.n==P.cellsOf e&&decide (mb ty≤P.bytesOf e))&&Gn P m e
  |_=>false
variable {H : Type} {enc : TypeId × Value → H} {P : Program} {w : World} {base : Nat} {spare : Nat → Bool} {held : Bool} {β : Nat → Loc}
def Good (enc:TypeId×Value→H) (P:Program) (w:World) (base:Nat) (spare:Nat→Bool) (held:Bool) (t:TypeId) (cs:List Value):Prop:=∃n x,DataW.trod enc P w base spare held n t cs=some x∧∀k,k∈x.1.weights P t→k≤reachBytes
theorem F8 {e:TypeId}{d:DataW H}{k:Nat}(hk:k∈d.weights P e):∀ {l:List (DataW H)}{i:Nat},l[i]? =some d→k∈DataW.weightsAll P e l
 | [],_,h=>by cases h
 |x::l,0,h=>by
  simp only [List.getElem?_cons_zero,Option.some.injEq] at h
  subst h
  simp only [DataW.weightsAll,List.mem_append]
  exact .inl hk
 |x::l,i+1,h=>by
  simp only [List.getElem?_cons_succ] at h
  simp only [DataW.weightsAll,List.mem_append]
  exact .inr (F8 hk h)
theorem JW {t:TypeId}{d:DataW H}{k:Nat}(hk:k∈d.weights P t):∀ {ts:List TypeId}{l:List (DataW H)}{i:Nat},ts[i]? =some t→l[i]? =some d→k∈DataW.weightsEach P ts l
 | [],_,_,h,_=>by cases h
 |_::_,[],_,_,h=>by cases h
 |u::ts,x::l,0,h1,h2=>by
  simp only [List.getElem?_cons_zero,Option.some.injEq] at h1 h2
  subst h1
  subst h2
  simp only [DataW.weightsEach,List.mem_append]
  exact .inl hk
 |u::ts,x::l,i+1,h1,h2=>by
  simp only [List.getElem?_cons_succ] at h1 h2
  simp only [DataW.weightsEach,List.mem_append]
  exact .inr (JW hk h1 h2)
theorem JX:∀ {ts us:List TypeId}{ds gs:List (DataW H)},ds.length=ts.length→∀k,k∈DataW.weightsEach P ts ds→k∈DataW.weightsEach P (ts++us) (ds++gs)
 | [],_,[],_,_,_,h=>by simp [DataW.weightsEach] at h
 | [],_,_::_,_,h,_,_=>by cases h
 |_::_,_,[],_,h,_,_=>by cases h
 |t::ts,us,d::ds,gs,h,k,hk=>by
  simp only [DataW.weightsEach,List.mem_append,List.cons_append] at hk⊢
  rcases hk with hk|hk
  ·exact .inl hk
  ·exact .inr (JX (by simpa using h) k hk)
theorem Dx:∀ {ts:List TypeId}{vs:List Value}{ds:List (DataW H)}{ps:List MemPlace},DataW.TrodAll enc P w base spare held ts vs ds ps→ds.length=ts.length
 | [],[],[],_,_=>rfl
 | [],_::_,_,_,h=>by cases h
 | [],[],_::_,_,h=>by cases h
 |_::_,[],_,_,h=>by cases h
 |_::_,_::_,[],_,h=>by cases h
 |_::_,_::_,_::_,_,h=>by
  obtain ⟨_,_,_,h2,_⟩:=h
  simp [Dx h2]
theorem RL.append' {Z:Nat→Prop}:∀ {l1 l2:List LV}{y1 y2:List Value},RL β Z w l1 y1→RL β Z w l2 y2→RL β Z w (l1++l2) (y1++y2)
 | [],l2,y1,y2,h1,h2=>by simp only [RL] at h1;subst h1;exact h2
 |x::xs,l2,y1,y2,h1,h2=>by
  simp only [RL,List.cons_append] at h1⊢
  obtain ⟨y,zs,rfl,h3,h4⟩:=h1
  exact ⟨y,zs++y2,rfl,h3,RL.append' h4 h2⟩
theorem Xb {Z:Nat→Prop}:∀(t:Ty) (d:t.D) (cs:List Value) (b o:Nat),RL β Z w (fG t d) cs→(∀(j:Nat) v,cs[j]? =some v→w.cell? ⟨b,o+j,none⟩=some v)→RD Z w t d b o
 | .int k,d,cs,b,o,h,hc=>by
  simp only [fG,RL,R] at h
  obtain ⟨y,zs,rfl,rfl,_⟩:=h
  simp only [RD];exact hc 0 _ rfl
 | .bool,d,cs,b,o,h,hc=>by
  simp only [fG,RL,R] at h
  obtain ⟨y,zs,rfl,rfl,_⟩:=h
  simp only [RD];exact hc 0 _ rfl
 | .str,d,cs,b,o,h,hc=>by
  simp only [fG,RL,R] at h
  obtain ⟨y,zs,rfl,rfl,_⟩:=h
  simp only [RD];exact hc 0 _ rfl
 | .sl e,d,cs,b,o,h,hc=>by
  simp only [fG,RL,R] at h
  obtain ⟨y,zs,rfl,⟨a,cap,rfl,h2,h3⟩,_⟩:=h
  simp only [RD];exact ⟨a,cap,hc 0 _ rfl,h2,h3⟩
 | .pair p q,d,cs,b,o,h,hc=>by
  simp only [fG] at h
  have hl:=RL.length h
  simp only [List.length_append,cO] at hl
  have h1:=h.take_drop 0 p.n
  have h2:RL β Z w ((fG p d.1++fG q d.2).drop p.n) (cs.drop p.n):=by
   refine RL.di (by simp [hl,cO]) fun i z hz=>?_
   rw [List.getElem?_drop] at hz⊢
   exact RL.get _ _ h hz
  have t1:((fG p d.1++fG q d.2).drop 0).take p.n=fG p d.1:=by
   rw [List.drop_zero,List.take_append_of_le_length (by rw [cO];exact Nat.le_refl _),List.take_of_length_le (by rw [cO];exact Nat.le_refl _)]
  have t2:(fG p d.1++fG q d.2).drop p.n=fG q d.2:=by
   rw [List.drop_append_of_le_length (by rw [cO];exact Nat.le_refl _),List.drop_eq_nil_of_le (by rw [cO];exact Nat.le_refl _),List.nil_append]
  rw [t1,List.drop_zero] at h1
  rw [t2] at h2
  simp only [RD]
  refine ⟨Xb p d.1 _ b o h1 (fun j v hv=>?_),Xb q d.2 _ b (o+p.n) h2 (fun j v hv=>?_)⟩
  ·rw [List.getElem?_take] at hv
   split at hv
   ·exact hc j v hv
   ·cases hv
  ·rw [List.getElem?_drop] at hv
   have:=hc (p.n+j) v hv
   rwa [←Nat.add_assoc] at this
theorem GR {Z:Nat→Prop}{r:TypeId→Option Ty}{sz:TypeId→Nat}{Gd:TypeId→List Value→Prop}:∀(ts:List TypeId) (ty:Ty) (cs:List Value),Vg r ts=some ty→
  (∀t∈ts,∀ty c,r t=some ty→Gd t c→∃d:ty.D,RL β Z w (fG ty d) c∧Qm ty d)→cs.length=(ts.map sz).sum→(∀pre t post,ts=pre++t::post→Gd t ((cs.drop (pre.map sz).sum).take (sz t)))→∃d:ty.D,RL β Z w (fG ty d) cs∧Qm ty d
 | [],ty,cs,h,_,_,_=>by simp [Vg] at h
 | [t],ty,cs,h,ih,hl,hg=>by
  simp only [Vg] at h
  have:=ih t (by simp) ty _ h (hg [] t [] rfl)
  have e:(cs.drop (List.map sz []).sum).take (sz t)=cs:=by
   simp at hl⊢
   exact List.take_of_length_le (by omega)
  rw [e] at this
  exact this
 | t::u::ts,ty,cs,h,ih,hl,hg=>by
  simp only [Vg] at h
  split at h
  ·rename_i a b ha hb
   simp only [Option.some.injEq] at h
   subst h
   obtain ⟨d1,a1,a2⟩:=ih t (by simp) a _ ha (hg [] t (u::ts) rfl)
   obtain ⟨d2,b1,b2⟩:=GR (sz:=sz) (Gd:=Gd) (u::ts) b (cs.drop (sz t)) hb (fun t' ht=>ih t' (by simp at ht⊢;exact .inr ht)) (by simp at hl⊢;omega) (fun pre t' post e=>by
    have:=hg (t::pre) t' post (by rw [e];rfl)
    rw [List.drop_drop]
    simpa using this)
   refine ⟨(d1,d2),?_,by simp only [Qm];exact ⟨a2,b2⟩⟩
   have:=RL.append' a1 b1
   simp only [fG]
   simpa using this
  ·cases h
theorem NW:∀(fs:List Field) (o:Nat),CQ P o fs=true→∀pre f post,fs=pre++f::post→f.offset=o+((pre.map (·.type)).map P.cellsOf).sum
 | [],o,_,pre,f,post,e=>by cases pre<;>cases e
 |g::fs,o,h,[],f,post,e=>by
  simp only [CQ,Bool.and_eq_true,decide_eq_true_eq] at h
  simp only [List.nil_append,List.cons.injEq] at e
  rw [←e.1];simpa using h.1
 |g::fs,o,h,p::pre,f,post,e=>by
  simp only [CQ,Bool.and_eq_true,decide_eq_true_eq] at h
  simp only [List.cons_append,List.cons.injEq] at e
  have:=NW fs _ h.2 pre f post e.2
  rw [this,←e.1];simp;omega
theorem FD {Z:Nat→Prop}(hZ:∀b,b<w.heap.size→Z b):∀(m:Nat) (t:TypeId) (ty:Ty),Gn P m t=true→xJ P m t=some ty→∀cs,Good enc P w base spare held t cs→∃d:ty.D,RL β Z w (fG ty d) cs∧Qm ty d
 |0,t,_,h,_,_,_=>by cases h
 | m + 1,t,ty,h,hty,cs,⟨n,x,hx,hwt⟩=>by
  simp only [Gn] at h
  simp only [xJ] at hty
  split at h
  ·rename_i k hu
   obtain ⟨z,rfl,_,hw⟩:=DataW.trod_int hu hx
   simp only [hu,Option.some.injEq] at hty
   subst hty
   exact ⟨z,by simp [fG,RL,R],hw⟩
  ·rename_i hu
   obtain ⟨z,rfl,_⟩:=DataW.trod_bool hu hx
   simp only [hu,Option.some.injEq] at hty
   subst hty
   exact ⟨z,by simp [fG,RL,R],trivial⟩
  ·rename_i hu
   obtain ⟨z,rfl,_,hs⟩:=DataW.trod_string hu hx
   simp only [hu,Option.some.injEq] at hty
   subst hty
   exact ⟨z,by simp [fG,RL,R],hs⟩
  ·rename_i fs hu
   simp only [Bool.and_eq_true,decide_eq_true_eq,List.all_eq_true] at h
   obtain ⟨⟨h1,h2⟩,h3⟩:=h
   obtain ⟨xs,n',_,rfl,hl,hxl,hf⟩:=DataW.trod_struct hu hx
   simp only [DataW.weights,hu] at hwt
   simp only [hu] at hty
   refine GR (Gd:=Good enc P w base spare held) (sz:=P.cellsOf) (fs.toList.map (·.type)) ty cs hty (fun t' ht ty' c hty' hc=>?_) (by rw [hl,h2]) (fun pre t' post e=>?_)
   ·obtain ⟨f,hf1,rfl⟩:=List.mem_map.1 ht
    exact FD hZ m f.type ty' (h3 f hf1) hty' c hc
   ·obtain ⟨fpre,frest,e1,e2,e3⟩:=List.map_eq_append_iff.1 e
    obtain ⟨f,fpost,rfl,e4,e5⟩:=List.map_eq_cons_iff.1 e3
    have ho:=NW fs.toList 0 h1 fpre f fpost e1
    have hi:fs[fpre.length]? =some f:=by
     have:fs.toList[fpre.length]? =some f:=by rw [e1];simp
     simpa using this
    have hg:=hf _ f hi
    have hlt:fpre.length<fs.size:=(Array.getElem?_eq_some_iff.1 hi).1
    rw [ho,Nat.zero_add] at hg
    refine ⟨n',xs[fpre.length]'(by omega),?_,fun k hk=>?_⟩
    ·rw [←e2,←e4,hg,List.getElem?_eq_getElem]
    ·rw [←e4] at hk
     exact hwt k (JW hk (i:=fpre.length) (by rw [e1];simp) (by rw [List.getElem?_map,List.getElem?_eq_getElem (by omega)];rfl))
  ·rename_i n0 e hu
   simp only [Bool.and_eq_true,decide_eq_true_eq] at h
   obtain ⟨h2,h3⟩:=h
   obtain ⟨xs,n',_,rfl,hl,hxl,hf⟩:=DataW.trod_array hu hx
   simp only [DataW.weights,hu] at hwt
   simp only [hu] at hty
   refine GR (Gd:=Good enc P w base spare held) (sz:=P.cellsOf) (List.replicate n0 e) ty cs hty (fun t' ht ty' c hty' hc=>?_) (by rw [hl,h2]) (fun pre t' post e'=>?_)
   ·rw [(List.mem_replicate.1 ht).2] at hc hty'
    exact FD hZ m e ty' h3 hty' c hc
   ·obtain ⟨c1,c2,c3⟩:=List.replicate_eq_append_iff.1 e'
    have ht':t'=e:=by
     have:t'∈List.replicate n0 e:=by rw [e'];simp
     exact (List.mem_replicate.1 this).2
    have hlen:pre.length<n0:=by
     have:=congrArg List.length e'
     simp at this;omega
    have hg:=hf pre.length hlen
    refine ⟨n',xs[pre.length]'(by omega),?_,fun k hk=>?_⟩
    ·have hs:(pre.map P.cellsOf).sum=pre.length*P.cellsOf e:=by rw [c2];simp
     rw [hs,ht',hg,List.getElem?_eq_getElem]
    ·rw [ht'] at hk
     exact hwt k (F8 hk (i:=pre.length) (by rw [List.getElem?_map,List.getElem?_eq_getElem (by omega)];rfl))
  ·rename_i e hu
   simp only [Bool.and_eq_true,decide_eq_true_eq] at h
   obtain ⟨⟨⟨h1,h2⟩,h4⟩,h3⟩:=h
   simp only [hu,Option.map_eq_some_iff] at hty
   obtain ⟨te,hte,rfl⟩:=hty
   rw [hte] at h4
   simp only [Option.any_some,Bool.and_eq_true,decide_eq_true_eq,beq_iff_eq] at h4
   obtain ⟨h4,h5⟩:=h4
   rcases DataW.trod_slice hu hx with ⟨rfl,_⟩ |⟨a,len,cap,elems,rest,n',_,rfl,rfl,hb,hlc,hm,hlen,hel,_,_⟩
   ·refine ⟨([]:List te.D),?_,⟨Nat.zero_le _,by simp⟩,fun d hd=>by cases hd⟩
    simp only [fG,RL,R]
    exact ⟨_,[],rfl,⟨none,0,rfl,Nat.le_refl _,fun h=>absurd h (Nat.lt_irrefl 0)⟩,rfl⟩
   ·simp only [DataW.weights,hu] at hwt
    have hroom:=hwt _ (List.mem_cons_self ..)
    have each:∀i,∃d:te.D,i<len→∃c,w.cells? base (a.add (i*P.cellsOf e)) (P.cellsOf e)=some c∧RL β Z w (fG te d) c∧Qm te d:=fun i=>by
     by_cases hi:i<len
     ·have he:=hel i hi
      rw [List.getElem?_eq_getElem (by omega)] at he
      obtain ⟨c,hc,ht⟩:=Option.bind_eq_some_iff.1 he
      obtain ⟨d,l1,l2⟩:=FD hZ m e te h3 hte c ⟨n',_,ht,fun k hk=>hwt k (by
       simp only [List.mem_cons,List.mem_append]
       exact .inr (.inl (F8 hk (i:=i) (by rw [List.getElem?_map,List.getElem?_eq_getElem (by omega)];rfl))))⟩
      exact ⟨d,fun _=>⟨c,hc,l1,l2⟩⟩
     ·exact ⟨te.dflt,fun h=>absurd h hi⟩
    have ⟨g,hg⟩:=Classical.axiomOfChoice each
    have hlg:List.length ((List.range len).map g)=len:=by simp
    refine ⟨(List.range len).map g,?_,⟨by rw [hlg];omega,by rw [hlg];exact Nat.le_trans (Nat.mul_le_mul (by simp;omega) h5) hroom⟩,fun d hd=>?_⟩
    ·simp only [fG,RL,R]
     refine ⟨_,[],rfl,⟨some a,cap,by rw [hlg],by rw [hlg];omega,fun hn=>?_⟩,rfl⟩
     rw [hlg] at hn
     obtain ⟨c0,hc0,hr0,_⟩:=hg 0 hn
     obtain ⟨_,hcl0,hat0⟩:=World.cells?_some hc0
     have hcell0:∃z,w.cell? ((a.add (0*P.cellsOf e)).add 0)=some z:=by
      rw [hat0 0 (by omega)];exact ⟨_,List.getElem?_eq_getElem (by omega)⟩
     obtain ⟨z0,hz0⟩:=hcell0
     obtain ⟨b,off,spot⟩:=a
     have hsp:spot=none:=by
      cases spot with
      |none=>rfl
      |some q=>
       unfold World.cell? at hz0
       split at hz0
       ·simp [Addr.add] at hz0
       ·cases hz0
     subst hsp
     have hbl:b<w.heap.size:=by
      simp only [addr_add] at hz0
      unfold World.cell? at hz0
      split at hz0
      ·rename_i hh;exact (Array.getElem?_eq_some_iff.1 hh).1
      ·cases hz0
     refine ⟨b,off,rfl,hZ b hbl,fun i d hd=>?_⟩
     have hi:i<len:=by
      have:=(List.getElem?_eq_some_iff.1 hd).1
      rwa [hlg] at this
     have hdd:d=g i:=by
      rw [List.getElem?_map,List.getElem?_range hi] at hd
      simpa using hd.symm
     subst hdd
     obtain ⟨c,hc,hr,_⟩:=hg i hi
     obtain ⟨_,hcl,hat⟩:=World.cells?_some hc
     refine Xb te (g i) c b _ hr (fun j v hv=>?_)
     have hj:j<P.cellsOf e:=by
      have:=(List.getElem?_eq_some_iff.1 hv).1
      omega
     have:=hat j hj
     rw [hv] at this
     rw [h4]
     simpa [addr_add,Nat.add_assoc] using this
    ·obtain ⟨i,hi,rfl⟩:=List.mem_map.1 hd
     obtain ⟨_,_,_,hw⟩:=hg i (by simpa using hi)
     exact hw
  ·cases h
def Qo (P:Program) (m:Nat) (t:TypeId) (l:List LV):Prop:=∃(ty:Ty) (d:ty.D),xJ P m t=some ty∧l=fG ty d∧Qm ty d
theorem Cj {P:Program}{m:Nat}{t:TypeId}{l:List LV}{ty:Ty}(ht:xJ P m t=some ty) (h:Qo P m t l):∃d:ty.D,l=fG ty d∧Qm ty d:=by
 obtain ⟨ty',d,h1,h2,h3⟩:=h
 obtain rfl:=Option.some.inj (ht.symm.trans h1)
 exact ⟨d,h2,h3⟩
theorem afU {Z:Nat→Prop}(hZ:∀b,b<w.heap.size→Z b) (m:Nat) (t:TypeId) (hs:Gn P m t=true) (ht:(xJ P m t).isSome=true) (cs:List Value) (hg:Good enc P w base spare held t cs):∃l,RL β Z w l cs∧dB 0 l∧Qo P m t l:=by
 obtain ⟨ty,hty⟩:=Option.isSome_iff_exists.1 ht
 obtain ⟨d,h1,h2⟩:=FD (β:=β) hZ m t ty hs hty cs hg
 exact ⟨fG ty d,h1,nV 0 ty d,ty,d,hty,rfl,h2⟩
end Go.Sx
namespace Go.Sx
open Go Go.RowKit Go.Proofs.YtlihnbimgclogaaGreatDoor Go.ChangeShapes Go.WideShapes
variable {H : Type} {enc : TypeId × Value → H} {P : Program} {β : Nat → Loc} {Z : Nat → Prop}
theorem xP (hl:laidOutB P=true) {W W':World}(hb:Below W.heap.size W W'):∀(ts:List TypeId) (vs:List Value) (ds:List (DataW H)) (ps:List MemPlace),ts.all (fun t=>P.readableRec t&&decide (t<P.types.size))=true→
  DataW.TrodAll enc P W 0 (fun _=>true) true ts vs ds ps→(∀x∈ps,x.block<W.heap.size)→DataW.TrodAll enc P W' 0 (fun b=>decide (b<W.heap.size)) true ts vs ds ps
 | [],vs,ds,ps,_,h,_=>by
  cases vs<;>cases ds<;>first|exact h|exact h.elim
 | t::ts,vs,ds,ps,hr,h,hlt=>by
  cases vs with
  |nil=>cases ds<;>exact h.elim
  | cons v vs=>
   cases ds with
   |nil=>exact h.elim
   |cons d ds=>
    obtain ⟨p,q,h1,h2,rfl⟩:=h
    simp only [List.all_cons,Bool.and_eq_true,decide_eq_true_eq] at hr
    refine ⟨p,q,Below.trod hl hr.1.1 hr.1.2 h1 hb (fun x hx=>hlt x (by simp [hx])),?_,rfl⟩
    exact xP hl hb ts vs ds q (by simpa using hr.2) h2 (fun x hx=>hlt x (by simp [hx]))
theorem ahp {fn:Func}{s:ChangeSpec}{tb:TypeId}{apart:Bool}{W W':World}{args:Array Value}{ds gs:List (DataW H)}{before:List MemPlace}
  (hl:laidOutB P=true) (hr:fn.params.toList.all (fun t=>P.readableRec t&&decide (t<P.types.size))=true) (hres:fn.resultTypes=#[tb]) (hb:P.underlying tb=some .bool) (hvars:s.vars=[])
  (hfn:(s.fn H ds).results=[.lit (.bool true)]∧(s.fn H ds).args=ds∧(s.fn H ds).vars=[])
  (hW:DataW.Whole enc P fn.params.toList s.vars apart W args.toList ds gs before) (hB:Below W.heap.size W W'):s.post enc P fn apart true false false W args (.bool true) W':=by
 have hW':=hW
 obtain ⟨p,q,hA,hV,rfl,hfz,hnd⟩:=hW
 have hg:gs=[]∧q=[]:=by
  rw [hvars] at hV
  cases gs with
  |nil=>exact ⟨rfl,hV⟩
  |cons g r=>exact hV.elim
 obtain ⟨rfl,rfl⟩:=hg
 have hlt:∀x∈p,x.block<W.heap.size:=fun x hx=>hW'.lt x (by simp [hx])
 refine ⟨ds,[],p++[],[],p,[],hW',?_,?_,?_,hB.frame _,fun h=>by cases h⟩
 ·rw [List.append_nil,hfn.1,hres]
  exact trodAll_mk1 (shut_bool hb true)
 ·rw [List.append_nil,hfn.2.1]
  exact xP hl hB _ _ _ _ hr hA hlt
 ·rw [List.append_nil,hfn.2.2,hvars]
  rfl
def pLV (P:Program) (t:TypeId) (l:List LV):LV:=
 match P.underlying t with
 |some (.struct _)=>qR l
 |some (.array _ _)=> .junk
 |_=>match l with
  | [x]=>x
  |_=> .junk
theorem cell_of {w:World}{b0:Nat}{r:Reach}{m:Nat}{t:TypeId}(hs:Gn P m t=true) {v:Value}(hv:Value.okWide P w r b0 t v) (h1:∀fs,P.underlying t=some (.struct fs)→False) (h2:∀n e,P.underlying t=some (.array n e)→False):v.cells.toList=[v]:=by
 cases m with
 |zero=>cases hs
 | succ m=>
  simp only [Gn] at hs
  split at hs
  ·rename_i k hu
   obtain ⟨n,rfl⟩:=okWide_int hu hv
   rfl
  ·rename_i hu
   obtain ⟨n,rfl⟩:=okWide_bool hu hv
   rfl
  ·rename_i hu
   obtain ⟨n,rfl⟩:=okWide_string hu hv
   rfl
  ·rename_i fs hu
   exact (h1 fs hu).elim
  ·rename_i n e hu
   exact (h2 n e hu).elim
  ·rename_i e hu
   obtain ⟨a,l,c,rfl⟩:=okWide_slice hu hv
   rfl
  ·cases hs
theorem VP {w:World}{base b0:Nat}{spare:Nat→Bool}{held:Bool}{r:Reach}(hZ:∀b,b<w.heap.size→Z b) {m:Nat}{t:TypeId}(hs:Gn P m t=true) (ht:(xJ P m t).isSome=true) {v:Value}{d:DataW H}{p:List MemPlace}(hv:Value.okWide P w r b0 t v) (h:DataW.Trod enc P w base spare held t v d p) (hwt:∀k,k∈d.weights P t→k≤reachBytes):
  ∃l,okV 0 (pLV P t l)∧R β Z w (pLV P t l) v∧Qo P m t l:=by
 obtain ⟨fuel,hf⟩:=h
 obtain ⟨l,h1,h2,h3⟩:=afU (β:=β) hZ m t hs ht v.cells.toList ⟨fuel,_,hf,hwt⟩
 refine ⟨l,?_,?_,h3⟩
 ·unfold pLV
  split
  ·exact oq h2
  ·trivial
  ·split
   ·exact h2.1
   ·trivial
 ·unfold pLV
  split
  ·rename_i fs hu
   obtain ⟨cs,rfl,_⟩:=okWide_struct hu hv
   exact qQ h1
  ·simp only [R]
  ·split
   ·rename_i x
    simp only [RL] at h1
    obtain ⟨y,zs,e1,e2,rfl⟩:=h1
    have hc:=cell_of hs hv (by assumption) (by assumption)
    have:v=y:=by rw [hc] at e1;simpa using e1
    rw [this];exact e2
   ·simp only [R]
def VN (P:Program):List TypeId→List (List LV)→List LV
 |t::ts,l::ls=>pLV P t l::VN P ts ls
 |_,_=>[]
def Gq (P:Program) (m:Nat):List TypeId→List (List LV)→Prop
 | [],ls=>ls=[]
 |t::ts,ls=>∃l r,ls=l::r∧Qo P m t l∧Gq P m ts r
theorem DF {w:World}{base b0:Nat}{spare:Nat→Bool}{held:Bool}{r:Reach}(hZ:∀b,b<w.heap.size→Z b) {m:Nat}:∀(ts:List TypeId) (vs:List Value) (ds:List (DataW H)) (ps:List MemPlace),ts.all (fun t=>Gn P m t&&(xJ P m t).isSome)=true→
  (∀(j:Nat) t v,ts[j]? =some t→vs[j]? =some v→Value.okWide P w r b0 t v)→DataW.TrodAll enc P w base spare held ts vs ds ps→(∀k,k∈DataW.weightsEach P ts ds→k≤reachBytes)→∃ls,dB 0 (VN P ts ls)∧RL β Z w (VN P ts ls) vs∧Gq P m ts ls
 | [],vs,ds,ps,_,_,h,_=>by
  cases vs with
  |nil=>exact ⟨[],trivial,by simp [VN,RL],rfl⟩
  |cons _ _=>cases ds<;>exact h.elim
 | t::ts,vs,ds,ps,hs,hv,h,hwt=>by
  cases vs with
  |nil=>cases ds<;>exact h.elim
  | cons v vs=>
   cases ds with
   |nil=>exact h.elim
   |cons d ds=>
    obtain ⟨p,q,h1,h2,rfl⟩:=h
    simp only [List.all_cons,Bool.and_eq_true] at hs
    simp only [DataW.weightsEach,List.mem_append] at hwt
    obtain ⟨l,a1,a2,a3⟩:=VP (β:=β) hZ hs.1.1 hs.1.2 (hv 0 t v rfl rfl) h1 (fun k hk=>hwt k (.inl hk))
    obtain ⟨ls,b1,b2,b3⟩:=DF hZ ts vs ds q hs.2 (fun j t' v' e1 e2=>hv (j+1) t' v' (by simpa using e1) (by simpa using e2)) h2 (fun k hk=>hwt k (.inr hk))
    exact ⟨l::ls,⟨a1,b1⟩,⟨v,vs,rfl,a2,b2⟩,l,ls,rfl,a3,b3⟩
theorem Px {G:bZ}{f:FuncId}{fn:Func}{S:List LV→T LV}{s:ChangeSpec}{tb:TypeId}{apart:Bool}{m:Nat}{W:World}{base:Nat}{args:Array Value}{ds gs:List (DataW H)}{before:List MemPlace}
  (hv:Valid P G f S) (hl:laidOutB P=true) (hr:fn.params.toList.all (fun t=>P.readableRec t&&decide (t<P.types.size))=true) (hres:fn.resultTypes=#[tb]) (hb:P.underlying tb=some .bool) (hvars:s.vars=[])
  (hfn:(s.fn H ds).results=[.lit (.bool true)]∧(s.fn H ds).args=ds∧(s.fn H ds).vars=[]) (hs:fn.params.toList.all (fun t=>Gn P m t&&(xJ P m t).isSome)=true)
  (hS:∀ls,Gq P m fn.params.toList ls→(S (VN P fn.params.toList ls)).all (fun x=>x=.v (.bool true)))
  (hg:UK G (fun b=>b<W.heap.size) W)
  (hval:∀(j:Nat) t v,fn.params[j]? =some t→args[j]? =some v→Value.okWide P W .any base t v)
  (hW:DataW.Whole enc P fn.params.toList s.vars apart W args.toList ds gs before) {us:List TypeId} (hz:(DataW.weightsEach P (fn.params.toList++us) (ds++gs)).all (·≤reachBytes)=true):
  Calls P f args W fun e W'=>∃v,e=.returned v∧s.post enc P fn apart true false false W args v W':=by
 have hA:∃p,DataW.TrodAll enc P W 0 (fun _=>true) true fn.params.toList args.toList ds p:=by
  obtain ⟨p,q,hA,_⟩:=hW
  exact ⟨p,hA⟩
 obtain ⟨p,hA⟩:=hA
 obtain ⟨ls,h1,h2,h3⟩:=DF (β:=β0) (Z:=fun b=>b<W.heap.size) (fun _ h=>h) fn.params.toList args.toList ds p hs (fun j t v e1 e2=>hval j t v (by simpa using e1) (by simpa using e2)) hA (fun k hk=>of_decide_eq_true (List.all_eq_true.1 hz k (JX (Dx hA) k hk)))
 refine (hv _ args W _ _ (fun _ h=>h) hg h1 h2 (hS ls h3)).mono fun e W' ⟨hB,v,he,_,hR⟩=>⟨v,he,?_⟩
 simp only [R] at hR
 rw [hR]
 exact ahp hl hr hres hb hvars hfn hW hB
end Go.Sx
namespace Go.Sx
open Go Go.RowKit Go.Proofs.YtlihnbimgclogaaGreatDoor
variable {H : Type} {enc : TypeId × Value → H} {P : Program} {w : World} {base : Nat} {spare : Nat → Bool} {held : Bool}
def D9 {H:Type}:Nat→DataW H→List Value
 |0,_=>[]
 |_+1,.lit (.int k n)=>[.int k n]
 |_+1,.lit (.bool b)=>[.bool b]
 |m+1,.agg l=>l.flatMap (D9 m)
 |_,_=>[]
def GH (P:Program):Nat→TypeId→Bool
 |0,_=>false
 |m+1,t=>match P.underlying t with
  |some (.int _) |some .bool=>true
  |some (.struct fs)=>CQ P 0 fs.toList&&decide (P.cellsOf t=((fs.toList.map (·.type)).map P.cellsOf).sum)&&fs.toList.all (fun f=>GH P m f.type)
  |some (.array n e)=>decide (P.cellsOf t=((List.replicate n e).map P.cellsOf).sum)&&GH P m e
  |_=>false
theorem Iw {sz:TypeId→Nat}{g:DataW H→List Value}{Tr:TypeId→List Value→DataW H→Prop}:∀(ts:List TypeId) (cs:List Value) (ds:List (DataW H)),
  (∀t∈ts,∀c d,Tr t c d→g d=c)→ds.length=ts.length→cs.length=(ts.map sz).sum→(∀pre t post,ts=pre++t::post→∃d,ds[pre.length]? =some d∧Tr t ((cs.drop (pre.map sz).sum).take (sz t)) d)→ds.flatMap g=cs
 | [],cs,ds,_,h0,hl,_=>by
  have:cs=[]:=by simpa using hl
  have h2:ds=[]:=by simpa using h0
  rw [this,h2];rfl
 |t::ts,cs,[],_,h0,_,_=>by simp at h0
 | t::ts,cs,d::ds,ih,h0,hl,hg=>by
  obtain ⟨d',e1,e2⟩:=hg [] t ts rfl
  simp at e1
  subst e1
  have r:=Iw (sz:=sz) (g:=g) (Tr:=Tr) ts (cs.drop (sz t)) ds (fun t' ht=>ih t' (by simp [ht])) (by simpa using h0) (by simp at hl⊢;omega) (fun pre t' post e=>by
   obtain ⟨q,q1,q2⟩:=hg (t::pre) t' post (by rw [e];rfl)
   refine ⟨q,by simpa using q1,?_⟩
   rw [List.drop_drop]
   simpa using q2)
  rw [List.flatMap_cons,r,ih t (by simp) _ _ e2]
  simp
theorem PK:∀(m:Nat) (t:TypeId),GH P m t=true→∀(n:Nat) (cs:List Value) (x:DataW H×List MemPlace),DataW.trod enc P w base spare held n t cs=some x→D9 m x.1=cs
 |0,t,h,_,_,_,_=>by cases h
 | m +1,t,h,n,cs,x,hx=>by
  simp only [GH] at h
  split at h
  ·rename_i k hu
   obtain ⟨z,rfl,rfl,hw⟩:=DataW.trod_int hu hx
   rfl
  ·rename_i hu
   obtain ⟨z,rfl,rfl⟩:=DataW.trod_bool hu hx
   rfl
  ·rename_i fs hu
   simp only [Bool.and_eq_true,decide_eq_true_eq,List.all_eq_true] at h
   obtain ⟨⟨h1,h2⟩,h3⟩:=h
   obtain ⟨xs,n',_,rfl,hl,hxl,hf⟩:=DataW.trod_struct hu hx
   simp only [D9]
   refine Iw (sz:=P.cellsOf) (Tr:=fun t c d=>∃y,DataW.trod enc P w base spare held n' t c=some y∧y.1=d) (fs.toList.map (·.type)) cs _ (fun t' ht c d hc=>?_) (by simp [hxl]) (by rw [hl,h2]) (fun pre t' post e=>?_)
   ·obtain ⟨f,hf1,rfl⟩:=List.mem_map.1 ht
    obtain ⟨y,hy,rfl⟩:=hc
    exact PK m f.type (h3 f hf1) n' c y hy
   ·obtain ⟨fpre,frest,e1,e2,e3⟩:=List.map_eq_append_iff.1 e
    obtain ⟨f,fpost,rfl,e4,e5⟩:=List.map_eq_cons_iff.1 e3
    have ho:=NW fs.toList 0 h1 fpre f fpost e1
    have hi:fs[fpre.length]? =some f:=by
     have:fs.toList[fpre.length]? =some f:=by rw [e1];simp
     simpa using this
    have hg:=hf _ f hi
    have hlt:fpre.length<fs.size:=(Array.getElem?_eq_some_iff.1 hi).1
    rw [ho,Nat.zero_add] at hg
    refine ⟨(xs[fpre.length]'(by omega)).1,?_,xs[fpre.length]'(by omega),?_,rfl⟩
    ·rw [←e2,List.length_map,List.getElem?_map,List.getElem?_eq_getElem (by omega)];rfl
    ·rw [←e2,←e4,hg,List.getElem?_eq_getElem]
  ·rename_i n0 e hu
   simp only [Bool.and_eq_true,decide_eq_true_eq] at h
   obtain ⟨h2,h3⟩:=h
   obtain ⟨xs,n',_,rfl,hl,hxl,hf⟩:=DataW.trod_array hu hx
   simp only [D9]
   refine Iw (sz:=P.cellsOf) (Tr:=fun t c d=>∃y,DataW.trod enc P w base spare held n' t c=some y∧y.1=d) (List.replicate n0 e) cs _ (fun t' ht c d hc=>?_) (by simp [hxl]) (by rw [hl,h2]) (fun pre t' post e'=>?_)
   ·rw [(List.mem_replicate.1 ht).2] at hc
    obtain ⟨y,hy,rfl⟩:=hc
    exact PK m e h3 n' c y hy
   ·obtain ⟨c1,c2,c3⟩:=List.replicate_eq_append_iff.1 e'
    have ht':t'=e:=by
     have:t'∈List.replicate n0 e:=by rw [e'];simp
     exact (List.mem_replicate.1 this).2
    have hlen:pre.length<n0:=by
     have:=congrArg List.length e'
     simp at this;omega
    have hg:=hf pre.length hlen
    have hs:(pre.map P.cellsOf).sum=pre.length*P.cellsOf e:=by rw [c2];simp
    refine ⟨(xs[pre.length]'(by omega)).1,?_,xs[pre.length]'(by omega),?_,rfl⟩
    ·rw [List.getElem?_map,List.getElem?_eq_getElem (by omega)];rfl
    ·rw [hs,ht',hg,List.getElem?_eq_getElem]
  ·cases h
theorem JQ {W:World}{name:String}{d:DataW Unit}{rest:List (String×DataW Unit)}{g:Nat}{t:TypeId}{m:Nat}(hg:P.globalNamed name=some g) (hty:(P.globals[g]?).map (·.type)=some t) (hp:GH P m t=true)
  (h:laidMet P ((name,d)::rest) W):(∀i,W.cell? ⟨g,i,none⟩=(D9 m d)[i]?)∧((D9 m d)≠ []→g<W.heap.size):=by
 obtain ⟨ps,⟨g',t',cs,fuel,p,q,hg',ht',hvar,hd,_,_⟩,_⟩:=h
 obtain rfl:=Option.some.inj (hg.symm.trans hg')
 obtain rfl:=Option.some.inj (hty.symm.trans ht')
 have hf:=PK m t hp fuel _ _ hd
 simp only at hf
 have hcell:∀i,W.cell? ⟨g,i,none⟩=(D9 m d)[i]? :=fun i=>by
  rw [World.var?_cell hg hvar i,hf];simp
 refine ⟨hcell,fun hne=>?_⟩
 have h0:=hcell 0
 cases hh:(D9 m d)[0]? with
 |none=>exact absurd (List.getElem?_eq_none_iff.1 hh) (by have:=List.length_pos_iff.2 hne;omega)
 |some z=>
  rw [hh] at h0
  unfold World.cell? at h0
  split at h0
  ·rename_i hb;exact (Array.getElem?_eq_some_iff.1 hb).1
  ·cases h0
end Go.Sx
namespace Go.Proofs.YtlihnbimgclogaaGreatDoor
open Go.Sx Go.ChangeShapes Go.WideShapes Go.ChangeAt Go.RowKit
theorem own:ownKnob Tryz.prog.godebug=none:=by kernel_rfl
theorem laidOut:laidOutB Tryz.prog=true:=by kernel_rfl
theorem aCD:Tryz.prog.globalNamed "chargepark/ramp.happens"=some 0:=by kernel_rfl
theorem azD:(Tryz.prog.globals[0]?).map (·.type)=some 130:=by kernel_rfl
theorem ahY {W:World}(h:laidMetH Tryz.prog [("chargepark/ramp.happens",Rows.laid_chargepark_ramp_happens)] W):UK aQ (fun b=>b<W.heap.size) W:=by
 obtain ⟨h1,h2⟩:=JQ (m:=4) aCD azD (by kernel_rfl) (show laidMet Tryz.prog [("chargepark/ramp.happens",Rows.laid_chargepark_ramp_happens)] W from h)
 intro g n f hg
 unfold aQ at hg
 split at hg
 ·simp only [Option.some.injEq,Prod.mk.injEq] at hg
  obtain ⟨rfl,rfl⟩:=hg
  refine ⟨h2 (by decide),fun j hj=>?_⟩
  rw [h1 j]
  match j,hj with
  |0,_=>rfl
  |1,_=>rfl
  |2,_=>rfl
  |3,_=>rfl
  |4,_=>rfl
  |5,_=>rfl
  |6,_=>rfl
  |7,_=>rfl
 ·cases hg
theorem La {H:Type}{enc:TypeId×Value→H}{P:Program}{w:World}{base:Nat}{spare:Nat→Bool}{held:Bool}:∀ {ts:List TypeId}{vs:List Value}{ds:List (DataW H)}{ps:List MemPlace},DataW.TrodAll enc P w base spare held ts vs ds ps→ds.length=ts.length
 | [],[],[],_,_=>rfl
 | [],_::_,_,_,h=>by cases h
 | [],[],_::_,_,h=>by cases h
 |_::_,[],_,_,h=>by cases h
 |_::_,_::_,[],_,h=>by cases h
 |_::_,_::_,_::_,_,h=>by
  obtain ⟨_,_,_,h2,_⟩:=h
  simp [La h2]
noncomputable def laidWorld (os:Os):World:=
 { World.holding Tryz.prog os ⟨#[],#[],[]⟩ with heap:=(World.holding Tryz.prog os ⟨#[],#[],[]⟩).heap.modify 0 fun
   | .cells _ t frozen=> .cells #[.int .i64 1,.int .i64 1,.int .i64 1,.int .i64 0,.int .i64 2,.int .i64 2,.int .i64 3,.int .i64 3] t frozen
   |o=>o}
theorem wf_u8 {d:(Ty.int .u8).D}(h:Qm (.int .u8) d):(0:Int)≤d∧d≤(255:Int):=by
 simp only [Qm,Lit.wf] at h
 simp only [Bool.and_eq_true] at h
 exact ⟨of_decide_eq_true h.1,of_decide_eq_true h.2⟩
theorem axr {gs:List Ch}(h:Qm (.sl dR) gs):(List.length gs:Int)≤17592186044416:=by
 have h2:List.length gs*mb dR≤reachBytes:=h.1.2
 have e:mb dR=72:=by decide
 rw [e] at h2
 unfold reachBytes at h2
 omega
theorem akn {cs:List Cd}{os:List ByteArray}{ks:List Ko}{gs:List Ch}{bs:List Ba}(h1:Qm (.sl dZ) cs) (h2:Qm (.sl .str) os) (h3:Qm (.sl eP) ks) (h4:Qm (.sl dR) gs) (h5:Qm (.sl eU) bs):nmR (gK cs os ks gs bs):=by
 intro w hw
 have key:∀n:Nat,n≤maxLen→(n:Int)≤9223372036854775807:=fun n h=>by
  unfold maxLen at h
  omega
 refine key _ ?_
 unfold gK at hw
 simp only [List.mem_append,List.mem_map] at hw
 rcases hw with (((⟨x,hx,rfl⟩ |hx) |⟨x,hx,rfl⟩) |⟨x,hx,rfl⟩) |⟨x,hx,rfl⟩
 ·exact (h1.2 x hx).1
 ·exact h2.2 w hx
 ·exact (h3.2 x hx).1
 ·exact (h4.2 x hx).1
 ·exact (h5.2 x hx).1
end Go.Proofs.YtlihnbimgclogaaGreatDoor
namespace Go.Proofs.YtlihnbimgclogaaGreatDoor
open Go.Sx Go.ChangeShapes Go.WideShapes Go.ChangeAt Go.RowKit
namespace ControlPrecedence
set_option maxRecDepth 100000 in
theorem opened (ls:List (List LV)) (h:Gq Tryz.prog 8 Tryz.f6.params.toList ls):(az9 (VN Tryz.prog Tryz.f6.params.toList ls)).all (fun x=>x=.v (.bool true)):=by
 rw [Tryz.params6] at h⊢
 simp only [Gq] at h
 obtain ⟨l0,_,rfl,h0,l1,_,rfl,h1,l2,_,rfl,h2,l3,_,rfl,h3,l4,_,rfl,h4,l5,_,rfl,h5,rfl⟩:=h
 obtain ⟨d0,rfl,w0⟩:=Cj (ty:=(.pair (.sl dZ) (.pair (.sl .str) (.pair (.sl eP) (.pair (.sl dR) (.sl eU)))))) (by kernel_rfl) h0
 obtain ⟨d1,rfl,w1⟩:=Cj (ty:=(.sl pV)) (by kernel_rfl) h1
 obtain ⟨d2,rfl,w2⟩:=Cj (ty:=(.int .i64)) (by kernel_rfl) h2
 obtain ⟨d3,rfl,w3⟩:=Cj (ty:=(.int .u8)) (by kernel_rfl) h3
 obtain ⟨d4,rfl,w4⟩:=Cj (ty:=(.int .u8)) (by kernel_rfl) h4
 obtain ⟨d5,rfl,w5⟩:=Cj (ty:=(.int .u8)) (by kernel_rfl) h5
 simp only [VN,pLV,Tryz.underlying31,Tryz.underlying28,Tryz.underlying3,Tryz.underlying5]
 refine adU (t':=T.req (nmR (gK d0.1 d0.2.1 d0.2.2.1 d0.2.2.2.1 d0.2.2.2.2)∧(List.length d0.2.2.2.1:Int)≤17592186044416∧(0≤d3∧d3≤255)∧(0≤d4∧d4≤255)∧0≤d5∧d5≤255) (T.ok (LV.v (Value.bool true)))) (by kernel_rfl) ?_
 exact ⟨⟨(akn w0.1 w0.2.1 w0.2.2.1 w0.2.2.2.1 w0.2.2.2.2),axr w0.2.2.2.1,wf_u8 w3,wf_u8 w4,wf_u8 w5⟩,rfl⟩
set_option maxRecDepth 100000 in
theorem contract (H:Type) (enc:TypeId×Value→H) (W:World) (base:Nat) (args:Array Value) (ds gs:List (DataW H)) (before:List MemPlace)
  (hval:∀(j:Nat) t v,Tryz.f6.params[j]? =some t→args[j]? =some v→Value.okWide Tryz.prog W .any base t v)
  (hW:DataW.Whole enc Tryz.prog Tryz.f6.params.toList Rows.controlPrecedenceSpec.vars false W args.toList ds gs before) (hL:laidMetH Tryz.prog Rows.controlPrecedenceRow.laid W) {us:List TypeId} (hz:(DataW.weightsEach Tryz.prog (Tryz.f6.params.toList++us) (ds++gs)).all (·≤reachBytes)=true):
  Calls Tryz.prog 6 args W fun e W'=>∃v,e=.returned v∧Rows.controlPrecedenceSpec.post enc Tryz.prog Tryz.f6 false true false false W args v W':=by
 refine Px (m:=8) (tb:=4) aCj laidOut (by kernel_rfl) (by kernel_rfl) Tryz.underlying4 rfl ?_ (by kernel_rfl) opened (ahY hL) hval hW hz
 obtain ⟨p,q,hA,_⟩:=hW
 have hl:=La hA
 rw [Tryz.params6] at hl
 match ds,hl with
 | [_,_,_,_,_,_],_=>exact ⟨rfl,rfl,rfl⟩
theorem laid_met (os:Os):laidMet Tryz.prog Rows.controlPrecedenceRow.laid ((laidWorld os).forCall (fun _ _=>0) ⟨#[],#[.agg #[.slice none 0 0,.slice none 0 0,.slice none 0 0,.slice none 0 0,.slice none 0 0],.slice none 0 0,.int .i64 0,.int .u8 0,.int .u8 0,.int .u8 0],[]⟩).memory:=
 laidMet_of_run' 8 (by kernel_rfl) (by kernel_rfl)
theorem reads (os:Os) {H:Type}(enc:TypeId×Value→H):∃places,DataW.whole enc Tryz.prog ((laidWorld os).forCall (fun _ _=>0) ⟨#[],#[.agg #[.slice none 0 0,.slice none 0 0,.slice none 0 0,.slice none 0 0,.slice none 0 0],.slice none 0 0,.int .i64 0,.int .u8 0,.int .u8 0,.int .u8 0],[]⟩).memory Tryz.f6.params.toList Rows.controlPrecedenceSpec.vars false #[.agg #[.slice none 0 0,.slice none 0 0,.slice none 0 0,.slice none 0 0,.slice none 0 0],.slice none 0 0,.int .i64 0,.int .u8 0,.int .u8 0,.int .u8 0].toList 8=some ([.agg [.nil,.nil,.nil,.nil,.nil],.nil,.lit (.int .i64 0),.lit (.int .u8 0),.lit (.int .u8 0),.lit (.int .u8 0)],[],places):=
 ⟨[],by kernel_rfl⟩
set_option maxRecDepth 100000 in
theorem lifted (os:Os) (started:os.Started) (H:Type) (enc:TypeId×Value→H) (F:Stop.Interp):
  ReturnsInHanded {} Tryz.checked os 6 .any ((OpenSpec.ofChange Rows.controlPrecedenceSpec).preRow enc Tryz.prog Tryz.f6 Rows.controlPrecedenceRow.domain false Rows.controlPrecedenceRow.laid) (((OpenSpec.ofChange Rows.controlPrecedenceSpec).at F).post enc Tryz.prog Tryz.f6 false true false false):=by
 obtain ⟨places,hx⟩:=reads os enc
 refine returnsInHanded_of_row (C:=Tryz.checked) (s:=OpenSpec.ofChange Rows.controlPrecedenceSpec) own started (by kernel_rfl) Tryz.func6
  (witness_row_at (enc:=enc) (C:=Tryz.checked) false (laidWorld os) #[.agg #[.slice none 0 0,.slice none 0 0,.slice none 0 0,.slice none 0 0,.slice none 0 0],.slice none 0 0,.int .i64 0,.int .u8 0,.int .u8 0,.int .u8 0] rfl (by kernel_rfl) (by kernel_rfl) (by kernel_rfl)
   (OpenSpec.preRow_of_cond 8 hx (by kernel_rfl) (fun k hk=>by cases hk) (by kernel_rfl) (laid_met os))) ?_
 intro W base args ds gs before hval hW _ _ hz hL _ _
 exact contract H enc W base args ds gs before hval hW hL hz
theorem said:Rows.ControlPrecedenceSaid:=
 OpenClaim.holds_of_cond 6 Tryz.f6 rfl rfl rfl rfl rfl rfl rfl ⟨rfl,rfl,rfl,rfl,rfl⟩ rfl rfl rfl rfl rfl (by kernel_rfl) Tryz.func6 (by kernel_rfl)
  (of_decide_eq_true (by kernel_rfl)) (by unfold Func.isWrapper;first|(rw [if_pos (by decide+kernel)];kernel_rfl) |(rw [if_neg (by decide+kernel)];exact ⟨rfl,rfl⟩))
  (fun os started H enc _ F=>by rw [OpenClaim.pre_eq_preRow];exact lifted os started H enc F)
theorem plain (f:FuncId) (fn:Func) (hf:Tryz.pinned.checked.prog.funcNamed "chargepark/chargeparklaw25.ControlPrecedence"=some f) (hfn:Tryz.pinned.checked.prog.funcs[f]? =some fn):
  false=Tryz.pinned.checked.prog.looks []∧∀(j:Nat) t,fn.params[j]? =some t→Tryz.pinned.checked.prog.wantsStandIn t=false:=by
 obtain rfl:f=6:=Option.some.inj ((show Tryz.prog.funcNamed "chargepark/chargeparklaw25.ControlPrecedence"=some 6 by kernel_rfl).symm.trans hf) |>.symm
 obtain rfl:fn=Tryz.f6:=(Option.some.inj (Tryz.func6.symm.trans hfn)).symm
 refine ⟨by kernel_rfl,fun j t ht=>?_⟩
 have h:Tryz.f6.params.toList.all (fun t=>!Tryz.prog.wantsStandIn t)=true:=by kernel_rfl
 have:=List.all_eq_true.1 h t (by simpa using Array.mem_of_getElem? ht)
 show Tryz.prog.wantsStandIn t=false
 simpa using this
theorem card:Rows.ControlPrecedenceCardSaid:=
 Claim7.holds_tied_plain_at .later [] _ _ _ _ said (fun _ h=>by cases h) (by kernel_rfl) (fun _ h=>by cases h) controlPrecedence_row_tie rfl ⟨rfl,rfl⟩ (by kernel_rfl) rfl plain (by kernel_rfl)
end ControlPrecedence
theorem controlPrecedence_card:Rows.ControlPrecedenceCardSaid:=ControlPrecedence.card
end Go.Proofs.YtlihnbimgclogaaGreatDoor
