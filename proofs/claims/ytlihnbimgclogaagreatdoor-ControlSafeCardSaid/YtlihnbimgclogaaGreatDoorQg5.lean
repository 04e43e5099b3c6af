/- ControlSafe returns true for all arguments: what may be alive exceeds no limit after the new leases were granted, in this tick and in any later one, if it exceeded none before. Conditions: none; the table ramp.happens holds what its text says. -/
import Derived.Test.YtlihnbimgclogaaGreatDoorQg4
namespace Go.Proofs.YtlihnbimgclogaaGreatDoor
open Go.Sx
theorem apY (cs:List Cd) (os:List ByteArray) (ks:List Ko) (gs:List Ch) (bs:List Ba) (al mo od:List Int):bW Tryz.prog aS (acy) atO (fun i=>if i=11 then KW.lp else if i=21 then Fv.lp else aC i) Tryz.f52 [.agg [.xl eu cs,.xl .str os,.xl eG ks,.xl dK gs,.xl eP bs],.xl (.int .i64) al,.xl (.int .i64) mo,.xl (.int .i64) od]=.br ((PI cs os ks gs bs) !=0) (.ok (.gQ [.xl (.int .i64) ([]:List Int),.v (.int .i64 1)])) (.br ((List.length al:Int) !=(List.length gs:Int)) (.ok (.gQ [.xl (.int .i64) ([]:List Int),.v (.int .i64 1)])) (.br ((List.length mo:Int) !=(List.length gs:Int)) (.ok (.gQ [.xl (.int .i64) ([]:List Int),.v (.int .i64 1)])) (.req (aas (⟨false,al,(List.length al:Int),(0:Int),cs,os,ks,gs,bs⟩:jW)) (.br (iE (yI (⟨false,al,(List.length al:Int),(0:Int),cs,os,ks,gs,bs⟩:jW)) (.ret)) (.br (!(uO (⟨false,al,(List.length al:Int),(0:Int),cs,os,ks,gs,bs⟩:jW)).r) (.ok (.gQ [.xl (.int .i64) ([]:List Int),.v (.int .i64 1)])) (.req (aas (⟨false,mo,(List.length mo:Int),(0:Int),cs,os,ks,gs,bs⟩:jW)) (.br (iE (yI (⟨false,mo,(List.length mo:Int),(0:Int),cs,os,ks,gs,bs⟩:jW)) (.ret)) (.br (!(uO (⟨false,mo,(List.length mo:Int),(0:Int),cs,os,ks,gs,bs⟩:jW)).r) (.ok (.gQ [.xl (.int .i64) ([]:List Int),.v (.int .i64 1)])) (.req ((List.length gs:Int)≤1000) (.br (!(nC od (List.length gs:Int))) (.ok (.gQ [.xl (.int .i64) ([]:List Int),.v (.int .i64 1)])) (.req (0≤(List.length (iL cs os ks gs bs):Int)∧(List.length (iL cs os ks gs bs):Int)≤(List.length (iL cs os ks gs bs):Int)∧8*(List.length (iL cs os ks gs bs):Int)≤2^48∧(List.length (iL cs os ks gs bs):Int)<2^63) (.req (0≤(List.length al:Int)∧(List.length al:Int)≤(List.length al:Int)∧8*(List.length al:Int)≤2^48∧(List.length al:Int)<2^63) (.req (0=0∧0=List.length ([]:List Int)) (.req (0=0∧0=List.length ([]:List Int)) (.req (0=0∧0=List.length ([]:List Int)) (.req (0=0∧0=List.length ([]:List Int)) (.req (0=0∧0=List.length ([]:List Int)) (.req (0=0∧0=List.length ([]:List Int)) (.req (0=0∧0=List.length ([]:List Int)) (.req (0=0∧0=List.length ([]:List Int)) (.req (0=0∧0=List.length ([]:List Int)) (.req (0=0∧0=List.length ([]:List Int)) (.req (0=0∧0=List.length ([]:List Int)) (.req (0=0∧0=List.length ([]:List Int)) (.req (0=0∧0=List.length ([]:List Int)) (.req (0=0∧0=List.length ([]:List Int)) (.req (0=0∧0=List.length ([]:List Int)) (.req (0=0∧0=List.length ([]:List Int)) (.req (0=0∧(List.length (iL cs os ks gs bs):Int).toNat=List.length (List.replicate (List.length (iL cs os ks gs bs):Int).toNat (0:Int))) (.req (0=0∧(List.length al:Int).toNat=List.length (List.replicate (List.length al:Int).toNat (0:Int))) (.req (Td (ay cs os ks gs bs al mo od)) (.req (0+(List.length (ax (ay cs os ks gs bs al mo od)).jB)≤List.length (ax (ay cs os ks gs bs al mo od)).jB) (.req (0+(List.length (ax (ay cs os ks gs bs al mo od)).jA)≤List.length (ax (ay cs os ks gs bs al mo od)).jA) (.req (0+(List.length (ax (ay cs os ks gs bs al mo od)).jy)≤List.length (ax (ay cs os ks gs bs al mo od)).jy) (.req (0+(List.length (ax (ay cs os ks gs bs al mo od)).jw)≤List.length (ax (ay cs os ks gs bs al mo od)).jw) (.req (0+(List.length (ax (ay cs os ks gs bs al mo od)).jv)≤List.length (ax (ay cs os ks gs bs al mo od)).jv) (.req (0+(List.length (ax (ay cs os ks gs bs al mo od)).jr)≤List.length (ax (ay cs os ks gs bs al mo od)).jr) (.req (0+(List.length (ax (ay cs os ks gs bs al mo od)).jq)≤List.length (ax (ay cs os ks gs bs al mo od)).jq) (.req (0+(List.length (ax (ay cs os ks gs bs al mo od)).jo)≤List.length (ax (ay cs os ks gs bs al mo od)).jo) (.req (0+(List.length (ax (ay cs os ks gs bs al mo od)).jm)≤List.length (ax (ay cs os ks gs bs al mo od)).jm) (.req (0+(List.length (ax (ay cs os ks gs bs al mo od)).jl)≤List.length (ax (ay cs os ks gs bs al mo od)).jl) (.req (0+(List.length (ax (ay cs os ks gs bs al mo od)).dU)≤List.length (ax (ay cs os ks gs bs al mo od)).dU) (.req (0+(List.length (ax (ay cs os ks gs bs al mo od)).dS)≤List.length (ax (ay cs os ks gs bs al mo od)).dS) (.req (0+(List.length (ax (ay cs os ks gs bs al mo od)).dR)≤List.length (ax (ay cs os ks gs bs al mo od)).dR) (.req (0+(List.length (ax (ay cs os ks gs bs al mo od)).dQ)≤List.length (ax (ay cs os ks gs bs al mo od)).dQ) (.req (0+(List.length (ax (ay cs os ks gs bs al mo od)).dP)≤List.length (ax (ay cs os ks gs bs al mo od)).dP) (.req (0+(List.length (ax (ay cs os ks gs bs al mo od)).dO)≤List.length (ax (ay cs os ks gs bs al mo od)).dO) (.rl (ax (ay cs os ks gs bs al mo od)).sums (.rl (List.replicate (List.length al:Int).toNat (0:Int)) (.req (Tc (fH cs os ks gs bs al mo od)) (.req (0≤(List.length gs:Int)∧(List.length gs:Int)≤(List.length gs:Int)∧8*(List.length gs:Int)≤2^48∧(List.length gs:Int)<2^63) (.req (0=0∧(List.length gs:Int).toNat=List.length (List.replicate (List.length gs:Int).toNat (0:Int))) (.rl (iW (fH cs os ks gs bs al mo od)).sums (.rl (iW (fH cs os ks gs bs al mo od)).levels (.req (S9 (gB cs os ks gs bs al mo od)) (.req (0+(List.length (iG (gB cs os ks gs bs al mo od)).out)≤List.length (iG (gB cs os ks gs bs al mo od)).out) (.ok (.gQ [.xl (.int .i64) (((iG (gB cs os ks gs bs al mo od)).out.drop 0).take (List.length (iG (gB cs os ks gs bs al mo od)).out)),.v (.int .i64 0)]))))))))))))))))))))))))))))))))))))))))))))))))))) (.br (!true) (.ok (.gQ [.xl (.int .i64) ([]:List Int),.v (.int .i64 1)])) (.req ((List.length gs:Int)≤1000) (.br (!(nC od (List.length gs:Int))) (.ok (.gQ [.xl (.int .i64) ([]:List Int),.v (.int .i64 1)])) (.req (0≤(List.length (iL cs os ks gs bs):Int)∧(List.length (iL cs os ks gs bs):Int)≤(List.length (iL cs os ks gs bs):Int)∧8*(List.length (iL cs os ks gs bs):Int)≤2^48∧(List.length (iL cs os ks gs bs):Int)<2^63) (.req (0≤(List.length al:Int)∧(List.length al:Int)≤(List.length al:Int)∧8*(List.length al:Int)≤2^48∧(List.length al:Int)<2^63) (.req (0=0∧0=List.length ([]:List Int)) (.req (0=0∧0=List.length ([]:List Int)) (.req (0=0∧0=List.length ([]:List Int)) (.req (0=0∧0=List.length ([]:List Int)) (.req (0=0∧0=List.length ([]:List Int)) (.req (0=0∧0=List.length ([]:List Int)) (.req (0=0∧0=List.length ([]:List Int)) (.req (0=0∧0=List.length ([]:List Int)) (.req (0=0∧0=List.length ([]:List Int)) (.req (0=0∧0=List.length ([]:List Int)) (.req (0=0∧0=List.length ([]:List Int)) (.req (0=0∧0=List.length ([]:List Int)) (.req (0=0∧0=List.length ([]:List Int)) (.req (0=0∧0=List.length ([]:List Int)) (.req (0=0∧0=List.length ([]:List Int)) (.req (0=0∧0=List.length ([]:List Int)) (.req (0=0∧(List.length (iL cs os ks gs bs):Int).toNat=List.length (List.replicate (List.length (iL cs os ks gs bs):Int).toNat (0:Int))) (.req (0=0∧(List.length al:Int).toNat=List.length (List.replicate (List.length al:Int).toNat (0:Int))) (.req (Td (ay cs os ks gs bs al mo od)) (.req (0+(List.length (ax (ay cs os ks gs bs al mo od)).jB)≤List.length (ax (ay cs os ks gs bs al mo od)).jB) (.req (0+(List.length (ax (ay cs os ks gs bs al mo od)).jA)≤List.length (ax (ay cs os ks gs bs al mo od)).jA) (.req (0+(List.length (ax (ay cs os ks gs bs al mo od)).jy)≤List.length (ax (ay cs os ks gs bs al mo od)).jy) (.req (0+(List.length (ax (ay cs os ks gs bs al mo od)).jw)≤List.length (ax (ay cs os ks gs bs al mo od)).jw) (.req (0+(List.length (ax (ay cs os ks gs bs al mo od)).jv)≤List.length (ax (ay cs os ks gs bs al mo od)).jv) (.req (0+(List.length (ax (ay cs os ks gs bs al mo od)).jr)≤List.length (ax (ay cs os ks gs bs al mo od)).jr) (.req (0+(List.length (ax (ay cs os ks gs bs al mo od)).jq)≤List.length (ax (ay cs os ks gs bs al mo od)).jq) (.req (0+(List.length (ax (ay cs os ks gs bs al mo od)).jo)≤List.length (ax (ay cs os ks gs bs al mo od)).jo) (.req (0+(List.length (ax (ay cs os ks gs bs al mo od)).jm)≤List.length (ax (ay cs os ks gs bs al mo od)).jm) (.req (0+(List.length (ax (ay cs os ks gs bs al mo od)).jl)≤List.length (ax (ay cs os ks gs bs al mo od)).jl) (.req (0+(List.length (ax (ay cs os ks gs bs al mo od)).dU)≤List.length (ax (ay cs os ks gs bs al mo od)).dU) (.req (0+(List.length (ax (ay cs os ks gs bs al mo od)).dS)≤List.length (ax (ay cs os ks gs bs al mo od)).dS) (.req (0+(List.length (ax (ay cs os ks gs bs al mo od)).dR)≤List.length (ax (ay cs os ks gs bs al mo od)).dR) (.req (0+(List.length (ax (ay cs os ks gs bs al mo od)).dQ)≤List.length (ax (ay cs os ks gs bs al mo od)).dQ) (.req (0+(List.length (ax (ay cs os ks gs bs al mo od)).dP)≤List.length (ax (ay cs os ks gs bs al mo od)).dP) (.req (0+(List.length (ax (ay cs os ks gs bs al mo od)).dO)≤List.length (ax (ay cs os ks gs bs al mo od)).dO) (.rl (ax (ay cs os ks gs bs al mo od)).sums (.rl (List.replicate (List.length al:Int).toNat (0:Int)) (.req (Tc (fH cs os ks gs bs al mo od)) (.req (0≤(List.length gs:Int)∧(List.length gs:Int)≤(List.length gs:Int)∧8*(List.length gs:Int)≤2^48∧(List.length gs:Int)<2^63) (.req (0=0∧(List.length gs:Int).toNat=List.length (List.replicate (List.length gs:Int).toNat (0:Int))) (.rl (iW (fH cs os ks gs bs al mo od)).sums (.rl (iW (fH cs os ks gs bs al mo od)).levels (.req (S9 (gB cs os ks gs bs al mo od)) (.req (0+(List.length (iG (gB cs os ks gs bs al mo od)).out)≤List.length (iG (gB cs os ks gs bs al mo od)).out) (.ok (.gQ [.xl (.int .i64) (((iG (gB cs os ks gs bs al mo od)).out.drop 0).take (List.length (iG (gB cs os ks gs bs al mo od)).out)),.v (.int .i64 0)])))))))))))))))))))))))))))))))))))))))))))))))))))))) (.br (!true) (.ok (.gQ [.xl (.int .i64) ([]:List Int),.v (.int .i64 1)])) (.req (aas (⟨false,mo,(List.length mo:Int),(0:Int),cs,os,ks,gs,bs⟩:jW)) (.br (iE (yI (⟨false,mo,(List.length mo:Int),(0:Int),cs,os,ks,gs,bs⟩:jW)) (.ret)) (.br (!(uO (⟨false,mo,(List.length mo:Int),(0:Int),cs,os,ks,gs,bs⟩:jW)).r) (.ok (.gQ [.xl (.int .i64) ([]:List Int),.v (.int .i64 1)])) (.req ((List.length gs:Int)≤1000) (.br (!(nC od (List.length gs:Int))) (.ok (.gQ [.xl (.int .i64) ([]:List Int),.v (.int .i64 1)])) (.req (0≤(List.length (iL cs os ks gs bs):Int)∧(List.length (iL cs os ks gs bs):Int)≤(List.length (iL cs os ks gs bs):Int)∧8*(List.length (iL cs os ks gs bs):Int)≤2^48∧(List.length (iL cs os ks gs bs):Int)<2^63) (.req (0≤(List.length al:Int)∧(List.length al:Int)≤(List.length al:Int)∧8*(List.length al:Int)≤2^48∧(List.length al:Int)<2^63) (.req (0=0∧0=List.length ([]:List Int)) (.req (0=0∧0=List.length ([]:List Int)) (.req (0=0∧0=List.length ([]:List Int)) (.req (0=0∧0=List.length ([]:List Int)) (.req (0=0∧0=List.length ([]:List Int)) (.req (0=0∧0=List.length ([]:List Int)) (.req (0=0∧0=List.length ([]:List Int)) (.req (0=0∧0=List.length ([]:List Int)) (.req (0=0∧0=List.length ([]:List Int)) (.req (0=0∧0=List.length ([]:List Int)) (.req (0=0∧0=List.length ([]:List Int)) (.req (0=0∧0=List.length ([]:List Int)) (.req (0=0∧0=List.length ([]:List Int)) (.req (0=0∧0=List.length ([]:List Int)) (.req (0=0∧0=List.length ([]:List Int)) (.req (0=0∧0=List.length ([]:List Int)) (.req (0=0∧(List.length (iL cs os ks gs bs):Int).toNat=List.length (List.replicate (List.length (iL cs os ks gs bs):Int).toNat (0:Int))) (.req (0=0∧(List.length al:Int).toNat=List.length (List.replicate (List.length al:Int).toNat (0:Int))) (.req (Td (ay cs os ks gs bs al mo od)) (.req (0+(List.length (ax (ay cs os ks gs bs al mo od)).jB)≤List.length (ax (ay cs os ks gs bs al mo od)).jB) (.req (0+(List.length (ax (ay cs os ks gs bs al mo od)).jA)≤List.length (ax (ay cs os ks gs bs al mo od)).jA) (.req (0+(List.length (ax (ay cs os ks gs bs al mo od)).jy)≤List.length (ax (ay cs os ks gs bs al mo od)).jy) (.req (0+(List.length (ax (ay cs os ks gs bs al mo od)).jw)≤List.length (ax (ay cs os ks gs bs al mo od)).jw) (.req (0+(List.length (ax (ay cs os ks gs bs al mo od)).jv)≤List.length (ax (ay cs os ks gs bs al mo od)).jv) (.req (0+(List.length (ax (ay cs os ks gs bs al mo od)).jr)≤List.length (ax (ay cs os ks gs bs al mo od)).jr) (.req (0+(List.length (ax (ay cs os ks gs bs al mo od)).jq)≤List.length (ax (ay cs os ks gs bs al mo od)).jq) (.req (0+(List.length (ax (ay cs os ks gs bs al mo od)).jo)≤List.length (ax (ay cs os ks gs bs al mo od)).jo) (.req (0+(List.length (ax (ay cs os ks gs bs al mo od)).jm)≤List.length (ax (ay cs os ks gs bs al mo od)).jm) (.req (0+(List.length (ax (ay cs os ks gs bs al mo od)).jl)≤List.length (ax (ay cs os ks gs bs al mo od)).jl) (.req (0+(List.length (ax (ay cs os ks gs bs al mo od)).dU)≤List.length (ax (ay cs os ks gs bs al mo od)).dU) (.req (0+(List.length (ax (ay cs os ks gs bs al mo od)).dS)≤List.length (ax (ay cs os ks gs bs al mo od)).dS) (.req (0+(List.length (ax (ay cs os ks gs bs al mo od)).dR)≤List.length (ax (ay cs os ks gs bs al mo od)).dR) (.req (0+(List.length (ax (ay cs os ks gs bs al mo od)).dQ)≤List.length (ax (ay cs os ks gs bs al mo od)).dQ) (.req (0+(List.length (ax (ay cs os ks gs bs al mo od)).dP)≤List.length (ax (ay cs os ks gs bs al mo od)).dP) (.req (0+(List.length (ax (ay cs os ks gs bs al mo od)).dO)≤List.length (ax (ay cs os ks gs bs al mo od)).dO) (.rl (ax (ay cs os ks gs bs al mo od)).sums (.rl (List.replicate (List.length al:Int).toNat (0:Int)) (.req (Tc (fH cs os ks gs bs al mo od)) (.req (0≤(List.length gs:Int)∧(List.length gs:Int)≤(List.length gs:Int)∧8*(List.length gs:Int)≤2^48∧(List.length gs:Int)<2^63) (.req (0=0∧(List.length gs:Int).toNat=List.length (List.replicate (List.length gs:Int).toNat (0:Int))) (.rl (iW (fH cs os ks gs bs al mo od)).sums (.rl (iW (fH cs os ks gs bs al mo od)).levels (.req (S9 (gB cs os ks gs bs al mo od)) (.req (0+(List.length (iG (gB cs os ks gs bs al mo od)).out)≤List.length (iG (gB cs os ks gs bs al mo od)).out) (.ok (.gQ [.xl (.int .i64) (((iG (gB cs os ks gs bs al mo od)).out.drop 0).take (List.length (iG (gB cs os ks gs bs al mo od)).out)),.v (.int .i64 0)]))))))))))))))))))))))))))))))))))))))))))))))))))) (.br (!true) (.ok (.gQ [.xl (.int .i64) ([]:List Int),.v (.int .i64 1)])) (.req ((List.length gs:Int)≤1000) (.br (!(nC od (List.length gs:Int))) (.ok (.gQ [.xl (.int .i64) ([]:List Int),.v (.int .i64 1)])) (.req (0≤(List.length (iL cs os ks gs bs):Int)∧(List.length (iL cs os ks gs bs):Int)≤(List.length (iL cs os ks gs bs):Int)∧8*(List.length (iL cs os ks gs bs):Int)≤2^48∧(List.length (iL cs os ks gs bs):Int)<2^63) (.req (0≤(List.length al:Int)∧(List.length al:Int)≤(List.length al:Int)∧8*(List.length al:Int)≤2^48∧(List.length al:Int)<2^63) (.req (0=0∧0=List.length ([]:List Int)) (.req (0=0∧0=List.length ([]:List Int)) (.req (0=0∧0=List.length ([]:List Int)) (.req (0=0∧0=List.length ([]:List Int)) (.req (0=0∧0=List.length ([]:List Int)) (.req (0=0∧0=List.length ([]:List Int)) (.req (0=0∧0=List.length ([]:List Int)) (.req (0=0∧0=List.length ([]:List Int)) (.req (0=0∧0=List.length ([]:List Int)) (.req (0=0∧0=List.length ([]:List Int)) (.req (0=0∧0=List.length ([]:List Int)) (.req (0=0∧0=List.length ([]:List Int)) (.req (0=0∧0=List.length ([]:List Int)) (.req (0=0∧0=List.length ([]:List Int)) (.req (0=0∧0=List.length ([]:List Int)) (.req (0=0∧0=List.length ([]:List Int)) (.req (0=0∧(List.length (iL cs os ks gs bs):Int).toNat=List.length (List.replicate (List.length (iL cs os ks gs bs):Int).toNat (0:Int))) (.req (0=0∧(List.length al:Int).toNat=List.length (List.replicate (List.length al:Int).toNat (0:Int))) (.req (Td (ay cs os ks gs bs al mo od)) (.req (0+(List.length (ax (ay cs os ks gs bs al mo od)).jB)≤List.length (ax (ay cs os ks gs bs al mo od)).jB) (.req (0+(List.length (ax (ay cs os ks gs bs al mo od)).jA)≤List.length (ax (ay cs os ks gs bs al mo od)).jA) (.req (0+(List.length (ax (ay cs os ks gs bs al mo od)).jy)≤List.length (ax (ay cs os ks gs bs al mo od)).jy) (.req (0+(List.length (ax (ay cs os ks gs bs al mo od)).jw)≤List.length (ax (ay cs os ks gs bs al mo od)).jw) (.req (0+(List.length (ax (ay cs os ks gs bs al mo od)).jv)≤List.length (ax (ay cs os ks gs bs al mo od)).jv) (.req (0+(List.length (ax (ay cs os ks gs bs al mo od)).jr)≤List.length (ax (ay cs os ks gs bs al mo od)).jr) (.req (0+(List.length (ax (ay cs os ks gs bs al mo od)).jq)≤List.length (ax (ay cs os ks gs bs al mo od)).jq) (.req (0+(List.length (ax (ay cs os ks gs bs al mo od)).jo)≤List.length (ax (ay cs os ks gs bs al mo od)).jo) (.req (0+(List.length (ax (ay cs os ks gs bs al mo od)).jm)≤List.length (ax (ay cs os ks gs bs al mo od)).jm) (.req (0+(List.length (ax (ay cs os ks gs bs al mo od)).jl)≤List.length (ax (ay cs os ks gs bs al mo od)).jl) (.req (0+(List.length (ax (ay cs os ks gs bs al mo od)).dU)≤List.length (ax (ay cs os ks gs bs al mo od)).dU) (.req (0+(List.length (ax (ay cs os ks gs bs al mo od)).dS)≤List.length (ax (ay cs os ks gs bs al mo od)).dS) (.req (0+(List.length (ax (ay cs os ks gs bs al mo od)).dR)≤List.length (ax (ay cs os ks gs bs al mo od)).dR) (.req (0+(List.length (ax (ay cs os ks gs bs al mo od)).dQ)≤List.length (ax (ay cs os ks gs bs al mo od)).dQ) (.req (0+(List.length (ax (ay cs os ks gs bs al mo od)).dP)≤List.length (ax (ay cs os ks gs bs al mo od)).dP) (.req (0+(List.length (ax (ay cs os ks gs bs al mo od)).dO)≤List.length (ax (ay cs os ks gs bs al mo od)).dO) (.rl (ax (ay cs os ks gs bs al mo od)).sums (.rl (List.replicate (List.length al:Int).toNat (0:Int)) (.req (Tc (fH cs os ks gs bs al mo od)) (.req (0≤(List.length gs:Int)∧(List.length gs:Int)≤(List.length gs:Int)∧8*(List.length gs:Int)≤2^48∧(List.length gs:Int)<2^63) (.req (0=0∧(List.length gs:Int).toNat=List.length (List.replicate (List.length gs:Int).toNat (0:Int))) (.rl (iW (fH cs os ks gs bs al mo od)).sums (.rl (iW (fH cs os ks gs bs al mo od)).levels (.req (S9 (gB cs os ks gs bs al mo od)) (.req (0+(List.length (iG (gB cs os ks gs bs al mo od)).out)≤List.length (iG (gB cs os ks gs bs al mo od)).out) (.ok (.gQ [.xl (.int .i64) (((iG (gB cs os ks gs bs al mo od)).out.drop 0).take (List.length (iG (gB cs os ks gs bs al mo od)).out)),.v (.int .i64 0)])))))))))))))))))))))))))))))))))))))))))))))))))))))))))):=by kernel_rfl
theorem agy:Valid Tryz.prog aS 52 JZ:=aI Tryz.func52 rfl akJ aDp (L:=(fun i=>if i=11 then KW.lp else if i=21 then Fv.lp else aC i)) (fun b hb=>by
 rw [show aB _=[JM,BI] by kernel_rfl] at hb
 simp only [List.mem_cons,List.not_mem_nil,or_false] at hb
 rcases hb with rfl|rfl
 ·exact an4
 ·exact an3) (fun args lv h=>by
 unfold adZ at h
 split at h
 ·simp only [canL,canX]
  rw [apY]
  rename_i cs os ks gs bs al mo od
  obtain rfl:=h
  have err:sQ cs os ks gs bs al mo od=false→LV.gQ [.xl (.int .i64) ([]:List Int),.v (.int .i64 1)]=LV.gQ [.xl (.int .i64) (yP cs os ks gs bs al mo od),.v (.int .i64 (shE cs os ks gs bs al mo od))]:=fun h=>by
   unfold yP shE
   rw [h]
   rfl
  have no_:∀ {p:Prop},¬p→(sQ cs os ks gs bs al mo od=true→p)→sQ cs os ks gs bs al mo od=false:=fun h1 h2=>by
   rw [Bool.eq_false_iff];exact fun h=>h1 (h2 h)
  refine ⟨fun c=>err (no_ (p:=dL cs os ks gs bs=true) (fun h=>?_) (fun h=>(jG.1 h).1)),fun c=>?_⟩
  ·unfold PI at c
   rw [h] at c
   simp at c
  have hv:dL cs os ks gs bs=true:=by
   cases e:dL cs os ks gs bs with
   |true=>rfl
   |false=>unfold PI at c;rw [e] at c;simp at c
  have hl:=(fG.1 hv).1
  refine ⟨fun c2=>err (no_ (p:=al.length=gs.length) (by simp at c2;omega) (fun h=>(jG.1 h).2.1)),fun c2=>?_⟩
  refine ⟨fun c3=>err (no_ (p:=mo.length=gs.length) (by simp at c3;omega) (fun h=>(jG.1 h).2.2.1)),fun c3=>?_⟩
  have c2:al.length=gs.length:=by simp at c2;omega
  have c3:mo.length=gs.length:=by simp at c3;omega
  refine oH ⟨⟨rfl,by simp only;omega,by simp only;omega,rfl⟩,rfl,rfl⟩ (fun hE1=>?_)
  rcases adx _ hE1.1 with ⟨q1,q2⟩ |⟨q1,q2,q3⟩
  rotate_left
  ·rw [q1,q2]
   refine ⟨fun _=>⟨fun _=>err (no_ (p:=al.all vH=true) (by have q3:al.all vH=false:=q3;rw [q3];simp) (fun h=>(jG.1 h).2.2.2.1)),fun h=>by cases h⟩,fun h=>by cases h⟩
  rw [q1]
  refine ⟨fun h=>(by cases h),fun _=>⟨fun h=>(by cases h),fun _=>?_⟩⟩
  have q2:al.all vH=true:=q2
  refine oH ⟨⟨rfl,by simp only;omega,by simp only;omega,rfl⟩,rfl,rfl⟩ (fun hE2=>?_)
  rcases adx _ hE2.1 with ⟨p1,p2⟩ |⟨p1,p2,p3⟩
  rotate_left
  ·rw [p1,p2]
   refine ⟨fun _=>⟨fun _=>err (no_ (p:=mo.all vH=true) (by have p3:mo.all vH=false:=p3;rw [p3];simp) (fun h=>(jG.1 h).2.2.2.2.1)),fun h=>by cases h⟩,fun h=>by cases h⟩
  rw [p1]
  refine ⟨fun h=>(by cases h),fun _=>⟨fun h=>(by cases h),fun _=>?_⟩⟩
  have p2:mo.all vH=true:=p2
  refine ⟨by omega,fun c4=>err (no_ (p:=nC od (gs.length:Int)=true) (by simp at c4;rw [c4];simp) (fun h=>(jG.1 h).2.2.2.2.2)),fun c4=>?_⟩
  have c4:nC od (gs.length:Int)=true:=by simpa using c4
  have hok:sQ cs os ks gs bs al mo od=true:=jG.2 ⟨hv,c2,c3,q2,p2,c4⟩
  obtain ⟨hT,hS⟩:=aCQ hok
  have er:iL cs os ks gs bs=jH cs gs cs.length:=by unfold iL;rw [if_pos hv]
  have hrl:=Ak (cs:=cs) (gs:=gs) (k:=cs.length)
  have hod:od.length=gs.length:=by
   unfold nC at c4
   simp only [Bool.and_eq_true,decide_eq_true_eq] at c4
   omega
  have hrn:(List.length (iL cs os ks gs bs):Int)≤1000:=by rw [er];omega
  refine ⟨by omega,by omega,⟨rfl,rfl⟩,⟨rfl,rfl⟩,⟨rfl,rfl⟩,⟨rfl,rfl⟩,⟨rfl,rfl⟩,⟨rfl,rfl⟩,⟨rfl,rfl⟩,⟨rfl,rfl⟩,⟨rfl,rfl⟩,⟨rfl,rfl⟩,⟨rfl,rfl⟩,⟨rfl,rfl⟩,⟨rfl,rfl⟩,⟨rfl,rfl⟩,⟨rfl,rfl⟩,⟨rfl,rfl⟩,⟨rfl,by simp⟩,⟨rfl,by simp⟩,?_⟩
  have hN:OY (ay cs os ks gs bs al mo od):=by
   refine ⟨rfl,fun o ho=>?_,rfl,rfl,hrn,fun r hr=>?_,hT.al,by show List.length (List.replicate _ _)=List.length (iL cs os ks gs bs);simp⟩
   ·simpa [lm,ay] using ho
   ·have hr:r∈jH cs gs cs.length:=by rw [←er];exact hr
    obtain ⟨m1,m2,m3,m4⟩:=row_mem hr
    refine ⟨by omega,fun m hm=>?_⟩
    have:=m2 m hm
    show 0≤m∧m<16∧m<(al.length:Int)
    omega
  obtain ⟨nr1,nr2⟩:=apA _ hN
  have nr1:lm (ax (ay cs os ks gs bs al mo od))=OL (jH cs gs cs.length):=by rw [nr1,←er];rfl
  have nr2:(ax (ay cs os ks gs bs al mo od)).sums=SM al (jH cs gs cs.length):=by rw [nr2,←er];rfl
  refine ⟨⟨hN,rfl,rfl⟩,by omega,by omega,by omega,by omega,by omega,by omega,by omega,by omega,by omega,by omega,by omega,by omega,by omega,by omega,by omega,by omega,⟨rfl,rfl⟩,⟨rfl,rfl⟩,?_⟩
  have eO:uq (fH cs os ks gs bs al mo od)=lm (ax (ay cs os ks gs bs al mo od)):=by
   unfold uq lm fH
   simp only [List.drop_zero,List.take_length]
  have hSh:ae0 (fH cs os ks gs bs al mo od):=by
   refine ⟨rfl,by show (od.length:Int)≤1000;omega,rfl,?_,?_⟩
   ·show OkT (uq (fH cs os ks gs bs al mo od)) (iL cs os ks gs bs) gs al mo od
    rw [eO,nr1,er]
    exact hT
   ·show OkS (iL cs os ks gs bs) od (ax (ay cs os ks gs bs al mo od)).sums _
    rw [nr2,er]
    exact hS
  have sr:=aoV _ hSh
  have sr:(iW (fH cs os ks gs bs al mo od)).levels=shV (jH cs gs cs.length) gs al mo od:=by
   rw [sr]
   show shl (uq (fH cs os ks gs bs al mo od)) (iL cs os ks gs bs) gs al mo od 81 1 (ax (ay cs os ks gs bs al mo od)).sums _=_
   rw [eO,nr1,nr2,er]
   rfl
  obtain ⟨sl,sb⟩:=agW hT 81 1 _ _ (by omega) (by omega) hS
  refine ⟨⟨hSh,rfl,rfl⟩,by omega,⟨rfl,by simp⟩,⟨rfl,rfl⟩,⟨rfl,rfl⟩,?_⟩
  have hX:aeZ (gB cs os ks gs bs al mo od):=by
   refine ⟨rfl,rfl,⟨rfl,by show (gs.length:Int)≤1000;omega,?_⟩,fun k h0 h1=>?_,?_⟩
   ·show (iW (fH cs os ks gs bs al mo od)).levels.length=gs.length
    rw [sr]
    exact sl.trans (by rw [List.length_replicate];exact c2)
   ·have:=qE hv h0 h1
    unfold GV chW at this
    simp only [Bool.and_eq_true,dV] at this
    show nD (bD gs k).2.2.2.1 (bD gs k).2.2.2.2.1 (bD gs k).2.2.2.2.2.1=true
    exact fZ.2 (by omega)
   ·show ∀k:Nat,0≤(iW (fH cs os ks gs bs al mo od)).levels.getD k 0∧(iW (fH cs os ks gs bs al mo od)).levels.getD k 0≤80
    rw [sr]
    exact sb
  refine ⟨⟨hX,rfl,rfl⟩,by omega,?_⟩
  obtain ⟨s',_,_,x2⟩:=aoU _ hX
  have x2:(iG (gB cs os ks gs bs al mo od)).out=pO gs (iW (fH cs os ks gs bs al mo od)).levels:=x2
  show LV.gQ [LV.xl _ _,_]=_
  rw [List.drop_zero,List.take_length,x2,sr]
  unfold yP shE
  rw [if_pos hok,if_pos hok]
 ·cases h)
end Go.Proofs.YtlihnbimgclogaaGreatDoor
namespace Go.Proofs.YtlihnbimgclogaaGreatDoor
open Go.Sx
structure og where
 m:List Ch
 k:Int
 i:Int
 out:List Int
def aGC (s:og):List LV:=[.os 0 1 0 (List.length s.out),.xl dK s.m,.v (.int .i64 s.k),.v (.int .i64 s.i)]
def aFz (s:og):List aW:=[⟨[],3,.vec (.int .i64) s.out,false⟩]
noncomputable def Dj:Code:=((aB (Tryz.f72.body.getD .skip))[0]?).getD .skip
def abe (s:og):T (Rd og):=
 .br (decide (s.i<s.k)) (.req (0≤s.i∧s.i<(List.length s.m:Int)) (.req (0≤s.i∧s.i<((List.length s.out:Nat):Int)) (.req (s.i.toNat<List.length s.out) (.req (0=0∧(List.length s.out)=List.length (s.out.set s.i.toNat (bD s.m s.i).2.2.2.2.2.2.1)) (.ok (.next {s with i:=(IntKind.i64.wrap (s.i+1)),out:=(s.out.set s.i.toNat (bD s.m s.i).2.2.2.2.2.2.1)})))))) (.rl s.out (.ok (.stop (.exit 0) s)))
abbrev au5 (s:og):=(abe s).rd s
def afn (s:og):Prop:=s.i=0∧s.k=(List.length s.m:Int)∧s.k≤1000∧s.out.length=s.m.length∧(∀j,0≤j→j<s.k→gi s.out j=0)∧True
def OO (s:og):Prop:=(0≤s.i∧s.i≤s.k)∧s.k=(List.length s.m:Int)∧s.k≤1000∧s.out.length=s.m.length∧(∀j,0≤j→j<s.k→gi s.out j=if j<s.i then zD (bD s.m j) else 0)∧True
def QN (s:og):Nat:=(s.k-s.i).toNat
def am0 (x:Ex) (_ s':og):Prop:=x=.exit 0∧s'.out=uU s'.m.length (fun j=>zD (bD s'.m j))
theorem aEf:∀s,afn s→OO s:=by
 intro s h
 obtain ⟨h0,h2,h3,h4,h5,h6⟩:=h
 exact ⟨by omega,h2,h3,h4,fun j j0 j1=>by rw [h5 j j0 j1,if_neg (by omega)],h6⟩
theorem azW (s:og) (hI:OO s):bP (fun s'=>OO s'∧QN s'<QN s) (fun x s'=>am0 x s s') (au5 s):=by
 unfold au5 abe
 dsimp only [T.rd,T.rl]
 obtain ⟨⟨h0,h1⟩,h2,h3,h4,h5,h6⟩:=hI
 refine au (fun c1=>?_) (fun c1=>?_)
 ·have c1:s.i<s.k:=by simpa using c1
  rw [aN (x:=s.i+1) (by omega) (by omega)]
  refine ⟨⟨⟨by simp only;omega,by simp only;omega⟩,h2,h3,by simp only [List.length_set];exact h4,fun j j0 j1=>?_,h6⟩,by simp only [QN];omega⟩
  simp only
  have hi:=h5 s.i h0 c1
  rw [if_neg (show ¬s.i<s.i by omega)] at hi
  rw [nG h0 (by rw [h4];omega) j0]
  by_cases e:j=s.i
  ·subst e
   rw [if_pos rfl,if_pos (show s.i<s.i+1 by omega)]
   rfl
  ·rw [if_neg e,h5 j j0 j1]
   by_cases q:j<s.i
   ·rw [if_pos q,if_pos (show j<s.i+1 by omega)]
   ·rw [if_neg q,if_neg (show ¬j<s.i+1 by omega)]
 ·have c1:s.k≤s.i:=by simpa using c1
  refine ⟨rfl,?_⟩
  refine wX (by rw [dZ];exact h4) fun j j0 j1=>?_
  rw [dZ] at j1
  rw [jE j0 j1,h5 j j0 (by omega),if_pos (show j<s.i by omega)]
def Gw:bQ og:=⟨0,31,[3,17,18,19],[],aGC,aFz,fun v b=>⟨aQ dK (v.getD 1 .junk),gI (v.getD 2 .junk),gI (v.getD 3 .junk),jd (.int .i64) (aO b 0)⟩,abe,fun s r=> {r with m:=s.m,k:=s.k},fun s=>s,fun _ s=>s,[.exit 0],afn,OO,QN⟩
abbrev yg:=Gw.run
abbrev arY:=Gw.jU
abbrev aBi:=Gw.q
theorem axP (s:og) (hI:OO s):(abe s).all (fun _=>True):=by
 refine ⟨fun c1=>⟨?_,?_,?_,?_,trivial⟩,fun c1=>⟨⟨rfl,rfl⟩,trivial⟩⟩
 all_goals ((obtain ⟨⟨h0,h1⟩,h2,h3,h4,h5,h6⟩:=hI;(try simp only [decide_eq_true_eq] at c1);first|omega|exact ⟨rfl,by simp⟩ |(omega)))
noncomputable def akU:Specs:=bf []
theorem at1:∀g S,akU g=some S→Valid Tryz.prog aS g S:=aT (l:=[]) trivial
theorem ajh:Gw.Ok:=⟨fun s=>by kernel_rfl,fun s=>by kernel_rfl,fun s=>rfl,fun s t r=>rfl,fun s=>rfl,fun s=>by kernel_rfl⟩
theorem ah9:Gw.Pf (am0):=⟨aEf,fun _ _=>rfl,azW,axP⟩
theorem aoN:bn Tryz.prog aS (AN 0) (.loop Dj) Gw.lp:=bQ.snd ajh ah9 (aU (Γ:=akU) (K:=fE) (L:=aC) at1 aG Dj (fun b hb=>by rw [show aB Dj=[] by kernel_rfl] at hb;cases hb)) (fun s=>by kernel_rfl)
theorem asj (s:og) (hE:afn s):∃s',OO s'∧am0 (arY s) s' (yg s):=bQ.fin ajh ah9 s hE
def aeK:List LV→T LV
 | [.xq 9 q0]=>(match ([q0 0,q0 1,q0 2,q0 3,q0 4,q0 5,q0 6,q0 7,q0 8]:List LV) with
  | [.xl (.pair .str (.pair (.int .i64) (.pair (.int .i64) (.pair (.int .i64) (.pair (.pair (.int .i64) (.int .i64)) (.pair (.int .i64) (.pair (.int .i64) (.pair (.int .i64) (.pair (.int .i64) (.int .i64)))))))))) _,.xl (.str) _,.xl (.pair .str (.pair (.int .i64) (.pair (.int .i64) (.int .i64)))) _,.xl (.pair .str (.pair (.int .i64) (.pair (.int .i64) (.pair (.int .i64) (.pair (.int .i64) (.pair (.int .i64) (.pair (.int .i64) (.int .i64)))))))) gs,.xl (.pair .str (.int .i64)) _,.xl (.pair (.int .i64) (.pair (.int .i64) (.pair (.int .i64) (.pair (.int .i64) (.int .i64))))) _,.xl (.pair .bool (.pair (.int .i64) (.pair (.int .i64) (.int .i64)))) _,.v (.int .i64 _),.xl (.int .i64) _]=> .req ((List.length gs:Int)≤1000) (.ok (.xl (.int .i64) (nT gs)))
  |_=> .no)
 |_=> .no
noncomputable def aai:List LV→T LV:=gZ Tryz.prog Tryz.f72.params.toList aeK
theorem aqH (cs:List Cd) (os:List ByteArray) (ks:List Ko) (gs:List Ch) (bs:List Ba) (l:List Le) (d:List Dm) (t:Int) (od:List Int):bW Tryz.prog aS (akU) fE (fun i=>if i=3 then Gw.lp else aC i) Tryz.f72 [.xq 9 (fun j=>([.xl eu cs,.xl .str os,.xl eG ks,.xl dK gs,.xl eP bs,.xl iV l,.xl tJ d,.v (.int .i64 t),.xl (.int .i64) od]:List LV).getD j .junk)]=.req (0≤(List.length gs:Int)∧(List.length gs:Int)≤(List.length gs:Int)∧8*(List.length gs:Int)≤2^48∧(List.length gs:Int)<2^63) (.req (0=0∧(List.length gs:Int).toNat=List.length (List.replicate (List.length gs:Int).toNat (0:Int))) (.req (aBi (⟨gs,(List.length gs:Int),(0:Int),(List.replicate (List.length gs:Int).toNat (0:Int))⟩:og)) (.req (0+(List.length (yg (⟨gs,(List.length gs:Int),(0:Int),(List.replicate (List.length gs:Int).toNat (0:Int))⟩:og)).out)≤List.length (yg (⟨gs,(List.length gs:Int),(0:Int),(List.replicate (List.length gs:Int).toNat (0:Int))⟩:og)).out) (.ok (.xl (.int .i64) (((yg (⟨gs,(List.length gs:Int),(0:Int),(List.replicate (List.length gs:Int).toNat (0:Int))⟩:og)).out.drop 0).take (List.length (yg (⟨gs,(List.length gs:Int),(0:Int),(List.replicate (List.length gs:Int).toNat (0:Int))⟩:og)).out))))))):=by kernel_rfl
theorem awl:Valid Tryz.prog aS 72 aai:=aI Tryz.func72 rfl at1 aG (L:=(fun i=>if i=3 then Gw.lp else aC i)) (fun b hb=>by
 rw [show aB _=[Dj] by kernel_rfl] at hb
 simp only [List.mem_cons,List.not_mem_nil,or_false] at hb
 subst hb
 exact aoN) (fun args lv h=>by
 unfold aeK at h
 split at h
 ·split at h
  case h_2=>cases h
  rename_i heq0
  simp only [canL,canX]
  rw [pM (n:=9) heq0]
  simp only [canL,canX]
  rw [aqH]
  rename_i cs os ks gs bs l d t od
  obtain ⟨hn,rfl⟩:=h
  have hE:afn ⟨gs,(List.length gs:Int),0,List.replicate (List.length gs:Int).toNat 0⟩:=⟨rfl,rfl,hn,by simp,fun j _ _=>vk,trivial⟩
  obtain ⟨_,_,q1,q2⟩:=asj _ hE
  have q2:(yg ⟨gs,(List.length gs:Int),0,List.replicate (List.length gs:Int).toNat 0⟩).out=nT gs:=q2
  refine ⟨by omega,⟨rfl,by simp⟩,⟨hE,rfl,rfl⟩,by omega,?_⟩
  show LV.xl _ _=_
  rw [List.drop_zero,List.take_length,q2]
 ·cases h)
structure mD where
 cs:List Cd
 os:List ByteArray
 ks:List Ko
 gs:List Ch
 bs:List Ba
 l:List Le
 d:List Dm
 t:Int
 od:List Int
 m:List Ch
 k:Int
 i:Int
 wanted:List Int
def aGx (s:mD):List LV:=[.xq 9 (fun j=>([.xl eu s.cs,.xl .str s.os,.xl eG s.ks,.xl dK s.gs,.xl eP s.bs,.xl iV s.l,.xl tJ s.d,.v (.int .i64 s.t),.xl (.int .i64) s.od]:List LV).getD j .junk),.os 0 1 0 (List.length s.wanted),.xl dK s.m,.v (.int .i64 s.k),.v (.int .i64 s.i)]
def aFu (s:mD):List aW:=[⟨[],3,.vec (.int .i64) s.wanted,false⟩]
noncomputable def Df:Code:=((aB (Tryz.f71.body.getD .skip))[0]?).getD .skip
def aa8 (s:mD):T (Rd mD):=
 .br (decide (s.i<s.k)) (.req (0≤s.i∧s.i<(List.length s.m:Int)) (.req (0≤s.i∧s.i<(List.length s.d:Int)) (.br (uy s.d s.i).1 (.req (0≤s.i∧s.i<((List.length s.wanted:Nat):Int)) (.req (s.i.toNat<List.length s.wanted) (.req (0=0∧(List.length s.wanted)=List.length (s.wanted.set s.i.toNat (bD s.m s.i).2.2.2.2.1)) (.ok (.next {s with i:=(IntKind.i64.wrap (s.i+1)),wanted:=(s.wanted.set s.i.toNat (bD s.m s.i).2.2.2.2.1)}))))) (.rl s.wanted (.ok (.next {s with i:=(IntKind.i64.wrap (s.i+1))})))))) (.rl s.wanted (.ok (.stop (.exit 0) s)))
abbrev au2 (s:mD):=(aa8 s).rd s
def afj (s:mD):Prop:=s.i=0∧s.k=(List.length s.m:Int)∧s.k≤1000∧s.wanted.length=s.m.length∧(∀j,0≤j→j<s.k→gi s.wanted j=0)∧s.d.length=s.m.length
def OI (s:mD):Prop:=(0≤s.i∧s.i≤s.k)∧s.k=(List.length s.m:Int)∧s.k≤1000∧s.wanted.length=s.m.length∧(∀j,0≤j→j<s.k→gi s.wanted j=if j<s.i then if (uy s.d j).1=true then (bD s.m j).2.2.2.2.1 else 0 else 0)∧s.d.length=s.m.length
def I9 (s:mD):Nat:=(s.k-s.i).toNat
def amX (x:Ex) (_ s':mD):Prop:=x=.exit 0∧s'.wanted=uU s'.m.length (fun j=>if (uy s'.d j).1=true then (bD s'.m j).2.2.2.2.1 else 0)
theorem aD9:∀s,afj s→OI s:=by
 intro s h
 obtain ⟨h0,h2,h3,h4,h5,h6⟩:=h
 exact ⟨by omega,h2,h3,h4,fun j j0 j1=>by rw [h5 j j0 j1,if_neg (by omega)],h6⟩
theorem azJ (s:mD) (hI:OI s):bP (fun s'=>OI s'∧I9 s'<I9 s) (fun x s'=>amX x s s') (au2 s):=by
 unfold au2 aa8
 dsimp only [T.rd,T.rl]
 obtain ⟨⟨h0,h1⟩,h2,h3,h4,h5,h6⟩:=hI
 refine au (fun c1=>?_) (fun c1=>?_)
 ·refine au (fun c2=>?_) (fun c2=>?_)
  ·have c1:s.i<s.k:=by simpa using c1
   rw [aN (x:=s.i+1) (by omega) (by omega)]
   refine ⟨⟨⟨by simp only;omega,by simp only;omega⟩,h2,h3,by simp only [List.length_set];exact h4,fun j j0 j1=>?_,h6⟩,by simp only [I9];omega⟩
   simp only
   have hi:=h5 s.i h0 c1
   rw [if_neg (show ¬s.i<s.i by omega)] at hi
   rw [nG h0 (by rw [h4];omega) j0]
   by_cases e:j=s.i
   ·subst e
    rw [if_pos rfl,if_pos (show s.i<s.i+1 by omega)]
    first|(rw [if_pos (by simpa using c2)]) |(rw [if_neg (by simpa using c2)])
   ·rw [if_neg e,h5 j j0 j1]
    by_cases q:j<s.i
    ·rw [if_pos q,if_pos (show j<s.i+1 by omega)]
    ·rw [if_neg q,if_neg (show ¬j<s.i+1 by omega)]
  ·have c1:s.i<s.k:=by simpa using c1
   rw [aN (x:=s.i+1) (by omega) (by omega)]
   refine ⟨⟨⟨by simp only;omega,by simp only;omega⟩,h2,h3,h4,fun j j0 j1=>?_,h6⟩,by simp only [I9];omega⟩
   simp only
   have hi:=h5 s.i h0 c1
   rw [if_neg (show ¬s.i<s.i by omega)] at hi
   rw [h5 j j0 j1]
   by_cases e:j=s.i
   ·subst e
    rw [if_neg (show ¬s.i<s.i by omega),if_pos (show s.i<s.i+1 by omega)]
    first|(rw [if_pos (by simpa using c2)]) |(rw [if_neg (by simpa using c2)])
   ·by_cases q:j<s.i
    ·rw [if_pos q,if_pos (show j<s.i+1 by omega)]
    ·rw [if_neg q,if_neg (show ¬j<s.i+1 by omega)]
 ·have c1:s.k≤s.i:=by simpa using c1
  refine ⟨rfl,?_⟩
  refine wX (by rw [dZ];exact h4) fun j j0 j1=>?_
  rw [dZ] at j1
  rw [jE j0 j1,h5 j j0 (by omega),if_pos (show j<s.i by omega)]
def Gt:bQ mD:=⟨0,53,[0,4,18,19,20],[],aGx,aFu,fun v b=>⟨aQ eu (lW (v.getD 0 .junk) 0),aQ .str (lW (v.getD 0 .junk) 1),aQ eG (lW (v.getD 0 .junk) 2),aQ dK (lW (v.getD 0 .junk) 3),aQ eP (lW (v.getD 0 .junk) 4),aQ iV (lW (v.getD 0 .junk) 5),aQ tJ (lW (v.getD 0 .junk) 6),gI (lW (v.getD 0 .junk) 7),aQ (.int .i64) (lW (v.getD 0 .junk) 8),aQ dK (v.getD 2 .junk),gI (v.getD 3 .junk),gI (v.getD 4 .junk),jd (.int .i64) (aO b 0)⟩,aa8,fun s r=> {r with cs:=s.cs,os:=s.os,ks:=s.ks,gs:=s.gs,bs:=s.bs,l:=s.l,d:=s.d,t:=s.t,od:=s.od,m:=s.m,k:=s.k},fun s=>s,fun _ s=>s,[.exit 0],afj,OI,I9⟩
abbrev rP:=Gt.run
abbrev arV:=Gt.jU
abbrev aBd:=Gt.q
theorem axK (s:mD) (hI:OI s):(aa8 s).all (fun _=>True):=by
 refine ⟨fun c1=>⟨?_,?_,fun c2=>⟨?_,?_,?_,trivial⟩,fun c2=>⟨⟨rfl,rfl⟩,trivial⟩⟩,fun c1=>⟨⟨rfl,rfl⟩,trivial⟩⟩
 all_goals ((obtain ⟨⟨h0,h1⟩,h2,h3,h4,h5,h6⟩:=hI;(try simp only [decide_eq_true_eq] at c1);first|omega|exact ⟨rfl,by simp⟩ |(omega)))
noncomputable def akT:Specs:=bf [(52,JZ),(72,aai)]
theorem atZ:∀g S,akT g=some S→Valid Tryz.prog aS g S:=aT (l:=[(52,JZ),(72,aai)]) ⟨agy,awl,trivial⟩
theorem ajd:Gt.Ok:=⟨fun s=>by kernel_rfl,fun s=>by kernel_rfl,fun s=>rfl,fun s t r=>rfl,fun s=>rfl,fun s=>by kernel_rfl⟩
theorem ah5:Gt.Pf (amX):=⟨aD9,fun _ _=>rfl,azJ,axK⟩
theorem aoI:bn Tryz.prog aS (AN 0) (.loop Df) Gt.lp:=bQ.snd ajd ah5 (aU (Γ:=akT) (K:=fE) (L:=aC) atZ aG Df (fun b hb=>by rw [show aB Df=[] by kernel_rfl] at hb;cases hb)) (fun s=>by kernel_rfl)
theorem ar9 (s:mD) (hE:afj s):∃s',OI s'∧amX (arV s) s' (rP s):=bQ.fin ajd ah5 s hE
def aeG:List LV→T LV
 | [.xq 9 q0]=>(match ([q0 0,q0 1,q0 2,q0 3,q0 4,q0 5,q0 6,q0 7,q0 8]:List LV) with
  | [.xl (.pair .str (.pair (.int .i64) (.pair (.int .i64) (.pair (.int .i64) (.pair (.pair (.int .i64) (.int .i64)) (.pair (.int .i64) (.pair (.int .i64) (.pair (.int .i64) (.pair (.int .i64) (.int .i64)))))))))) cs,.xl (.str) os,.xl (.pair .str (.pair (.int .i64) (.pair (.int .i64) (.int .i64)))) ks,.xl (.pair .str (.pair (.int .i64) (.pair (.int .i64) (.pair (.int .i64) (.pair (.int .i64) (.pair (.int .i64) (.pair (.int .i64) (.int .i64)))))))) gs,.xl (.pair .str (.int .i64)) bs,.xl (.pair (.int .i64) (.pair (.int .i64) (.pair (.int .i64) (.pair (.int .i64) (.int .i64))))) _,.xl (.pair .bool (.pair (.int .i64) (.pair (.int .i64) (.int .i64)))) d,.v (.int .i64 _),.xl (.int .i64) od]=> .req ((List.length gs:Int)≤1000∧d.length=gs.length) (.ok (.gQ [.xl (.int .i64) (yP cs os ks gs bs (nT gs) (qh gs d) od),.v (.int .i64 (shE cs os ks gs bs (nT gs) (qh gs d) od))]))
  |_=> .no)
 |_=> .no
noncomputable def aaf:List LV→T LV:=gZ Tryz.prog Tryz.f71.params.toList aeG
theorem aqD (cs:List Cd) (os:List ByteArray) (ks:List Ko) (gs:List Ch) (bs:List Ba) (l:List Le) (d:List Dm) (t:Int) (od:List Int):bW Tryz.prog aS (akT) fE (fun i=>if i=3 then Gt.lp else aC i) Tryz.f71 [.xq 9 (fun j=>([.xl eu cs,.xl .str os,.xl eG ks,.xl dK gs,.xl eP bs,.xl iV l,.xl tJ d,.v (.int .i64 t),.xl (.int .i64) od]:List LV).getD j .junk)]=.req (0≤(List.length gs:Int)∧(List.length gs:Int)≤(List.length gs:Int)∧8*(List.length gs:Int)≤2^48∧(List.length gs:Int)<2^63) (.req (0=0∧(List.length gs:Int).toNat=List.length (List.replicate (List.length gs:Int).toNat (0:Int))) (.req (aBd (⟨cs,os,ks,gs,bs,l,d,t,od,gs,(List.length gs:Int),(0:Int),(List.replicate (List.length gs:Int).toNat (0:Int))⟩:mD)) (.req ((List.length gs:Int)≤1000) (.req (0+(List.length (rP (⟨cs,os,ks,gs,bs,l,d,t,od,gs,(List.length gs:Int),(0:Int),(List.replicate (List.length gs:Int).toNat (0:Int))⟩:mD)).wanted)≤List.length (rP (⟨cs,os,ks,gs,bs,l,d,t,od,gs,(List.length gs:Int),(0:Int),(List.replicate (List.length gs:Int).toNat (0:Int))⟩:mD)).wanted) (.ok (.gQ [.xl (.int .i64) (yP cs os ks gs bs (nT gs) (((rP (⟨cs,os,ks,gs,bs,l,d,t,od,gs,(List.length gs:Int),(0:Int),(List.replicate (List.length gs:Int).toNat (0:Int))⟩:mD)).wanted.drop 0).take (List.length (rP (⟨cs,os,ks,gs,bs,l,d,t,od,gs,(List.length gs:Int),(0:Int),(List.replicate (List.length gs:Int).toNat (0:Int))⟩:mD)).wanted)) od),.v (.int .i64 (shE cs os ks gs bs (nT gs) (((rP (⟨cs,os,ks,gs,bs,l,d,t,od,gs,(List.length gs:Int),(0:Int),(List.replicate (List.length gs:Int).toNat (0:Int))⟩:mD)).wanted.drop 0).take (List.length (rP (⟨cs,os,ks,gs,bs,l,d,t,od,gs,(List.length gs:Int),(0:Int),(List.replicate (List.length gs:Int).toNat (0:Int))⟩:mD)).wanted)) od))])))))):=by kernel_rfl
theorem awi:Valid Tryz.prog aS 71 aaf:=aI Tryz.func71 rfl atZ aG (L:=(fun i=>if i=3 then Gt.lp else aC i)) (fun b hb=>by
 rw [show aB _=[Df] by kernel_rfl] at hb
 simp only [List.mem_cons,List.not_mem_nil,or_false] at hb
 subst hb
 exact aoI) (fun args lv h=>by
 unfold aeG at h
 split at h
 ·split at h
  case h_2=>cases h
  rename_i heq0
  simp only [canL,canX]
  rw [pM (n:=9) heq0]
  simp only [canL,canX]
  rw [aqD]
  rename_i cs os ks gs bs l d t od
  obtain ⟨⟨hn,hd⟩,rfl⟩:=h
  have hE:afj ⟨cs,os,ks,gs,bs,l,d,t,od,gs,(List.length gs:Int),0,List.replicate (List.length gs:Int).toNat 0⟩:=⟨rfl,rfl,hn,by simp,fun j _ _=>vk,hd⟩
  obtain ⟨_,_,q1,q2⟩:=ar9 _ hE
  have q2:(rP ⟨cs,os,ks,gs,bs,l,d,t,od,gs,(List.length gs:Int),0,List.replicate (List.length gs:Int).toNat 0⟩).wanted=qh gs d:=q2
  refine ⟨by omega,⟨rfl,by simp⟩,⟨hE,rfl,rfl⟩,hn,by omega,?_⟩
  show LV.gQ [LV.xl _ _,_]=_
  rw [List.drop_zero,List.take_length,q2]
 ·cases h)
structure kU where
 m:List Ch
 k:Int
 i:Int
 out:List Int
def aGA (s:kU):List LV:=[.os 0 1 0 (List.length s.out),.xl dK s.m,.v (.int .i64 s.k),.v (.int .i64 s.i)]
def aFx (s:kU):List aW:=[⟨[],3,.vec (.int .i64) s.out,false⟩]
noncomputable def VY:Code:=((aB (Tryz.f72.body.getD .skip))[0]?).getD .skip
def abb (s:kU):T (Rd kU):=
 .br (decide (s.i<s.k)) (.req (0≤s.i∧s.i<(List.length s.m:Int)) (.req (0≤s.i∧s.i<((List.length s.out:Nat):Int)) (.req (s.i.toNat<List.length s.out) (.req (0=0∧(List.length s.out)=List.length (s.out.set s.i.toNat (bD s.m s.i).2.2.2.2.2.2.1)) (.ok (.next {s with i:=(IntKind.i64.wrap (s.i+1)),out:=(s.out.set s.i.toNat (bD s.m s.i).2.2.2.2.2.2.1)})))))) (.rl s.out (.ok (.stop (.exit 0) s)))
abbrev au4 (s:kU):=(abb s).rd s
def afm (s:kU):Prop:=s.i=0∧s.k=(List.length s.m:Int)∧s.k≤1000∧s.out.length=s.m.length∧(∀j,0≤j→j<s.k→gi s.out j=0)∧True
def OM (s:kU):Prop:=(0≤s.i∧s.i≤s.k)∧s.k=(List.length s.m:Int)∧s.k≤1000∧s.out.length=s.m.length∧(∀j,0≤j→j<s.k→gi s.out j=if j<s.i then zD (bD s.m j) else 0)∧True
def QM (s:kU):Nat:=(s.k-s.i).toNat
def amZ (x:Ex) (_ s':kU):Prop:=x=.exit 0∧s'.out=uU s'.m.length (fun j=>zD (bD s'.m j))
theorem aEc:∀s,afm s→OM s:=by
 intro s h
 obtain ⟨h0,h2,h3,h4,h5,h6⟩:=h
 exact ⟨by omega,h2,h3,h4,fun j j0 j1=>by rw [h5 j j0 j1,if_neg (by omega)],h6⟩
theorem azM (s:kU) (hI:OM s):bP (fun s'=>OM s'∧QM s'<QM s) (fun x s'=>amZ x s s') (au4 s):=by
 unfold au4 abb
 dsimp only [T.rd,T.rl]
 obtain ⟨⟨h0,h1⟩,h2,h3,h4,h5,h6⟩:=hI
 refine au (fun c1=>?_) (fun c1=>?_)
 ·have c1:s.i<s.k:=by simpa using c1
  rw [aN (x:=s.i+1) (by omega) (by omega)]
  refine ⟨⟨⟨by simp only;omega,by simp only;omega⟩,h2,h3,by simp only [List.length_set];exact h4,fun j j0 j1=>?_,h6⟩,by simp only [QM];omega⟩
  simp only
  have hi:=h5 s.i h0 c1
  rw [if_neg (show ¬s.i<s.i by omega)] at hi
  rw [nG h0 (by rw [h4];omega) j0]
  by_cases e:j=s.i
  ·subst e
   rw [if_pos rfl,if_pos (show s.i<s.i+1 by omega)]
   rfl
  ·rw [if_neg e,h5 j j0 j1]
   by_cases q:j<s.i
   ·rw [if_pos q,if_pos (show j<s.i+1 by omega)]
   ·rw [if_neg q,if_neg (show ¬j<s.i+1 by omega)]
 ·have c1:s.k≤s.i:=by simpa using c1
  refine ⟨rfl,?_⟩
  refine wX (by rw [dZ];exact h4) fun j j0 j1=>?_
  rw [dZ] at j1
  rw [jE j0 j1,h5 j j0 (by omega),if_pos (show j<s.i by omega)]
def Lj:bQ kU:=⟨0,31,[3,17,18,19],[],aGA,aFx,fun v b=>⟨aQ dK (v.getD 1 .junk),gI (v.getD 2 .junk),gI (v.getD 3 .junk),jd (.int .i64) (aO b 0)⟩,abb,fun s r=> {r with m:=s.m,k:=s.k},fun s=>s,fun _ s=>s,[.exit 0],afm,OM,QM⟩
abbrev lH:=Lj.run
abbrev arX:=Lj.jU
abbrev aBg:=Lj.q
noncomputable def AZ:Specs:=bf [(52,JZ),(66,Kv),(71,aaf)]
theorem EO:∀g S,AZ g=some S→Valid Tryz.prog aS g S:=aT (l:=[(52,JZ),(66,Kv),(71,aaf)]) ⟨agy,agK,awi,trivial⟩
noncomputable def akr:Hand:=inl Tryz.prog aS AZ (kH Tryz.prog aS (AZ) 20 2) 9
theorem atz:cZ Tryz.prog aS akr:=bM EO (dI EO) 9
theorem axN (s:kU) (hI:OM s):(abb s).all (fun _=>True):=by
 refine ⟨fun c1=>⟨?_,?_,?_,?_,trivial⟩,fun c1=>⟨⟨rfl,rfl⟩,trivial⟩⟩
 all_goals ((obtain ⟨⟨h0,h1⟩,h2,h3,h4,h5,h6⟩:=hI;(try simp only [decide_eq_true_eq] at c1);first|omega|exact ⟨rfl,by simp⟩ |(omega)))
theorem ajg:Lj.Ok:=⟨fun s=>by kernel_rfl,fun s=>by kernel_rfl,fun s=>rfl,fun s t r=>rfl,fun s=>rfl,fun s=>by kernel_rfl⟩
theorem ah8:Lj.Pf (amZ):=⟨aEc,fun _ _=>rfl,azM,axN⟩
theorem aoL:bn Tryz.prog aS (AN 0) (.loop VY) Lj.lp:=bQ.snd ajg ah8 (bF (Γ:=AZ) (K:=akr) (L:=(sO Tryz.prog aS AZ akr 20 2)) EO atz VY (fun b _=>dN EO atz 20 2 b)) (fun s=>by kernel_rfl)
theorem asc (s:kU) (hE:afm s):∃s',OM s'∧amZ (arX s) s' (lH s):=bQ.fin ajg ah8 s hE
structure mF where
 cs:List Cd
 os:List ByteArray
 ks:List Ko
 gs:List Ch
 bs:List Ba
 l:List Le
 d:List Dm
 t:Int
 od:List Int
 targets:List Int
 m:List Int
 k:Int
 i:Int
 alive:List Int
def aGy (s:mF):List LV:=[.xq 9 (fun j=>([.xl eu s.cs,.xl .str s.os,.xl eG s.ks,.xl dK s.gs,.xl eP s.bs,.xl iV s.l,.xl tJ s.d,.v (.int .i64 s.t),.xl (.int .i64) s.od]:List LV).getD j .junk),.xl (.int .i64) s.targets,.os 0 1 0 (List.length s.alive),.xl (.int .i64) s.m,.v (.int .i64 s.k),.v (.int .i64 s.i)]
def aFv (s:mF):List aW:=[⟨[],3,.vec (.int .i64) s.alive,false⟩]
noncomputable def Dh:Code:=((aB (Tryz.f36.body.getD .skip))[0]?).getD .skip
def aa9 (s:mF):T (Rd mF):=
 .br (decide (s.i<s.k)) (.req (0≤s.i∧s.i<(List.length s.m:Int)) (.req (0≤s.i∧s.i<((List.length s.alive:Nat):Int)) (.req (s.i.toNat<List.length s.alive) (.req (0≤s.i∧s.i<((List.length s.alive:Nat):Int)) (.req (s.i.toNat<List.length s.alive) (.req (0=0∧(List.length s.alive)=List.length (s.alive.set s.i.toNat (if (s.alive.getD s.i.toNat (Ty.dflt (.int .i64)))<(gi s.m s.i) then (gi s.m s.i) else (s.alive.getD s.i.toNat (Ty.dflt (.int .i64)))))) (.ok (.next {s with i:=(IntKind.i64.wrap (s.i+1)),alive:=(s.alive.set s.i.toNat (if (s.alive.getD s.i.toNat (Ty.dflt (.int .i64)))<(gi s.m s.i) then (gi s.m s.i) else (s.alive.getD s.i.toNat (Ty.dflt (.int .i64)))))})))))))) (.rl s.alive (.ok (.stop (.exit 0) s)))
abbrev au3 (s:mF):=(aa9 s).rd s
def afk (s:mF):Prop:=s.i=0∧s.k=(List.length s.m:Int)∧s.k≤1000∧s.alive.length=s.m.length∧(∀j,0≤j→j<s.k→gi s.alive j=zD (bD s.gs j))∧True
def OJ (s:mF):Prop:=(0≤s.i∧s.i≤s.k)∧s.k=(List.length s.m:Int)∧s.k≤1000∧s.alive.length=s.m.length∧(∀j,0≤j→j<s.k→gi s.alive j=if j<s.i then mx (zD (bD s.gs j)) (gi s.m j) else zD (bD s.gs j))∧True
def QK (s:mF):Nat:=(s.k-s.i).toNat
def amY (x:Ex) (_ s':mF):Prop:=x=.exit 0∧s'.alive=uU s'.m.length (fun j=>mx (zD (bD s'.gs j)) (gi s'.m j))
theorem aEa:∀s,afk s→OJ s:=by
 intro s h
 obtain ⟨h0,h2,h3,h4,h5,h6⟩:=h
 exact ⟨by omega,h2,h3,h4,fun j j0 j1=>by rw [h5 j j0 j1,if_neg (by omega)],h6⟩
theorem azK (s:mF) (hI:OJ s):bP (fun s'=>OJ s'∧QK s'<QK s) (fun x s'=>amY x s s') (au3 s):=by
 unfold au3 aa9
 dsimp only [T.rd,T.rl]
 obtain ⟨⟨h0,h1⟩,h2,h3,h4,h5,h6⟩:=hI
 refine au (fun c1=>?_) (fun c1=>?_)
 ·have c1:s.i<s.k:=by simpa using c1
  rw [aN (x:=s.i+1) (by omega) (by omega)]
  refine ⟨⟨⟨by simp only;omega,by simp only;omega⟩,h2,h3,by simp only [List.length_set];exact h4,fun j j0 j1=>?_,h6⟩,by simp only [QK];omega⟩
  simp only
  have hi:=h5 s.i h0 c1
  rw [if_neg (show ¬s.i<s.i by omega)] at hi
  rw [nG h0 (by rw [h4];omega) j0]
  by_cases e:j=s.i
  ·subst e
   rw [if_pos rfl,if_pos (show s.i<s.i+1 by omega)]
   show mx (gi s.alive s.i) (gi s.m s.i)=_
   rw [hi]
  ·rw [if_neg e,h5 j j0 j1]
   by_cases q:j<s.i
   ·rw [if_pos q,if_pos (show j<s.i+1 by omega)]
   ·rw [if_neg q,if_neg (show ¬j<s.i+1 by omega)]
 ·have c1:s.k≤s.i:=by simpa using c1
  refine ⟨rfl,?_⟩
  refine wX (by rw [dZ];exact h4) fun j j0 j1=>?_
  rw [dZ] at j1
  rw [jE j0 j1,h5 j j0 (by omega),if_pos (show j<s.i by omega)]
def Gu:bQ mF:=⟨0,71,[0,4,7,41,42,43],[],aGy,aFv,fun v b=>⟨aQ eu (lW (v.getD 0 .junk) 0),aQ .str (lW (v.getD 0 .junk) 1),aQ eG (lW (v.getD 0 .junk) 2),aQ dK (lW (v.getD 0 .junk) 3),aQ eP (lW (v.getD 0 .junk) 4),aQ iV (lW (v.getD 0 .junk) 5),aQ tJ (lW (v.getD 0 .junk) 6),gI (lW (v.getD 0 .junk) 7),aQ (.int .i64) (lW (v.getD 0 .junk) 8),aQ (.int .i64) (v.getD 1 .junk),aQ (.int .i64) (v.getD 3 .junk),gI (v.getD 4 .junk),gI (v.getD 5 .junk),jd (.int .i64) (aO b 0)⟩,aa9,fun s r=> {r with cs:=s.cs,os:=s.os,ks:=s.ks,gs:=s.gs,bs:=s.bs,l:=s.l,d:=s.d,t:=s.t,od:=s.od,targets:=s.targets,m:=s.m,k:=s.k},fun s=>s,fun _ s=>s,[.exit 0],afk,OJ,QK⟩
abbrev rQ:=Gu.run
abbrev arW:=Gu.jU
abbrev aBe:=Gu.q
theorem axL (s:mF) (hI:OJ s):(aa9 s).all (fun _=>True):=by
 refine ⟨fun c1=>⟨?_,?_,?_,?_,?_,?_,trivial⟩,fun c1=>⟨⟨rfl,rfl⟩,trivial⟩⟩
 all_goals ((obtain ⟨⟨h0,h1⟩,h2,h3,h4,h5,h6⟩:=hI;(try simp only [decide_eq_true_eq] at c1);first|omega|exact ⟨rfl,by simp⟩ |(omega)))
noncomputable def akq:Hand:=inl Tryz.prog aS AZ (jX 72 0 3 (Lj.lp) (kH Tryz.prog aS (AZ) 20 2)) 9
theorem aty:cZ Tryz.prog aS akq:=bM EO (dF Tryz.func72 rfl (by kernel_rfl) aoL (dI EO)) 9
theorem aje:Gu.Ok:=⟨fun s=>by kernel_rfl,fun s=>by kernel_rfl,fun s=>rfl,fun s t r=>rfl,fun s=>rfl,fun s=>by kernel_rfl⟩
theorem ah6:Gu.Pf (amY):=⟨aEa,fun _ _=>rfl,azK,axL⟩
theorem aoJ:bn Tryz.prog aS (AN 0) (.loop Dh) Gu.lp:=bQ.snd aje ah6 (aU (Γ:=AZ) (K:=akq) (L:=aC) EO aty Dh (fun b hb=>by rw [show aB Dh=[] by kernel_rfl] at hb;cases hb)) (fun s=>by kernel_rfl)
theorem asa (s:mF) (hE:afk s):∃s',OJ s'∧amY (arW s) s' (rQ s):=bQ.fin aje ah6 s hE
def aeH:List LV→T LV
 | [.xq 9 q0]=>(match ([q0 0,q0 1,q0 2,q0 3,q0 4,q0 5,q0 6,q0 7,q0 8]:List LV) with
  | [.xl (.pair .str (.pair (.int .i64) (.pair (.int .i64) (.pair (.int .i64) (.pair (.pair (.int .i64) (.int .i64)) (.pair (.int .i64) (.pair (.int .i64) (.pair (.int .i64) (.pair (.int .i64) (.int .i64)))))))))) cs,.xl (.str) os,.xl (.pair .str (.pair (.int .i64) (.pair (.int .i64) (.int .i64)))) ks,.xl (.pair .str (.pair (.int .i64) (.pair (.int .i64) (.pair (.int .i64) (.pair (.int .i64) (.pair (.int .i64) (.pair (.int .i64) (.int .i64)))))))) gs,.xl (.pair .str (.int .i64)) bs,.xl (.pair (.int .i64) (.pair (.int .i64) (.pair (.int .i64) (.pair (.int .i64) (.int .i64))))) l,.xl (.pair .bool (.pair (.int .i64) (.pair (.int .i64) (.int .i64)))) d,.v (.int .i64 t),.xl (.int .i64) od]=> .req (d.length=gs.length∧sQ cs os ks gs bs (nT gs) (qh gs d) od=true∧qR l (List.length gs:Int) t=true∧sQ cs os ks gs bs (kW gs l t) (yP cs os ks gs bs (nT gs) (qh gs d) od) od=true) (.ok (.gQ [.xl (.int .i64) (PU cs os ks gs bs l d t od),.v (.int .i64 0)]))
  |_=> .no)
 |_=> .no
noncomputable def aag:List LV→T LV:=gZ Tryz.prog Tryz.f36.params.toList aeH
theorem aqE (cs:List Cd) (os:List ByteArray) (ks:List Ko) (gs:List Ch) (bs:List Ba) (l:List Le) (d:List Dm) (t:Int) (od:List Int):bW Tryz.prog aS (AZ) akq (fun i=>if i=9 then Gu.lp else aC i) Tryz.f36 [.xq 9 (fun j=>([.xl eu cs,.xl .str os,.xl eG ks,.xl dK gs,.xl eP bs,.xl iV l,.xl tJ d,.v (.int .i64 t),.xl (.int .i64) od]:List LV).getD j .junk)]=.req ((List.length gs:Int)≤1000∧d.length=gs.length) (.br ((shE cs os ks gs bs (nT gs) (qh gs d) od) !=0) (.ok (.gQ [.xl (.int .i64) ([]:List Int),.v (.int .i64 (shE cs os ks gs bs (nT gs) (qh gs d) od))])) (.br ((JU l (List.length gs:Int) t) !=0) (.ok (.gQ [.xl (.int .i64) ([]:List Int),.v (.int .i64 (JU l (List.length gs:Int) t))])) (.req (0≤(List.length gs:Int)∧(List.length gs:Int)≤(List.length gs:Int)∧8*(List.length gs:Int)≤2^48∧(List.length gs:Int)<2^63) (.req (0=0∧(List.length gs:Int).toNat=List.length (List.replicate (List.length gs:Int).toNat (0:Int))) (.req (aBg (⟨gs,(List.length gs:Int),(0:Int),(List.replicate (List.length gs:Int).toNat (0:Int))⟩:kU)) (.rl (lH (⟨gs,(List.length gs:Int),(0:Int),(List.replicate (List.length gs:Int).toNat (0:Int))⟩:kU)).out (.req (aBe (⟨cs,os,ks,gs,bs,l,d,t,od,(yP cs os ks gs bs (nT gs) (qh gs d) od),(iH l (List.length gs:Int) t),(List.length (iH l (List.length gs:Int) t):Int),(0:Int),(lH (⟨gs,(List.length gs:Int),(0:Int),(List.replicate (List.length gs:Int).toNat (0:Int))⟩:kU)).out⟩:mF)) (.req (0+(List.length (rQ (⟨cs,os,ks,gs,bs,l,d,t,od,(yP cs os ks gs bs (nT gs) (qh gs d) od),(iH l (List.length gs:Int) t),(List.length (iH l (List.length gs:Int) t):Int),(0:Int),(lH (⟨gs,(List.length gs:Int),(0:Int),(List.replicate (List.length gs:Int).toNat (0:Int))⟩:kU)).out⟩:mF)).alive)≤List.length (rQ (⟨cs,os,ks,gs,bs,l,d,t,od,(yP cs os ks gs bs (nT gs) (qh gs d) od),(iH l (List.length gs:Int) t),(List.length (iH l (List.length gs:Int) t):Int),(0:Int),(lH (⟨gs,(List.length gs:Int),(0:Int),(List.replicate (List.length gs:Int).toNat (0:Int))⟩:kU)).out⟩:mF)).alive) (.ok (.gQ [.xl (.int .i64) (yP cs os ks gs bs (((rQ (⟨cs,os,ks,gs,bs,l,d,t,od,(yP cs os ks gs bs (nT gs) (qh gs d) od),(iH l (List.length gs:Int) t),(List.length (iH l (List.length gs:Int) t):Int),(0:Int),(lH (⟨gs,(List.length gs:Int),(0:Int),(List.replicate (List.length gs:Int).toNat (0:Int))⟩:kU)).out⟩:mF)).alive.drop 0).take (List.length (rQ (⟨cs,os,ks,gs,bs,l,d,t,od,(yP cs os ks gs bs (nT gs) (qh gs d) od),(iH l (List.length gs:Int) t),(List.length (iH l (List.length gs:Int) t):Int),(0:Int),(lH (⟨gs,(List.length gs:Int),(0:Int),(List.replicate (List.length gs:Int).toNat (0:Int))⟩:kU)).out⟩:mF)).alive)) (yP cs os ks gs bs (nT gs) (qh gs d) od) od),.v (.int .i64 (shE cs os ks gs bs (((rQ (⟨cs,os,ks,gs,bs,l,d,t,od,(yP cs os ks gs bs (nT gs) (qh gs d) od),(iH l (List.length gs:Int) t),(List.length (iH l (List.length gs:Int) t):Int),(0:Int),(lH (⟨gs,(List.length gs:Int),(0:Int),(List.replicate (List.length gs:Int).toNat (0:Int))⟩:kU)).out⟩:mF)).alive.drop 0).take (List.length (rQ (⟨cs,os,ks,gs,bs,l,d,t,od,(yP cs os ks gs bs (nT gs) (qh gs d) od),(iH l (List.length gs:Int) t),(List.length (iH l (List.length gs:Int) t):Int),(0:Int),(lH (⟨gs,(List.length gs:Int),(0:Int),(List.replicate (List.length gs:Int).toNat (0:Int))⟩:kU)).out⟩:mF)).alive)) (yP cs os ks gs bs (nT gs) (qh gs d) od) od))])))))))))):=by kernel_rfl
theorem awj:Valid Tryz.prog aS 36 aag:=aI Tryz.func36 rfl EO aty (L:=(fun i=>if i=9 then Gu.lp else aC i)) (fun b hb=>by
 rw [show aB _=[Dh] by kernel_rfl] at hb
 simp only [List.mem_cons,List.not_mem_nil,or_false] at hb
 subst hb
 exact aoJ) (fun args lv h=>by
 unfold aeH at h
 split at h
 ·split at h
  case h_2=>cases h
  rename_i heq0
  simp only [canL,canX]
  rw [pM (n:=9) heq0]
  simp only [canL,canX]
  rw [aqE]
  rename_i cs os ks gs bs l d t od
  obtain ⟨⟨hd,hk,hv,hk2⟩,rfl⟩:=h
  have gl:=(fG.1 (jG.1 hk).1).1.2.2.2.2.1
  have ea:iH l (List.length gs:Int) t=vJ gs.length l t:=by unfold iH;rw [if_pos hv,Int.toNat_natCast]
  rw [as3 hk,show JU l (List.length gs:Int) t=0 by unfold JU;rw [if_pos hv]]
  refine ⟨⟨by omega,hd⟩,fun c=>absurd c (by decide),fun _=>⟨fun c=>absurd c (by decide),fun _=>?_⟩⟩
  have hE:afm ⟨gs,(List.length gs:Int),0,List.replicate (List.length gs:Int).toNat 0⟩:=⟨rfl,rfl,by simp only;omega,by simp,fun j _ _=>vk,trivial⟩
  obtain ⟨_,_,q1,q2⟩:=asc _ hE
  have q2:(lH ⟨gs,(List.length gs:Int),0,List.replicate (List.length gs:Int).toNat 0⟩).out=nT gs:=q2
  have hE2:afk ⟨cs,os,ks,gs,bs,l,d,t,od,yP cs os ks gs bs (nT gs) (qh gs d) od,iH l (List.length gs:Int) t,(List.length (iH l (List.length gs:Int) t):Int),0,(lH ⟨gs,(List.length gs:Int),0,List.replicate (List.length gs:Int).toNat 0⟩).out⟩:=⟨rfl,rfl,by simp only;rw [ea,xA];omega,by simp only;rw [q2,ea,xA];exact dZ,fun j j0 j1=>by
   simp only at j1⊢
   rw [ea,xA] at j1
   rw [q2]
   exact jE j0 j1,trivial⟩
  obtain ⟨_,_,q3,q4⟩:=asa _ hE2
  have q4:(rQ ⟨cs,os,ks,gs,bs,l,d,t,od,yP cs os ks gs bs (nT gs) (qh gs d) od,iH l (List.length gs:Int) t,(List.length (iH l (List.length gs:Int) t):Int),0,(lH ⟨gs,(List.length gs:Int),0,List.replicate (List.length gs:Int).toNat 0⟩).out⟩).alive=kW gs l t:=q4.trans (by
   show uU (iH l (List.length gs:Int) t).length (fun j=>mx (zD (bD gs j)) (gi (iH l (List.length gs:Int) t) j))=_
   rw [ea,xA]
   rfl)
  refine ⟨by omega,⟨rfl,by simp⟩,⟨hE,rfl,rfl⟩,⟨rfl,rfl⟩,⟨hE2,rfl,rfl⟩,by omega,?_⟩
  show LV.gQ [LV.xl _ _,_]=_
  rw [List.drop_zero,List.take_length,q4,as3 hk2]
  rfl
 ·cases h)
end Go.Proofs.YtlihnbimgclogaaGreatDoor
namespace Go.Proofs.YtlihnbimgclogaaGreatDoor
open Go.Sx
noncomputable def ahe:Array Tmp×Code×Code:=((ja (Tryz.f38.body.getD .skip))[0]?).getD (#[],.skip,.skip)
noncomputable def aCn:Array Tmp:=ahe.1
noncomputable def aCI:Code:=ahe.2.1
noncomputable def aCC:Code:=ahe.2.2
structure nN where
 i:Int
 cs:List Cd
 os:List ByteArray
 ks:List Ko
 gs:List Ch
 bs:List Ba
 l:List Le
 d:List Dm
 t:Int
 od:List Int
 c:Int
 a:Int
 r:Bool
 m:List Le
 st:LS
def aGz (s:nN):List LV:=[.tN 5,.own 4 0,.v (.int .i64 s.i)]
noncomputable def aFw (s:nN):List aW:=[⟨[.xq 9 (fun j=>([.xl eu s.cs,.xl .str s.os,.xl eG s.ks,.xl dK s.gs,.xl eP s.bs,.xl iV s.l,.xl tJ s.d,.v (.int .i64 s.t),.xl (.int .i64) s.od]:List LV).getD j .junk)],73,.cl,false⟩,⟨[.v (.int .i64 s.c)],3,.cl,false⟩,⟨[.v (.int .i64 s.a)],3,.cl,false⟩,⟨[.v (.bool s.r)],4,.cl,false⟩,⟨[.xl iV s.m],29,.cl,false⟩,⟨[.junk,.junk,.junk,.own 0 0,.own 1 0,.own 2 0,.own 3 0,.junk,.v (.tuple #[]),.junk,.junk,.junk,.junk,.junk,.junk,.junk,.junk,.junk,.junk,.junk,.junk,.junk,.junk,.junk,.junk,.junk,.v (.tuple #[]),.v (.tuple #[]),.v (.tuple #[]),.v (.tuple #[]),.v (.tuple #[]),.v (.tuple #[]),.v (.tuple #[]),.v (.tuple #[]),.v (.tuple #[]),.v (.tuple #[]),.v (.tuple #[]),.v (.tuple #[]),.v (.tuple #[]),.v (.tuple #[]),.v (.tuple #[]),.v (.tuple #[]),.v (.tuple #[]),.v (.tuple #[]),.v (.tuple #[])],0,.jZ aCn aCI aCC s.st,false⟩]
noncomputable def VX:Code:=((aB (Tryz.f115.body.getD .skip))[0]?).getD .skip
def Uj (s:nN):T (Rd nN):=
 .br (decide (s.i≥0)) (.req (0≤s.i∧s.i<(List.length s.m:Int)) (.br ((gU s.m s.i).2.1==s.c) (.ok (.stop (.ret) {s with r:=(((gU s.m s.i).2.2.1 !=s.a) ||(decide ((gU s.m s.i).2.2.2.1≤(IntKind.i64.wrap (s.t-6))))),st:=(.done (.ret))})) (.ok (.next {s with i:=(IntKind.i64.wrap (s.i-1))})))) (.ok (.stop (.exit 0) s))
abbrev ac1 (s:nN):=(Uj s).rd s
def afl (s:nN):Prop:=s.st=.ready∧s.i=(List.length s.m:Int)-1∧(List.length s.m:Int)≤1000∧0≤s.t∧s.t≤1000000
def WW (s:nN):Prop:=s.st=.ready∧(-1≤s.i∧s.i<(List.length s.m:Int))∧(List.length s.m:Int)≤1000∧0≤s.t∧s.t≤1000000
def QL (s:nN):Nat:=(s.i+1).toNat
def avt (_:Ex) (_ _:nN):Prop:=True
theorem aEb:∀s,afl s→WW s:=by
 intro s h
 obtain ⟨h0,h1,h2⟩:=h
 exact ⟨h0,by omega,h2⟩
theorem azL (s:nN) (hI:WW s):bP (fun s'=>WW s'∧QL s'<QL s) (fun x s'=>avt x s s') (ac1 s):=by
 unfold ac1 Uj
 dsimp only [T.rd,T.rl]
 obtain ⟨hs,⟨h0,h1⟩,h2⟩:=hI
 refine au (fun c1=>au (fun c2=>trivial) (fun c2=>?_)) (fun c1=>trivial)
 have c1:0≤s.i:=by simpa using c1
 rw [aN (x:=s.i-1) (by omega) (by omega)]
 exact ⟨⟨hs,⟨by simp only;omega,by simp only;omega⟩,h2⟩,by simp only [QL];omega⟩
noncomputable def Lh:bQ nN:=⟨6,19,[0,1,3],[],aGz,aFw,fun v b=>⟨gI (v.getD 2 .junk),aQ eu (lW (aV (aO b 0) 0) 0),aQ .str (lW (aV (aO b 0) 0) 1),aQ eG (lW (aV (aO b 0) 0) 2),aQ dK (lW (aV (aO b 0) 0) 3),aQ eP (lW (aV (aO b 0) 0) 4),aQ iV (lW (aV (aO b 0) 0) 5),aQ tJ (lW (aV (aO b 0) 0) 6),gI (lW (aV (aO b 0) 0) 7),aQ (.int .i64) (lW (aV (aO b 0) 0) 8),gI (aV (aO b 1) 0),gI (aV (aO b 2) 0),yF (aV (aO b 3) 0),aQ iV (aV (aO b 4) 0),.ready⟩,Uj,fun s r=> {r with cs:=s.cs,os:=s.os,ks:=s.ks,gs:=s.gs,bs:=s.bs,l:=s.l,d:=s.d,t:=s.t,od:=s.od,c:=s.c,a:=s.a,m:=s.m},fun s=> {s with st:=.ready},fun x s=> {s with st:=(match x with| .ret=>(.done (.ret)) | .exit 0=> .ready|_=> .ready)},[.ret,.exit 0],afl,WW,QL⟩
noncomputable abbrev abE:=Lh.run
noncomputable abbrev adu:=Lh.jU
abbrev aBf:=Lh.q
noncomputable def ET:Specs:=bf []
theorem Jr:∀g S,ET g=some S→Valid Tryz.prog aS g S:=aT (l:=[]) trivial
noncomputable def akp:Hand:=inl Tryz.prog aS ET (kH Tryz.prog aS (ET) 20 2) 9
theorem atx:cZ Tryz.prog aS akp:=bM Jr (dI Jr) 9
theorem axM (s:nN) (hI:WW s):(Uj s).all (fun _=>True):=by
 refine ⟨fun c1=>⟨?_,fun _=>trivial,fun _=>trivial⟩,fun _=>trivial⟩
 ·(obtain ⟨hs,⟨h0,h1⟩,h2⟩:=hI;simp only [decide_eq_true_eq] at c1;omega)
theorem ajf:Lh.Ok:=⟨fun s=>by kernel_rfl,fun s=>by kernel_rfl,fun s=>rfl,fun s t r=>rfl,fun s=>rfl,fun s=>by kernel_rfl⟩
theorem ah7:Lh.Pf (avt):=⟨aEb,fun s h=>by
 obtain ⟨i,cs,os,ks,gs,bs,l,d,t,od,c,a,r,m,st⟩:=s
 have e:st=.ready:=h.1
 subst e
 rfl,azL,axM⟩
theorem aoK:bn Tryz.prog aS (AN 6) (.loop VX) Lh.lp:=bQ.snd ajf ah7 (bF (Γ:=ET) (K:=akp) (L:=(sO Tryz.prog aS ET akp 20 2)) Jr atx VX (fun b _=>dN Jr atx 20 2 b)) (fun s=>by kernel_rfl)
theorem asb (s:nN) (hE:afl s):(fun (x:Ex) (s':nN) (v:Bool)=>(x=.ret∧s'.r=v)∨(x=.exit 0∧v=true)) (adu s) (abE s) ((fun s:nN=>nwO s.a s.t ((s.m.take (s.i+1).toNat).reverse.find? (fun x=>x.2.1==s.c))) s):=by
 exact bQ.ul ajf ah7 (fun s:nN=>nwO s.a s.t ((s.m.take (s.i+1).toNat).reverse.find? (fun x=>x.2.1==s.c))) (fun x s' v=>(x=.ret∧s'.r=v)∨(x=.exit 0∧v=true)) (fun s hI=>by
  show bP _ _ (ac1 s)
  unfold ac1 Uj
  dsimp only [T.rd,T.rl]
  obtain ⟨hs,⟨h0,h1⟩,h2⟩:=hI
  refine au (fun c1=>?_) (fun c1=>?_)
  ·have c1:0≤s.i:=by simpa using c1
   have e:=(wZ c1 (show s.i<(List.length s.m:Int) by omega)).2
   refine au (fun c2=> .inl ⟨rfl,?_⟩) (fun c2=>?_)
   ·rw [e,List.reverse_append]
    show _=nwO s.a s.t (List.find? _ (gU s.m s.i::_))
    rw [List.find?_cons_of_pos (by exact c2)]
    simp only [nwO]
    rw [aN (x:=s.t-6) (by omega) (by omega)]
   ·show nwO _ _ _=nwO _ _ _
    simp only
    rw [aN (x:=s.i-1) (by omega) (by omega),e,List.reverse_append]
    show _=nwO s.a s.t (List.find? _ (gU s.m s.i::_))
    rw [List.find?_cons_of_neg (by rw [c2];decide),show (s.i-1+1).toNat=s.i.toNat by omega]
    rfl
  ·have c1:s.i<0:=by simpa using c1
   refine .inr ⟨rfl,?_⟩
   rw [show (s.i+1).toNat=0 by omega]
   rfl) s hE
def aeI:List LV→T LV
 | [.xq 9 q0,.v (.int .i64 i),.v (.int .i64 a)]=>(match ([q0 0,q0 1,q0 2,q0 3,q0 4,q0 5,q0 6,q0 7,q0 8]:List LV) with
  | [.xl (.pair .str (.pair (.int .i64) (.pair (.int .i64) (.pair (.int .i64) (.pair (.pair (.int .i64) (.int .i64)) (.pair (.int .i64) (.pair (.int .i64) (.pair (.int .i64) (.pair (.int .i64) (.int .i64)))))))))) _,.xl (.str) _,.xl (.pair .str (.pair (.int .i64) (.pair (.int .i64) (.int .i64)))) _,.xl (.pair .str (.pair (.int .i64) (.pair (.int .i64) (.pair (.int .i64) (.pair (.int .i64) (.pair (.int .i64) (.pair (.int .i64) (.int .i64)))))))) gs,.xl (.pair .str (.int .i64)) _,.xl (.pair (.int .i64) (.pair (.int .i64) (.pair (.int .i64) (.pair (.int .i64) (.int .i64))))) l,.xl (.pair .bool (.pair (.int .i64) (.pair (.int .i64) (.int .i64)))) _,.v (.int .i64 t),.xl (.int .i64) _]=> .req ((0≤i∧i<(List.length gs:Int))∧(List.length l:Int)≤1000∧0≤t∧t≤1000000) (.ok (.v (.bool (nwB gs l t i a))))
  |_=> .no)
 |_=> .no
noncomputable def aah:List LV→T LV:=gZ Tryz.prog Tryz.f38.params.toList aeI
noncomputable def atK:Hand:=inl Tryz.prog aS ET (jX 115 6 1 (Lh.lp) (kH Tryz.prog aS (ET) 20 2)) 9
theorem aDl:cZ Tryz.prog aS atK:=bM Jr (dF Tryz.func115 rfl (by kernel_rfl) aoK (dI Jr)) 9
theorem aqF (cs:List Cd) (os:List ByteArray) (ks:List Ko) (gs:List Ch) (bs:List Ba) (l:List Le) (d:List Dm) (t:Int) (od:List Int) (i a:Int):bW Tryz.prog aS (ET) atK aC Tryz.f38 [.xq 9 (fun j=>([.xl eu cs,.xl .str os,.xl eG ks,.xl dK gs,.xl eP bs,.xl iV l,.xl tJ d,.v (.int .i64 t),.xl (.int .i64) od]:List LV).getD j .junk),.v (.int .i64 i),.v (.int .i64 a)]=.req (0≤i∧i<(List.length gs:Int)) (.br (decide (a≤(bD gs i).2.2.2.2.2.2.1)) (.ok (.v (.bool false))) (.req (aBf (⟨(IntKind.i64.wrap ((List.length l:Int)-1)),cs,os,ks,gs,bs,l,d,t,od,i,a,false,l,.ready⟩:nN)) (.br (iE (adu (⟨(IntKind.i64.wrap ((List.length l:Int)-1)),cs,os,ks,gs,bs,l,d,t,od,i,a,false,l,.ready⟩:nN)) (.ret)) (.ok (.v (.bool (abE (⟨(IntKind.i64.wrap ((List.length l:Int)-1)),cs,os,ks,gs,bs,l,d,t,od,i,a,false,l,.ready⟩:nN)).r))) (.ok (.v (.bool true)))))):=by kernel_rfl
theorem awk:Valid Tryz.prog aS 38 aah:=aI Tryz.func38 rfl Jr aDl (aY (by kernel_rfl)) (fun args lv h=>by
 unfold aeI at h
 split at h
 ·split at h
  case h_2=>cases h
  rename_i heq0
  simp only [canL,canX]
  rw [pM (n:=9) heq0]
  simp only [canL,canX]
  rw [aqF]
  rename_i i a _ cs os ks gs bs l d t od
  obtain ⟨⟨hi,hl,ht⟩,rfl⟩:=h
  refine ⟨hi,fun c=>congrArg (fun z=>LV.v (.bool z)) ?_,fun c=>?_⟩
  ·have c:a≤zD (bD gs i):=of_decide_eq_true c
   unfold nwB
   rw [decide_eq_true c]
   rfl
  have c:¬a≤zD (bD gs i):=of_decide_eq_false c
  have hE:afl ⟨IntKind.i64.wrap ((List.length l:Int)-1),cs,os,ks,gs,bs,l,d,t,od,i,a,false,l,.ready⟩:=⟨rfl,by show IntKind.i64.wrap ((List.length l:Int)-1)=_;rw [aN (by omega) (by omega)],hl,ht⟩
  have ev:nwB gs l t i a=nwO a t ((l.take (IntKind.i64.wrap ((List.length l:Int)-1)+1).toNat).reverse.find? (fun x=>x.2.1==i)):=by
   unfold nwB
   rw [decide_eq_false c,aN (x:=(List.length l:Int)-1) (by omega) (by omega),show ((List.length l:Int)-1+1).toNat=l.length by omega,List.take_length]
   rfl
  refine ⟨⟨hE,rfl,rfl⟩,?_⟩
  rcases asb _ hE with ⟨q1,q2⟩ |⟨q1,q2⟩<;>rw [q1]
  ·exact ⟨fun _=>congrArg (fun z=>LV.v (.bool z)) (q2.trans ev.symm),fun h=>by cases h⟩
  ·exact ⟨fun h=>(by cases h),fun _=>congrArg (fun z=>LV.v (.bool z)) (q2.symm.trans ev.symm)⟩
 ·cases h)
end Go.Proofs.YtlihnbimgclogaaGreatDoor
namespace Go.Proofs.YtlihnbimgclogaaGreatDoor
open Go.Sx
def Wx:List LV→T LV
 | [.v (.int .i64 _)]=> .ok (.v (.bool false))
 |_=> .no
noncomputable def SN:List LV→T LV:=gZ Tryz.prog Tryz.f85.params.toList Wx
noncomputable def Vl:Specs:=bf []
theorem aco:∀g S,Vl g=some S→Valid Tryz.prog aS g S:=aT (l:=[]) trivial
theorem ajC (x:Int):bW Tryz.prog aS (Vl) fE aC Tryz.f85 [.v (.int .i64 x)]=.ok (.v (.bool (x !=x))):=by kernel_rfl
theorem anH:Valid Tryz.prog aS 85 SN:=aI Tryz.func85 rfl aco aG (aY (by kernel_rfl)) (fun args lv h=>by
 unfold Wx at h
 split at h
 ·simp only [canL,canX]
  rw [ajC]
  obtain rfl:=h
  exact congrArg (fun z=>LV.v (.bool z)) (by simp)
 ·cases h)
def aeM:List LV→T LV
 | [.v (.int .i64 x),.v (.int .i64 y)]=> .ok (.v (.int .i64 (cm x y)))
 |_=> .no
noncomputable def aak:List LV→T LV:=gZ Tryz.prog Tryz.f47.params.toList aeM
noncomputable def aus:Specs:=bf [(85,SN)]
theorem aDL:∀g S,aus g=some S→Valid Tryz.prog aS g S:=aT (l:=[(85,SN)]) ⟨anH,trivial⟩
theorem aqJ (x y:Int):bW Tryz.prog aS (aus) fE aC Tryz.f47 [.v (.int .i64 x),.v (.int .i64 y)]=.br false (.br false (.ok (.v (.int .i64 0))) (.ok (.v (.int .i64 (-1))))) (.br false (.ok (.v (.int .i64 1))) (.br (decide (x<y)) (.ok (.v (.int .i64 (-1)))) (.br (decide (x>y)) (.ok (.v (.int .i64 1))) (.ok (.v (.int .i64 0)))))):=by kernel_rfl
theorem awn:Valid Tryz.prog aS 47 aak:=aI Tryz.func47 rfl aDL aG (aY (by kernel_rfl)) (fun args lv h=>by
 unfold aeM at h
 split at h
 ·simp only [canL,canX]
  rw [aqJ]
  obtain rfl:=h
  unfold cm
  refine ⟨fun h=>(by cases h),fun _=>⟨fun h=>(by cases h),fun _=>⟨fun c=>?_,fun c=>⟨fun c2=>?_,fun c2=>?_⟩⟩⟩⟩<;>refine congrArg (fun z=>LV.v (.int .i64 z)) ?_
  ·rw [if_pos (by simpa using c)]
  ·rw [if_neg (by simpa using c),if_pos (by simpa using c2)]
  ·rw [if_neg (by simpa using c),if_neg (by simpa using c2)]
 ·cases h)
structure nO where
 r:Int
 z:Int
 l:List Int
 n:Int
 i:Int
def aGD (s:nO):List LV:=[.v (.int .i64 s.r),.v (.int .i64 s.z),.xl (.int .i64) s.l,.v (.int .i64 s.n),.v (.int .i64 s.i)]
def aFA (_:nO):List aW:=[]
noncomputable def Dk:Code:=((aB (Tryz.f46.body.getD .skip))[0]?).getD .skip
def Uk (s:nO):T (Rd nO):=
 .br (decide (s.i<s.n)) (.req (0≤s.i∧s.i<(List.length s.l:Int)) (.br ((gi s.l s.i) !=s.z) (.ok (.stop (.ret) {s with r:=(gi s.l s.i)})) (.ok (.next {s with i:=(IntKind.i64.wrap (s.i+1))})))) (.ok (.stop (.exit 0) s))
abbrev ac2 (s:nO):=(Uk s).rd s
def afo (s:nO):Prop:=s.i=0∧s.n=(List.length s.l:Int)∧s.n≤1000∧s.z=0
def WX (s:nO):Prop:=(0≤s.i∧s.i≤s.n)∧s.n=(List.length s.l:Int)∧s.n≤1000∧s.z=0
def QO (s:nO):Nat:=(s.n-s.i).toNat
def avu (_:Ex) (_ _:nO):Prop:=True
theorem aEg:∀s,afo s→WX s:=by
 intro s h
 obtain ⟨h0,h2,h3,h4⟩:=h
 exact ⟨by omega,h2,h3,h4⟩
theorem azX (s:nO) (hI:WX s):bP (fun s'=>WX s'∧QO s'<QO s) (fun x s'=>avu x s s') (ac2 s):=by
 unfold ac2 Uk
 dsimp only [T.rd,T.rl]
 obtain ⟨⟨h0,h1⟩,h2,h3,h4⟩:=hI
 refine au (fun c1=>?_) (fun c1=>?_)
 ·refine au (fun c2=>?_) (fun c2=>?_)
  ·exact trivial
  ·have c1:s.i<s.n:=by simpa using c1
   rw [aN (x:=s.i+1) (by omega) (by omega)]
   exact ⟨⟨⟨by simp only;omega,by simp only;omega⟩,h2,h3,h4⟩,by simp only [QO];omega⟩
 ·exact trivial
def Gx:bQ nO:=⟨0,18,[2,3,6,7,8],[],aGD,aFA,fun v _=>⟨gI (v.getD 0 .junk),gI (v.getD 1 .junk),aQ (.int .i64) (v.getD 2 .junk),gI (v.getD 3 .junk),gI (v.getD 4 .junk)⟩,Uk,fun s r=> {r with z:=s.z,l:=s.l,n:=s.n},fun s=>s,fun _ s=>s,[.ret,.exit 0],afo,WX,QO⟩
abbrev abG:=Gx.run
abbrev adv:=Gx.jU
abbrev aBj:=Gx.q
theorem axQ (s:nO) (hI:WX s):(Uk s).all (fun _=>True):=by
 refine ⟨fun c1=>⟨?_,fun _=>trivial,fun _=>trivial⟩,fun _=>trivial⟩
 ·(obtain ⟨⟨h0,h1⟩,h2,h3⟩:=hI;simp only [decide_eq_true_eq] at c1;omega)
theorem aji:Gx.Ok:=⟨fun s=>by kernel_rfl,fun s=>by kernel_rfl,fun s=>rfl,fun s t r=>rfl,fun s=>rfl,fun s=>by kernel_rfl⟩
theorem aia:Gx.Pf (avu):=⟨aEg,fun _ _=>rfl,azX,axQ⟩
theorem aoO:bn Tryz.prog aS (AN 0) (.loop Dk) Gx.lp:=bQ.snd aji aia (aU (Γ:=Vl) (K:=fE) (L:=aC) aco aG Dk (fun b hb=>by rw [show aB Dk=[] by kernel_rfl] at hb;cases hb)) (fun s=>by kernel_rfl)
theorem asl (s:nO) (hE:afo s):(fun (x:Ex) (s':nO) (v:Int)=>(x=.ret∧s'.r=v)∨(x=.exit 0∧s'.z=v)) (adv s) (abG s) ((fun s:nO=>orI (s.l.drop s.i.toNat)) s):=by
 exact bQ.ul aji aia (fun s:nO=>orI (s.l.drop s.i.toNat)) (fun x s' v=>(x=.ret∧s'.r=v)∨(x=.exit 0∧s'.z=v)) (fun s hI=>by
  show bP _ _ (ac2 s)
  unfold ac2 Uk
  dsimp only [T.rd,T.rl]
  obtain ⟨⟨h0,h1⟩,h2,h3,h4⟩:=hI
  refine au (fun c1=>?_) (fun c1=>?_)
  ·have c1:s.i<s.n:=by simpa using c1
   have e:s.l.drop s.i.toNat=gi s.l s.i::s.l.drop (s.i+1).toNat:=(gi_step h0 (show s.i<(List.length s.l:Int) by omega)).1
   rw [aN (x:=s.i+1) (by omega) (by omega)]
   refine au (fun c2=>?_) (fun c2=>?_)
   ·refine .inl ⟨rfl,?_⟩
    simp only
    rw [e,orI,if_pos (by rw [h4] at c2;exact c2)]
   ·show orI _=orI _
    simp only
    rw [e,orI,if_neg (by rw [h4] at c2;rw [c2];simp)]
  ·have c1:s.n≤s.i:=by simpa using c1
   refine .inr ⟨rfl,?_⟩
   rw [List.drop_eq_nil_of_le (by omega),h4]
   rfl) s hE
def aeN:List LV→T LV
 | [.xl (.int .i64) l]=> .req ((List.length l:Int)≤1000) (.ok (.v (.int .i64 (orI l))))
 |_=> .no
noncomputable def aal:List LV→T LV:=gZ Tryz.prog Tryz.f46.params.toList aeN
theorem aqK (l:List Int):bW Tryz.prog aS (Vl) fE (fun i=>if i=3 then Gx.lp else aC i) Tryz.f46 [.xl (.int .i64) l]=.req (aBj (⟨(0:Int),(0:Int),l,(List.length l:Int),(0:Int)⟩:nO)) (.br (iE (adv (⟨(0:Int),(0:Int),l,(List.length l:Int),(0:Int)⟩:nO)) (.ret)) (.ok (.v (.int .i64 (abG (⟨(0:Int),(0:Int),l,(List.length l:Int),(0:Int)⟩:nO)).r))) (.ok (.v (.int .i64 (0:Int))))):=by kernel_rfl
theorem awo:Valid Tryz.prog aS 46 aal:=aI Tryz.func46 rfl aco aG (L:=(fun i=>if i=3 then Gx.lp else aC i)) (fun b hb=>by
 rw [show aB _=[Dk] by kernel_rfl] at hb
 simp only [List.mem_cons,List.not_mem_nil,or_false] at hb
 subst hb
 exact aoO) (fun args lv h=>by
 unfold aeN at h
 split at h
 ·simp only [canL,canX]
  rw [aqK]
  rename_i l
  obtain ⟨hl,rfl⟩:=h
  have hE:afo ⟨0,0,l,(List.length l:Int),0⟩:=⟨rfl,rfl,hl,rfl⟩
  refine ⟨⟨hE,rfl,rfl⟩,?_⟩
  rcases asl _ hE with ⟨q1,q2⟩ |⟨q1,q2⟩<;>rw [q1]
  ·exact ⟨fun _=>congrArg (fun z=>LV.v (.int .i64 z)) q2,fun h=>by cases h⟩
  ·exact ⟨fun h=>(by cases h),fun _=>congrArg (fun z=>LV.v (.int .i64 z)) q2⟩
 ·cases h)
def adY:List LV→T LV
 | [.v (.int .i64 i),.xq 1 q0,.xq 1 q1]=>(match ([q0 0]:List LV) with
  | [.xl (.pair .bool (.pair (.int .i64) (.pair (.int .i64) (.int .i64)))) d]=>(match ([q1 0]:List LV) with
  | [.v (.int .i64 t)]=> .req (yS d t∧0≤i∧i<(List.length d:Int)) (.ok (.v (.int .i64 (slk d t i))))
  |_=> .no)
  |_=> .no)
 |_=> .no
noncomputable def zN:List LV→T LV:=gZ Tryz.prog Tryz.f43.params.toList adY
theorem apX (i:Int) (d:List Dm) (t:Int):bW Tryz.prog aS (Vl) fE aC Tryz.f43 [.v (.int .i64 i),.xq 1 (fun j=>([.xl tJ d]:List LV).getD j .junk),.xq 1 (fun j=>([.v (.int .i64 t)]:List LV).getD j .junk)]=.req (0≤i∧i<(List.length d:Int)) (.req (0≤i∧i<(List.length d:Int)) (.ok (.v (.int .i64 (IntKind.i64.wrap ((IntKind.i64.wrap ((uy d i).2.2.1-t))-(uy d i).2.1)))))):=by kernel_rfl
theorem Xy:Valid Tryz.prog aS 43 zN:=aI Tryz.func43 rfl aco aG (aY (by kernel_rfl)) (fun args lv h=>by
 unfold adY at h
 split at h
 ·split at h
  case h_2=>cases h
  rename_i heq0
  split at h
  case h_2=>cases h
  rename_i heq1
  simp only [canL,canX]
  rw [pM (n:=1) heq0]
  simp only [canL,canX]
  rw [pM (n:=1) heq1]
  simp only [canL,canX]
  rw [apX]
  rename_i i _ _ _ d _ t
  obtain ⟨⟨hw,hi⟩,rfl⟩:=h
  have b:=avC hw hi.1 hi.2
  have ht:=hw.2
  refine ⟨hi,hi,congrArg (fun z=>LV.v (.int .i64 z)) ?_⟩
  unfold slk
  rw [aN (x:=(uy d i).2.2.1-t) (by omega) (by omega),aN (by omega) (by omega)]
 ·cases h)
def amh:List LV→T LV
 | [.v (.int .i64 a),.v (.int .i64 b),.xq 1 q0,.xq 1 q1]=>(match ([q0 0]:List LV) with
  | [.xl (.pair .bool (.pair (.int .i64) (.pair (.int .i64) (.int .i64)))) d]=>(match ([q1 0]:List LV) with
  | [.fn 43 [.xq 1 q2,.xq 1 q3]]=>(match ([q2 0]:List LV) with
  | [.xl (.pair .bool (.pair (.int .i64) (.pair (.int .i64) (.int .i64)))) e]=>(match ([q3 0]:List LV) with
  | [.v (.int .i64 t)]=> .req (d=e∧yS d t∧(0≤a∧a<(List.length d:Int))∧0≤b∧b<(List.length d:Int)) (.ok (.v (.int .i64 (cmD d t a b))))
  |_=> .no)
  |_=> .no)
  |_=> .no)
  |_=> .no)
 |_=> .no
noncomputable def Wp:List LV→T LV:=gZ Tryz.prog Tryz.f45.params.toList amh
noncomputable def aur:Specs:=bf [(43,zN),(46,aal),(47,aak)]
theorem aDK:∀g S,aur g=some S→Valid Tryz.prog aS g S:=aT (l:=[(43,zN),(46,aal),(47,aak)]) ⟨Xy,awo,awn,trivial⟩
theorem ayH (a b:Int) (d e:List Dm) (t:Int):bW Tryz.prog aS (aur) fE aC Tryz.f45 [.v (.int .i64 a),.v (.int .i64 b),.xq 1 (fun j=>([.xl tJ d]:List LV).getD j .junk),.xq 1 (fun j=>([.fn 43 [.xq 1 (fun j=>([.xl tJ e]:List LV).getD j .junk),.xq 1 (fun j=>([.v (.int .i64 t)]:List LV).getD j .junk)]]:List LV).getD j .junk)]=.req (0≤a∧a<(List.length d:Int)) (.req (0≤b∧b<(List.length d:Int)) (.req (yS e t∧0≤a∧a<(List.length e:Int)) (.req (yS e t∧0≤b∧b<(List.length e:Int)) (.req ((List.length ([(cm (uy d a).2.2.2 (uy d b).2.2.2),(cm (slk e t a) (slk e t b)),(cm a b)]):Int)≤1000) (.ok (.v (.int .i64 (orI ([(cm (uy d a).2.2.2 (uy d b).2.2.2),(cm (slk e t a) (slk e t b)),(cm a b)]))))))))):=by kernel_rfl
theorem asU:Valid Tryz.prog aS 45 Wp:=aI Tryz.func45 rfl aDK aG (aY (by kernel_rfl)) (fun args lv h=>by
 unfold amh at h
 split at h
 ·split at h
  case h_2=>cases h
  rename_i heq0
  split at h
  case h_2=>cases h
  rename_i heq1
  split at h
  case h_2=>cases h
  rename_i heq2
  split at h
  case h_2=>cases h
  rename_i heq3
  simp only [canL,canX]
  rw [pM (n:=1) heq0]
  simp only [canL,canX]
  rw [pM (n:=1) heq1]
  simp only [canL,canX]
  rw [pM (n:=1) heq2]
  simp only [canL,canX]
  rw [pM (n:=1) heq3]
  simp only [canL,canX]
  rw [ayH]
  rename_i a b _ d _ _ _ _ e _ t
  obtain ⟨⟨rfl,hw,ha,hb⟩,rfl⟩:=h
  exact ⟨ha,hb,⟨hw,ha⟩,⟨hw,hb⟩,by simp,rfl⟩
 ·cases h)
structure ru where
 n:Int
 i:Int
 d:List Dm
 tick:Int
 out:List Int
def aF6 (s:ru):List LV:=[.own 0 0,.own 1 0,.os 2 1 0 (List.length s.out),.v (.int .i64 s.n),.v (.int .i64 s.i)]
def aE3 (s:ru):List aW:=[⟨[.xl tJ s.d],31,.cl,false⟩,⟨[.v (.int .i64 s.tick)],3,.cl,false⟩,⟨[],3,.vec (.int .i64) s.out,false⟩]
noncomputable def Cf:Code:=((aB (Tryz.f19.body.getD .skip))[0]?).getD .skip
def aaV (s:ru):T (Rd ru):=
 .br (decide (s.i<s.n)) (.req (0≤s.i∧s.i<((List.length s.out:Nat):Int)) (.req (s.i.toNat<List.length s.out) (.req (0=0∧(List.length s.out)=List.length (s.out.set s.i.toNat s.i)) (.ok (.next {s with i:=(IntKind.i64.wrap (s.i+1)),out:=(s.out.set s.i.toNat s.i)}))))) (.rl s.out (.ok (.stop (.exit 0) s)))
abbrev auP (s:ru):=(aaV s).rd s
def ae3 (s:ru):Prop:=s.i=0∧s.out=List.replicate s.d.length 0∧s.n=(List.length s.d:Int)∧s.n≤1000∧s.out.length=s.d.length
def Oh (s:ru):Prop:=(0≤s.i∧s.i≤s.n)∧s.out=zq s.i.toNat++List.replicate (s.d.length-s.i.toNat) 0∧s.n=(List.length s.d:Int)∧s.n≤1000∧s.out.length=s.d.length
def Qn (s:ru):Nat:=(s.n-s.i).toNat
def amz (x:Ex) (_ s':ru):Prop:=x=.exit 0∧s'.out=zq s'.d.length
theorem aCR:∀s,ae3 s→Oh s:=by
 intro s h
 obtain ⟨h0,h1,h2⟩:=h
 exact ⟨by omega,by rw [h0,h1];rfl,h2⟩
theorem ayg (s:ru) (hI:Oh s):bP (fun s'=>Oh s'∧Qn s'<Qn s) (fun x s'=>amz x s s') (auP s):=by
 unfold auP aaV
 dsimp only [T.rd,T.rl]
 obtain ⟨⟨h0,h1⟩,h2,h3,h4,h5⟩:=hI
 refine au (fun c1=>?_) (fun c1=>?_)
 ·have c1:s.i<s.n:=by simpa using c1
  rw [aN (x:=s.i+1) (by omega) (by omega)]
  have e:s.d.length-s.i.toNat=(s.d.length-(s.i+1).toNat)+1:=by omega
  refine ⟨⟨⟨by simp only;omega,by simp only;omega⟩,?_,h3,h4,by simp only [List.length_set];exact h5⟩,by simp only [Qn];omega⟩
  simp only
  have hs:=abq (xs:=zq s.i.toNat) (r:=s.d.length-(s.i+1).toNat) (v:=s.i)
  rw [qF] at hs
  rw [h2,e,hs,show (s.i+1).toNat=s.i.toNat+1 by omega,afy,Int.toNat_of_nonneg h0]
 ·have c1:s.n≤s.i:=by simpa using c1
  refine ⟨rfl,?_⟩
  rw [h2,show s.i.toNat=s.d.length by omega]
  simp
def FV:bQ ru:=⟨0,26,[2,3,5,12,13],[],aF6,aE3,fun v b=>⟨gI (v.getD 3 .junk),gI (v.getD 4 .junk),aQ tJ (aV (aO b 0) 0),gI (aV (aO b 1) 0),jd (.int .i64) (aO b 2)⟩,aaV,fun s r=> {r with n:=s.n,d:=s.d,tick:=s.tick},fun s=>s,fun _ s=>s,[.exit 0],ae3,Oh,Qn⟩
abbrev kJ:=FV.run
abbrev arG:=FV.jU
abbrev aAN:=FV.q
theorem axj (s:ru) (hI:Oh s):(aaV s).all (fun _=>True):=by
 refine ⟨fun c1=>⟨?_,?_,?_,trivial⟩,fun c1=>⟨⟨rfl,rfl⟩,trivial⟩⟩
 all_goals ((obtain ⟨⟨h0,h1⟩,h2,h3,h4,h5⟩:=hI;simp only [decide_eq_true_eq] at c1;first|omega|exact ⟨rfl,by simp⟩))
noncomputable def wY:Specs:=bf [(43,zN),(45,Wp)]
theorem yZ:∀g S,wY g=some S→Valid Tryz.prog aS g S:=aT (l:=[(43,zN),(45,Wp)]) ⟨Xy,asU,trivial⟩
noncomputable def Ve:Hand:=inl Tryz.prog aS wY (kH Tryz.prog aS (wY) 20 2) 9
theorem acd:cZ Tryz.prog aS Ve:=bM yZ (dI yZ) 9
theorem aiV:FV.Ok:=⟨fun s=>by kernel_rfl,fun s=>by kernel_rfl,fun s=>rfl,fun s t r=>rfl,fun s=>rfl,fun s=>by kernel_rfl⟩
theorem ahN:FV.Pf (amz):=⟨aCR,fun _ _=>rfl,ayg,axj⟩
theorem aom:bn Tryz.prog aS (AN 0) (.loop Cf) FV.lp:=bQ.snd aiV ahN (aU (Γ:=wY) (K:=Ve) (L:=aC) yZ acd Cf (fun b hb=>by rw [show aB Cf=[] by kernel_rfl] at hb;cases hb)) (fun s=>by kernel_rfl)
theorem apy (s:ru) (hE:ae3 s):∃s',Oh s'∧amz (arG s) s' (kJ s):=bQ.fin aiV ahN s hE
structure nK where
 a:Int
 b:Int
 i:Int
 j:Int
 b0:List Dm
 b1:Int
 data:List Int
def aGm (s:nK):List LV:=[.os 2 1 0 (List.length s.data),.v (.int .i64 s.a),.v (.int .i64 s.b),.fn 45 [.own 0 0,.own 3 0],.v (.int .i64 s.i),.v (.int .i64 s.j)]
def aFj (s:nK):List aW:=[⟨[.xl tJ s.b0],31,.cl,false⟩,⟨[.v (.int .i64 s.b1)],3,.cl,false⟩,⟨[],3,.vec (.int .i64) s.data,false⟩,⟨[.fn 43 [.own 0 0,.own 1 0]],84,.cl,false⟩]
noncomputable def JQ:Code:=((aB (((aB (Tryz.f120.body.getD .skip))[0]?).getD .skip))[0]?).getD .skip
def Uf (s:nK):T (Rd nK):=
 .br (decide (s.j>s.a)) (.req (0≤s.j∧s.j<((List.length s.data:Nat):Int)) (.req (s.j.toNat<List.length s.data) (.req (0≤(IntKind.i64.wrap (s.j-1))∧(IntKind.i64.wrap (s.j-1))<((List.length s.data:Nat):Int)) (.req ((IntKind.i64.wrap (s.j-1)).toNat<List.length s.data) (.req (s.b0=s.b0∧yS s.b0 s.b1∧(0≤(s.data.getD s.j.toNat (Ty.dflt (.int .i64)))∧(s.data.getD s.j.toNat (Ty.dflt (.int .i64)))<(List.length s.b0:Int))∧0≤(s.data.getD (IntKind.i64.wrap (s.j-1)).toNat (Ty.dflt (.int .i64)))∧(s.data.getD (IntKind.i64.wrap (s.j-1)).toNat (Ty.dflt (.int .i64)))<(List.length s.b0:Int)) (.br (decide ((cmD s.b0 s.b1 (s.data.getD s.j.toNat (Ty.dflt (.int .i64))) (s.data.getD (IntKind.i64.wrap (s.j-1)).toNat (Ty.dflt (.int .i64))))<0)) (.req (0≤(IntKind.i64.wrap (s.j-1))∧(IntKind.i64.wrap (s.j-1))<((List.length s.data:Nat):Int)) (.req (0≤s.j∧s.j<((List.length s.data:Nat):Int)) (.req ((IntKind.i64.wrap (s.j-1)).toNat<List.length s.data) (.req (s.j.toNat<List.length s.data) (.req (0≤s.j∧s.j<((List.length s.data:Nat):Int)) (.req (s.j.toNat<List.length s.data) (.req (0≤(IntKind.i64.wrap (s.j-1))∧(IntKind.i64.wrap (s.j-1))<((List.length s.data:Nat):Int)) (.req ((IntKind.i64.wrap (s.j-1)).toNat<List.length (s.data.set s.j.toNat (s.data.getD (IntKind.i64.wrap (s.j-1)).toNat (Ty.dflt (.int .i64))))) (.req (0=0∧(List.length s.data)=List.length ((s.data.set s.j.toNat (s.data.getD (IntKind.i64.wrap (s.j-1)).toNat (Ty.dflt (.int .i64)))).set (IntKind.i64.wrap (s.j-1)).toNat (s.data.getD s.j.toNat (Ty.dflt (.int .i64))))) (.ok (.next {s with j:=(IntKind.i64.wrap (s.j-1)),data:=((s.data.set s.j.toNat (s.data.getD (IntKind.i64.wrap (s.j-1)).toNat (Ty.dflt (.int .i64)))).set (IntKind.i64.wrap (s.j-1)).toNat (s.data.getD s.j.toNat (Ty.dflt (.int .i64))))}))))))))))) (.rl s.data (.ok (.stop (.exit 2) s))))))))) (.rl s.data (.ok (.stop (.exit 2) s)))
abbrev acX (s:nK):=(Uf s).rd s
def afa (s:nK):Prop:=s.a=0∧(0≤s.j∧s.j<(List.length s.data:Int))∧(s.data.length=s.b0.length∧(List.length s.data:Int)≤1000)∧(∀x∈s.data,0≤x∧x<(List.length s.b0:Int))∧yS s.b0 s.b1
def WT (s:nK):Prop:=s.a=0∧(0≤s.j∧s.j<(List.length s.data:Int))∧(s.data.length=s.b0.length∧(List.length s.data:Int)≤1000)∧(∀x∈s.data,0≤x∧x<(List.length s.b0:Int))∧yS s.b0 s.b1
def Qz (s:nK):Nat:=s.j.toNat
def avp (x:Ex) (_ _:nK):Prop:=x=.exit 2
theorem aDg:∀s,afa s→WT s:=by
 exact fun s h=>h
theorem ay2 (s:nK) (hI:WT s):bP (fun s'=>WT s'∧Qz s'<Qz s) (fun x s'=>avp x s s') (acX s):=by
 unfold acX Uf
 dsimp only [T.rd,T.rl]
 obtain ⟨h0,⟨h1,h2⟩,⟨h3,h3'⟩,h4,h5⟩:=hI
 refine au (fun c1=>?_) (fun c1=>rfl)
 have c1:s.a<s.j:=by simpa using c1
 rw [aN (x:=s.j-1) (by omega) (by omega)]
 refine au (fun c2=>?_) (fun c2=>rfl)
 have g0:=fun (k:Nat) (hk:k<s.data.length)=>h4 (s.data.getD k 0) (by simp [List.getD,hk])
 have hm:∀x∈(s.data.set s.j.toNat (s.data.getD (s.j-1).toNat 0)).set (s.j-1).toNat (s.data.getD s.j.toNat 0),0≤x∧x<(List.length s.b0:Int):=fun x hx=>by
  rcases List.mem_or_eq_of_mem_set hx with hx|e
  ·rcases List.mem_or_eq_of_mem_set hx with hx|e
   ·exact h4 x hx
   ·rw [e];exact g0 _ (by omega)
  ·rw [e];exact g0 _ (by omega)
 exact ⟨⟨h0,⟨by simp only;omega,by simp only [List.length_set];omega⟩,⟨by simp only [List.length_set];exact h3,by simp only [List.length_set];exact h3'⟩,hm,h5⟩,by simp only [Qz];omega⟩
def Lc:bQ nK:=⟨4,53,[0,1,2,3,8,9],[],aGm,aFj,fun v b=>⟨gI (v.getD 1 .junk),gI (v.getD 2 .junk),gI (v.getD 4 .junk),gI (v.getD 5 .junk),aQ tJ (aV (aO b 0) 0),gI (aV (aO b 1) 0),jd (.int .i64) (aO b 2)⟩,Uf,fun s r=> {r with a:=s.a,b:=s.b,i:=s.i,b0:=s.b0,b1:=s.b1},fun s=>s,fun _ s=>s,[.exit 2],afa,WT,Qz⟩
abbrev Aj:=Lc.run
abbrev arR:=Lc.jU
abbrev aA2:=Lc.q
theorem axz (s:nK) (hI:WT s):(Uf s).all (fun _=>True):=by
 refine ⟨fun c1=>⟨?_,?_,?_,?_,?_,fun c2=>⟨?_,?_,?_,?_,?_,?_,?_,?_,?_,trivial⟩,fun c2=>⟨⟨rfl,rfl⟩,trivial⟩⟩,fun c1=>⟨⟨rfl,rfl⟩,trivial⟩⟩
 all_goals ((obtain ⟨h0,⟨h1,h2⟩,⟨h3,h3'⟩,h4,h5⟩:=hI;simp only [decide_eq_true_eq,gt_iff_lt] at c1;(try rw [aN (x:=s.j-1) (by omega) (by omega)]);have g0:∀k:Nat,k<s.data.length→0≤s.data.getD k (Ty.dflt (.int .i64))∧s.data.getD k (Ty.dflt (.int .i64))<(List.length s.b0:Int):=(fun k hk=>h4 _ (by simp [List.getD,hk]));first|omega|exact ⟨rfl,h5,g0 _ (by omega),g0 _ (by omega)⟩ |(simp only [List.length_set];omega) |exact ⟨rfl,by simp⟩))
theorem ai2:Lc.Ok:=⟨fun s=>by kernel_rfl,fun s=>by kernel_rfl,fun s=>rfl,fun s t r=>rfl,fun s=>rfl,fun s=>by kernel_rfl⟩
theorem ahU:Lc.Pf (avp):=⟨aDg,fun _ _=>rfl,ay2,axz⟩
theorem aoA:bn Tryz.prog aS (AN 4) (.loop JQ) Lc.lp:=bQ.snd ai2 ahU (bF (Γ:=wY) (K:=Ve) (L:=(sO Tryz.prog aS wY Ve 20 2)) yZ acd JQ (fun b _=>dN yZ acd 20 2 b)) (fun s=>by kernel_rfl)
theorem ab3 (s:nK) (hE:afa s):(fun (x:Ex) (s':nK) (v:List Int)=>x=.exit 2∧s'.data=v) (arR s) (Aj s) ((fun s:nK=>bub (ltD s.b0 s.b1) s.j.toNat s.data) s):=by
 exact bQ.ul ai2 ahU (fun s:nK=>bub (ltD s.b0 s.b1) s.j.toNat s.data) (fun x s' v=>x=.exit 2∧s'.data=v) (fun s hI=>by
  show bP _ _ (acX s)
  unfold acX Uf
  dsimp only [T.rd,T.rl]
  obtain ⟨h0,⟨h1,h2⟩,⟨h3,h3'⟩,h4,h5⟩:=hI
  refine au (fun c1=>?_) (fun c1=>?_)
  ·have c1:s.a<s.j:=by simpa using c1
   rw [aN (x:=s.j-1) (by omega) (by omega)]
   have e:s.j.toNat=(s.j-1).toNat+1:=by omega
   refine au (fun c2=>?_) (fun c2=>?_)
   ·show bub _ _ _=bub _ _ _
    simp only
    rw [e,bub,if_pos (by unfold ltD;rw [e] at c2;exact c2)]
    rfl
   ·refine ⟨rfl,?_⟩
    rw [e] at c2
    rw [e,bub,if_neg (fun hh=>absurd ((show true=_ from hh.symm).trans c2) (by decide))]
  ·have c1:s.j≤s.a:=by simpa using c1
   refine ⟨rfl,?_⟩
   rw [show s.j.toNat=0 by omega]
   rfl) s hE
structure kT where
 a:Int
 b:Int
 i:Int
 b0:List Dm
 b1:Int
 data:List Int
def aGn (s:kT):List LV:=[.os 2 1 0 (List.length s.data),.v (.int .i64 s.a),.v (.int .i64 s.b),.fn 45 [.own 0 0,.own 3 0],.v (.int .i64 s.i)]
def aFk (s:kT):List aW:=[⟨[.xl tJ s.b0],31,.cl,false⟩,⟨[.v (.int .i64 s.b1)],3,.cl,false⟩,⟨[],3,.vec (.int .i64) s.data,false⟩,⟨[.fn 43 [.own 0 0,.own 1 0]],84,.cl,false⟩]
noncomputable def VT:Code:=((aB (Tryz.f120.body.getD .skip))[0]?).getD .skip
def Ug (s:kT):T (Rd kT):=
 .br (decide (s.i<s.b)) (.rl s.data (.req (aA2 (⟨s.a,s.b,s.i,s.i,s.b0,s.b1,s.data⟩:nK)) (.rl (Aj (⟨s.a,s.b,s.i,s.i,s.b0,s.b1,s.data⟩:nK)).data (.ok (.next {s with i:=(IntKind.i64.wrap (s.i+1)),data:=(Aj (⟨s.a,s.b,s.i,s.i,s.b0,s.b1,s.data⟩:nK)).data}))))) (.rl s.data (.ok (.stop (.exit 0) s)))
abbrev acY (s:kT):=(Ug s).rd s
def afb (s:kT):Prop:=s.i=1∧(s.a=0∧s.b=(List.length s.data:Int))∧(s.data.length=s.b0.length∧(List.length s.data:Int)≤1000)∧(∀x∈s.data,0≤x∧x<(List.length s.b0:Int))∧yS s.b0 s.b1
def Oz (s:kT):Prop:=1≤s.i∧(s.a=0∧s.b=(List.length s.data:Int))∧(s.data.length=s.b0.length∧(List.length s.data:Int)≤1000)∧(∀x∈s.data,0≤x∧x<(List.length s.b0:Int))∧yS s.b0 s.b1
def QA (s:kT):Nat:=(s.b-s.i).toNat
def avq (x:Ex) (_ _:kT):Prop:=x=.exit 0
theorem aDh:∀s,afb s→Oz s:=by
 intro s h
 obtain ⟨h0,h1⟩:=h
 exact ⟨by omega,h1⟩
theorem YP (s:kT) (hI:Oz s) (c1:s.i<s.b):afa ⟨s.a,s.b,s.i,s.i,s.b0,s.b1,s.data⟩:=by
 obtain ⟨h0,⟨h1,h2⟩,h3⟩:=hI
 exact ⟨h1,⟨by simp only;omega,by simp only;omega⟩,h3⟩
theorem ay3 (s:kT) (hI:Oz s):bP (fun s'=>Oz s'∧QA s'<QA s) (fun x s'=>avq x s s') (acY s):=by
 unfold acY Ug
 dsimp only [T.rd,T.rl]
 have hin:=fun c1=>YP s hI c1
 obtain ⟨h0,⟨h1,h2⟩,⟨h3,h3'⟩,h4,h5⟩:=hI
 refine au (fun c1=>?_) (fun c1=>rfl)
 have c1:s.i<s.b:=by simpa using c1
 obtain ⟨q1,q2⟩:=ab3 _ (hin c1)
 have q2:(Aj ⟨s.a,s.b,s.i,s.i,s.b0,s.b1,s.data⟩).data=bub (ltD s.b0 s.b1) s.i.toNat s.data:=q2
 have hp:=alD (lt:=ltD s.b0 s.b1) (j:=s.i.toNat) (l:=s.data) (by omega)
 rw [aN (x:=s.i+1) (by omega) (by omega),q2]
 exact ⟨⟨by simp only;omega,⟨h1,by simp only [hp.length_eq];exact h2⟩,⟨by simp only [hp.length_eq];exact h3,by simp only [hp.length_eq];exact h3'⟩,fun x hx=>h4 x (hp.subset hx),h5⟩,by simp only [QA];omega⟩
def DJ:bQ kT:=⟨4,53,[0,1,2,3,8],[],aGn,aFk,fun v b=>⟨gI (v.getD 1 .junk),gI (v.getD 2 .junk),gI (v.getD 4 .junk),aQ tJ (aV (aO b 0) 0),gI (aV (aO b 1) 0),jd (.int .i64) (aO b 2)⟩,Ug,fun s r=> {r with a:=s.a,b:=s.b,b0:=s.b0,b1:=s.b1},fun s=>s,fun _ s=>s,[.exit 0],afb,Oz,QA⟩
abbrev ql:=DJ.run
abbrev arS:=DJ.jU
abbrev anq:=DJ.q
theorem axA (s:kT) (hI:Oz s):(Ug s).all (fun _=>True):=by
 refine ⟨fun c1=>⟨⟨rfl,rfl⟩,?_,⟨rfl,rfl⟩,trivial⟩,fun c1=>⟨⟨rfl,rfl⟩,trivial⟩⟩
 ·exact ⟨YP s hI (by simpa using c1),rfl,rfl⟩
theorem ai3:DJ.Ok:=⟨fun s=>by kernel_rfl,fun s=>by kernel_rfl,fun s=>rfl,fun s t r=>rfl,fun s=>rfl,fun s=>by kernel_rfl⟩
theorem ahV:DJ.Pf (avq):=⟨aDh,fun _ _=>rfl,ay3,axA⟩
theorem Px:bn Tryz.prog aS (AN 4) (.loop VT) DJ.lp:=bQ.snd ai3 ahV (bF (Γ:=wY) (K:=Ve) (L:=(Zl (fun i=>if i=4 then Lc.lp else aC i))) yZ acd VT (fun b hb=>by
 rw [show aB _=[JQ] by kernel_rfl] at hb
 simp only [List.mem_cons,List.not_mem_nil,or_false] at hb
 subst hb
 exact aoA)) (fun s=>by kernel_rfl)
theorem aq7 (s:kT) (hE:afb s):(fun (x:Ex) (s':kT) (v:List Int)=>x=.exit 0∧s'.data=v) (arS s) (ql s) ((fun s:kT=>vS (ltD s.b0 s.b1) s.data s.i.toNat) s):=by
 exact bQ.ul ai3 ahV (fun s:kT=>vS (ltD s.b0 s.b1) s.data s.i.toNat) (fun x s' v=>x=.exit 0∧s'.data=v) (fun s hI=>by
  show bP _ _ (acY s)
  unfold acY Ug
  dsimp only [T.rd,T.rl]
  have hin:=fun c1=>YP s hI c1
  obtain ⟨h0,⟨h1,h2⟩,⟨h3,h3'⟩,h4,h5⟩:=hI
  refine au (fun c1=>?_) (fun c1=>?_)
  ·have c1:s.i<s.b:=by simpa using c1
   obtain ⟨q1,q2⟩:=ab3 _ (hin c1)
   have q2:(Aj ⟨s.a,s.b,s.i,s.i,s.b0,s.b1,s.data⟩).data=bub (ltD s.b0 s.b1) s.i.toNat s.data:=q2
   rw [aN (x:=s.i+1) (by omega) (by omega)]
   show vS _ _ _=vS _ _ _
   simp only
   rw [q2,show (s.i+1).toNat=s.i.toNat+1 by omega,XM (by omega)]
  ·have c1:s.b≤s.i:=by simpa using c1
   exact ⟨rfl,(afA (by omega)).symm⟩) s hE
structure nU where
 n:Int
 dD:Int
 a:Int
 b:Int
 b0:List Dm
 b1:Int
 data:List Int
def aFM (s:nU):List LV:=[.os 2 1 0 (List.length s.data),.v (.int .i64 s.n),.fn 45 [.own 0 0,.own 3 0],.v (.int .i64 s.dD),.v (.int .i64 s.a),.v (.int .i64 s.b)]
def aEJ (s:nU):List aW:=[⟨[.xl tJ s.b0],31,.cl,false⟩,⟨[.v (.int .i64 s.b1)],3,.cl,false⟩,⟨[],3,.vec (.int .i64) s.data,false⟩,⟨[.fn 43 [.own 0 0,.own 1 0]],84,.cl,false⟩]
noncomputable def VO:Code:=((aB (Tryz.f84.body.getD .skip))[0]?).getD .skip
def TJ (s:nU):T (Rd nU):=
 .br (decide (s.b≤s.n)) (.rl s.data (.req (anq (⟨s.a,s.b,(IntKind.i64.wrap (s.a+1)),s.b0,s.b1,s.data⟩:kT)) (.req (0=0∧(List.length s.data)=List.length (ql (⟨s.a,s.b,(IntKind.i64.wrap (s.a+1)),s.b0,s.b1,s.data⟩:kT)).data) (.ok (.next {s with a:=s.b,b:=(IntKind.i64.wrap (s.b+s.dD)),data:=(ql (⟨s.a,s.b,(IntKind.i64.wrap (s.a+1)),s.b0,s.b1,s.data⟩:kT)).data}))))) (.rl s.data (.ok (.stop (.exit 0) s)))
abbrev acF (s:nU):=(TJ s).rd s
def aeY (s:nU):Prop:=s.b=20∧s.n<20
def NY (s:nU):Prop:=s.b=20∧s.n<20
def Yv (_:nU):Nat:=0
def avg (x:Ex) (_ _:nU):Prop:=x=.exit 0
theorem aB1:∀s,aeY s→NY s:=by
 exact fun s h=>h
theorem awz (s:nU) (hI:NY s):bP (fun s'=>NY s'∧Yv s'<Yv s) (fun x s'=>avg x s s') (acF s):=by
 unfold acF TJ
 dsimp only [T.rd,T.rl]
 obtain ⟨h0,h1⟩:=hI
 refine au (fun c1=>absurd (show s.b≤s.n by simpa using c1) (by omega)) (fun c1=>rfl)
def Fq:bQ nU:=⟨4,63,[0,1,2,6,7,8],[],aFM,aEJ,fun v b=>⟨gI (v.getD 1 .junk),gI (v.getD 3 .junk),gI (v.getD 4 .junk),gI (v.getD 5 .junk),aQ tJ (aV (aO b 0) 0),gI (aV (aO b 1) 0),jd (.int .i64) (aO b 2)⟩,TJ,fun s r=> {r with n:=s.n,dD:=s.dD,b0:=s.b0,b1:=s.b1},fun s=>s,fun _ s=>s,[.exit 0],aeY,NY,Yv⟩
abbrev jh:=Fq.run
abbrev arv:=Fq.jU
abbrev aAu:=Fq.q
noncomputable def akt:Hand:=inl Tryz.prog aS wY (jX 120 4 1 (DJ.lp) (kH Tryz.prog aS (wY) 20 2)) 9
theorem atC:cZ Tryz.prog aS akt:=bM yZ (dF Tryz.func120 rfl (by kernel_rfl) Px (dI yZ)) 9
theorem awZ (s:nU) (hI:NY s):(TJ s).all (fun _=>True):=by
 refine ⟨fun c1=>⟨⟨rfl,rfl⟩,?_,?_,trivial⟩,fun c1=>⟨⟨rfl,rfl⟩,trivial⟩⟩
 all_goals ((simp only [decide_eq_true_eq] at c1;exact absurd c1 (by have:=hI;unfold NY at this;omega)))
theorem aiC:Fq.Ok:=⟨fun s=>by kernel_rfl,fun s=>by kernel_rfl,fun s=>rfl,fun s t r=>rfl,fun s=>rfl,fun s=>by kernel_rfl⟩
theorem ahu:Fq.Pf (avg):=⟨aB1,fun _ _=>rfl,awz,awZ⟩
theorem abk:bn Tryz.prog aS (AN 4) (.loop VO) Fq.lp:=bQ.snd aiC ahu (bF (Γ:=wY) (K:=akt) (L:=(sO Tryz.prog aS wY akt 20 2)) yZ atC VO (fun b _=>dN yZ atC 20 2 b)) (fun s=>by kernel_rfl)
theorem anU (s:nU) (hE:aeY s):(fun (x:Ex) (s':nU) (v:List Int×Int)=>x=.exit 0∧(s'.data,s'.a)=v) (arv s) (jh s) ((fun s:nU=>(s.data,s.a)) s):=by
 exact bQ.ul aiC ahu (fun s:nU=>(s.data,s.a)) (fun x s' v=>x=.exit 0∧(s'.data,s'.a)=v) (fun s hI=>by
  show bP _ _ (acF s)
  unfold acF TJ
  dsimp only [T.rd,T.rl]
  obtain ⟨h0,h1⟩:=hI
  exact au (fun c1=>absurd (show s.b≤s.n by simpa using c1) (by omega)) (fun c1=>⟨rfl,rfl⟩)) s hE
def ZC:List LV→T LV:=fun _=> .req False (.ok (.v undef))
theorem avN:Valid Tryz.prog aS 121 ZC:=by
 intro _ _ _ _ _ _ _ _ _ h
 exact h.1.elim
structure sK where
 n:Int
 dD:Int
 a:Int
 b:Int
 b0:List Dm
 b1:Int
 data:List Int
def aFK (s:sK):List LV:=[.os 2 1 0 (List.length s.data),.v (.int .i64 s.n),.fn 45 [.own 0 0,.own 3 0],.v (.int .i64 s.dD),.v (.int .i64 s.a),.v (.int .i64 s.b)]
def aEH (s:sK):List aW:=[⟨[.xl tJ s.b0],31,.cl,false⟩,⟨[.v (.int .i64 s.b1)],3,.cl,false⟩,⟨[],3,.vec (.int .i64) s.data,false⟩,⟨[.fn 43 [.own 0 0,.own 1 0]],84,.cl,false⟩]
noncomputable def JL:Code:=((aB (((aB (Tryz.f84.body.getD .skip))[1]?).getD .skip))[0]?).getD .skip
def aaI (s:sK):T (Rd sK):=
 .br (decide (s.b≤s.n)) (.req (0+(List.length s.data)≤List.length s.data) (.req False (.rl s.data (.ok (.next {s with a:=s.b,b:=(IntKind.i64.wrap (s.b+(IntKind.i64.wrap (2*s.dD))))}))))) (.rl s.data (.ok (.stop (.exit 4) s)))
abbrev auC (s:sK):=(aaI s).rd s
def avy (_:sK):Prop:=False
def WJ (_:sK):Prop:=False
def Yt (_:sK):Nat:=0
def ave (_:Ex) (_ _:sK):Prop:=True
theorem aBZ:∀s,avy s→WJ s:=by
 exact fun s h=>h
theorem awx (s:sK) (hI:WJ s):bP (fun s'=>WJ s'∧Yt s'<Yt s) (fun x s'=>ave x s s') (auC s):=by
 unfold auC aaI
 dsimp only [T.rd,T.rl]
 exact hI.elim
def O0:bQ sK:=⟨4,63,[0,1,2,6,7,8],[],aFK,aEH,fun v b=>⟨gI (v.getD 1 .junk),gI (v.getD 3 .junk),gI (v.getD 4 .junk),gI (v.getD 5 .junk),aQ tJ (aV (aO b 0) 0),gI (aV (aO b 1) 0),jd (.int .i64) (aO b 2)⟩,aaI,fun s r=> {r with n:=s.n,dD:=s.dD,b0:=s.b0,b1:=s.b1,data:=s.data},fun s=>s,fun _ s=>s,[.exit 4],avy,WJ,Yt⟩
abbrev ao5:=O0.run
abbrev aAs:=O0.q
noncomputable def A8:Specs:=bf [(43,zN),(45,Wp),(121,ZC)]
theorem EQ:∀g S,A8 g=some S→Valid Tryz.prog aS g S:=aT (l:=[(43,zN),(45,Wp),(121,ZC)]) ⟨Xy,asU,avN,trivial⟩
noncomputable def acf:Hand:=inl Tryz.prog aS A8 (jX 84 4 2 (Fq.lp) (jX 120 4 1 (DJ.lp) (kH Tryz.prog aS (A8) 20 2))) 9
theorem akm:cZ Tryz.prog aS acf:=bM EQ (dF Tryz.func84 rfl (by kernel_rfl) abk (dF Tryz.func120 rfl (by kernel_rfl) Px (dI EQ))) 9
theorem awX (s:sK) (hI:WJ s):(aaI s).all (fun _=>True):=by
 refine ⟨fun c1=>⟨?_,?_,⟨rfl,rfl⟩,trivial⟩,fun c1=>⟨⟨rfl,rfl⟩,trivial⟩⟩
 all_goals (exact hI.elim)
theorem aye:O0.Ok:=⟨fun s=>by kernel_rfl,fun s=>by kernel_rfl,fun s=>rfl,fun s t r=>rfl,fun s=>rfl,fun s=>by kernel_rfl⟩
theorem aya:O0.Pf (ave):=⟨aBZ,fun _ _=>rfl,awx,awX⟩
theorem an1:bn Tryz.prog aS (AN 4) (.loop JL) O0.lp:=bQ.snd aye aya (bF (Γ:=A8) (K:=acf) (L:=(sO Tryz.prog aS A8 acf 20 2)) EQ akm JL (fun b _=>dN EQ akm 20 2 b)) (fun s=>by kernel_rfl)
structure sN where
 n:Int
 dD:Int
 b0:List Dm
 b1:Int
 data:List Int
def aFL (s:sN):List LV:=[.os 2 1 0 (List.length s.data),.v (.int .i64 s.n),.fn 45 [.own 0 0,.own 3 0],.v (.int .i64 s.dD)]
def aEI (s:sN):List aW:=[⟨[.xl tJ s.b0],31,.cl,false⟩,⟨[.v (.int .i64 s.b1)],3,.cl,false⟩,⟨[],3,.vec (.int .i64) s.data,false⟩,⟨[.fn 43 [.own 0 0,.own 1 0]],84,.cl,false⟩]
noncomputable def VN:Code:=((aB (Tryz.f84.body.getD .skip))[1]?).getD .skip
def aaJ (s:sN):T (Rd sN):=
 .br (decide (s.dD<s.n)) (.rl s.data (.req (aAs (⟨s.n,s.dD,(0:Int),(IntKind.i64.wrap (2*s.dD)),s.b0,s.b1,s.data⟩:sK)) (.br (decide ((IntKind.i64.wrap ((ao5 (⟨s.n,s.dD,(0:Int),(IntKind.i64.wrap (2*s.dD)),s.b0,s.b1,s.data⟩:sK)).a+s.dD))<s.n)) (.req (0+(List.length s.data)≤List.length s.data) (.req False (.rl s.data (.ok (.next {s with dD:=(IntKind.i64.wrap (s.dD*2))}))))) (.rl s.data (.ok (.next {s with dD:=(IntKind.i64.wrap (s.dD*2))})))))) (.rl s.data (.ok (.stop (.exit 2) s)))
abbrev auD (s:sN):=(aaJ s).rd s
def ana (s:sN):Prop:=s.dD=20∧s.n<20
def NW (s:sN):Prop:=s.dD=20∧s.n<20
def Yu (_:sN):Nat:=0
def avf (x:Ex) (_ _:sN):Prop:=x=.exit 2
theorem aB0:∀s,ana s→NW s:=by
 exact fun s h=>h
theorem awy (s:sN) (hI:NW s):bP (fun s'=>NW s'∧Yu s'<Yu s) (fun x s'=>avf x s s') (auD s):=by
 unfold auD aaJ
 dsimp only [T.rd,T.rl]
 obtain ⟨h0,h1⟩:=hI
 refine au (fun c1=>absurd (show s.dD<s.n by simpa using c1) (by omega)) (fun c1=>rfl)
def Xl:bQ sN:=⟨4,63,[0,1,2,6],[],aFL,aEI,fun v b=>⟨gI (v.getD 1 .junk),gI (v.getD 3 .junk),aQ tJ (aV (aO b 0) 0),gI (aV (aO b 1) 0),jd (.int .i64) (aO b 2)⟩,aaJ,fun s r=> {r with n:=s.n,b0:=s.b0,b1:=s.b1,data:=s.data},fun s=>s,fun _ s=>s,[.exit 2],ana,NW,Yu⟩
abbrev aAt:=Xl.q
theorem awY (s:sN) (hI:NW s):(aaJ s).all (fun _=>True):=by
 refine ⟨fun c1=>⟨⟨rfl,rfl⟩,?_,fun c2=>⟨?_,?_,⟨rfl,rfl⟩,trivial⟩,fun c2=>⟨⟨rfl,rfl⟩,trivial⟩⟩,fun c1=>⟨⟨rfl,rfl⟩,trivial⟩⟩
 all_goals ((simp only [decide_eq_true_eq] at c1;exact absurd c1 (by have:=hI;unfold NW at this;omega)))
theorem ayf:Xl.Ok:=⟨fun s=>by kernel_rfl,fun s=>by kernel_rfl,fun s=>rfl,fun s t r=>rfl,fun s=>rfl,fun s=>by kernel_rfl⟩
theorem ayb:Xl.Pf (avf):=⟨aB0,fun _ _=>rfl,awy,awY⟩
theorem an2:bn Tryz.prog aS (AN 4) (.loop VN) Xl.lp:=bQ.snd ayf ayb (bF (Γ:=A8) (K:=acf) (L:=(Zl (fun i=>if i=9 then O0.lp else aC i))) EQ akm VN (fun b hb=>by
 rw [show aB _=[JL] by kernel_rfl] at hb
 simp only [List.mem_cons,List.not_mem_nil,or_false] at hb
 subst hb
 exact an1)) (fun s=>by kernel_rfl)
def aei:List LV→T LV
 | [.xl (.pair .bool (.pair (.int .i64) (.pair (.int .i64) (.int .i64)))) d,.v (.int .i64 t)]=> .req (yS d t∧d.length≤19) (.ok (.xl (.int .i64) (kM d t)))
 |_=> .no
noncomputable def J9:List LV→T LV:=gZ Tryz.prog Tryz.f19.params.toList aei
def iJ (d:List Dm) (t:Int):ru:=(⟨(((List.length d:Int).toNat:Nat):Int),(0:Int),d,t,(List.replicate (List.length d:Int).toNat (0:Int))⟩:ru)
def gX (d:List Dm) (t:Int):nU:=(⟨((List.length (kJ (iJ d t)).out:Nat):Int),(20:Int),(0:Int),(20:Int),d,t,(kJ (iJ d t)).out⟩:nU)
def oQ (d:List Dm) (t:Int):kT:=(⟨(jh (gX d t)).a,((List.length (kJ (iJ d t)).out:Nat):Int),(IntKind.i64.wrap ((jh (gX d t)).a+1)),d,t,(jh (gX d t)).data⟩:kT)
def Ut (d:List Dm) (t:Int):sN:=(⟨((List.length (kJ (iJ d t)).out:Nat):Int),(20:Int),d,t,(ql (oQ d t)).data⟩:sN)
noncomputable def atN:Hand:=inl Tryz.prog aS A8 (jX 84 4 7 (Xl.lp) (jX 84 4 2 (Fq.lp) (jX 120 4 1 (DJ.lp) (kH Tryz.prog aS (A8) 20 2)))) 9
theorem aDo:cZ Tryz.prog aS atN:=bM EQ (dF Tryz.func84 rfl (by kernel_rfl) an2 (dF Tryz.func84 rfl (by kernel_rfl) abk (dF Tryz.func120 rfl (by kernel_rfl) Px (dI EQ)))) 9
theorem aqg (d:List Dm) (t:Int):bW Tryz.prog aS (A8) atN (fun i=>if i=3 then FV.lp else aC i) Tryz.f19 [.xl tJ d,.v (.int .i64 t)]=.req (0≤(List.length d:Int)∧(List.length d:Int)≤(List.length d:Int)∧8*(List.length d:Int)≤2^48∧(List.length d:Int)<2^63) (.req (0=0∧(List.length d:Int).toNat=List.length (List.replicate (List.length d:Int).toNat (0:Int))) (.req (aAN (iJ d t)) (.rl (kJ (iJ d t)).out (.req (aAu (gX d t)) (.rl (jh (gX d t)).data (.req (anq (oQ d t)) (.req (0=0∧(List.length (jh (gX d t)).data)=List.length (ql (oQ d t)).data) (.req (aAt (Ut d t)) (.req (0+(List.length (kJ (iJ d t)).out)≤List.length (ql (oQ d t)).data) (.ok (.xl (.int .i64) (((ql (oQ d t)).data.drop 0).take (List.length (kJ (iJ d t)).out))))))))))))):=by kernel_rfl
theorem agF:Valid Tryz.prog aS 19 J9:=aI Tryz.func19 rfl EQ aDo (L:=(fun i=>if i=3 then FV.lp else aC i)) (fun b hb=>by
 rw [show aB _=[Cf] by kernel_rfl] at hb
 simp only [List.mem_cons,List.not_mem_nil,or_false] at hb
 subst hb
 exact aom) (fun args lv h=>by
 unfold aei at h
 split at h
 ·simp only [canL,canX]
  rw [aqg]
  rename_i d t
  obtain ⟨⟨hw,hd⟩,rfl⟩:=h
  have hE:ae3 (iJ d t):=⟨rfl,by show List.replicate (List.length d:Int).toNat (0:Int)=List.replicate d.length 0;rw [Int.toNat_natCast],by show (((List.length d:Int).toNat:Nat):Int)=(List.length d:Int);omega,by show (((List.length d:Int).toNat:Nat):Int)≤1000;omega,by show (List.replicate _ (0:Int)).length=d.length;rw [List.length_replicate];omega⟩
  obtain ⟨_,_,_,q1⟩:=apy _ hE
  have q1:(kJ (iJ d t)).out=zq d.length:=q1
  have hl:(kJ (iJ d t)).out.length=d.length:=by rw [q1,qF]
  have hE2:aeY (gX d t):=⟨rfl,by show ((List.length (kJ (iJ d t)).out:Nat):Int)<20;omega⟩
  obtain ⟨_,q2⟩:=anU _ hE2
  have q2a:(jh (gX d t)).data=zq d.length:=(congrArg Prod.fst q2).trans q1
  have q2b:(jh (gX d t)).a=0:=congrArg Prod.snd q2
  have hE3:afb (oQ d t):=⟨by show IntKind.i64.wrap ((jh (gX d t)).a+1)=1;rw [q2b];rfl,⟨q2b,by show ((List.length (kJ (iJ d t)).out:Nat):Int)=(List.length (jh (gX d t)).data:Int);rw [q2a,hl,qF]⟩,⟨by show (jh (gX d t)).data.length=d.length;rw [q2a,qF],by show (List.length (jh (gX d t)).data:Int)≤1000;rw [q2a,qF];omega⟩,fun x hx=>UG.1 (by have hx:x∈(jh (gX d t)).data:=hx;rw [q2a] at hx;exact hx),hw⟩
  obtain ⟨_,q3⟩:=aq7 _ hE3
  have q3:(ql (oQ d t)).data=kM d t:=q3.trans (by
   show vS (ltD d t) (jh (gX d t)).data (IntKind.i64.wrap ((jh (gX d t)).a+1)).toNat=_
   rw [q2b,q2a]
   exact afz)
  have hl3:(ql (oQ d t)).data.length=d.length:=by rw [q3,UQ]
  have hE4:ana (Ut d t):=⟨rfl,by show ((List.length (kJ (iJ d t)).out:Nat):Int)<20;omega⟩
  refine ⟨⟨by omega,by omega,by omega,by omega⟩,⟨rfl,by simp⟩,⟨hE,rfl,rfl⟩,⟨rfl,rfl⟩,⟨hE2,rfl,rfl⟩,⟨rfl,rfl⟩,⟨hE3,rfl,rfl⟩,⟨rfl,by rw [q2a,qF,hl3]⟩,⟨hE4,rfl,rfl⟩,by omega,?_⟩
  show LV.xl _ _=_
  rw [List.drop_zero,hl,←hl3,List.take_length,q3]
 ·cases h)
end Go.Proofs.YtlihnbimgclogaaGreatDoor
namespace Go.Proofs.YtlihnbimgclogaaGreatDoor
def isL (mn mx st a:Int):Bool:=a==0 ||(decide (mn≤a)&&(decide (a≤mx)&&((a-mn) %st==0)))
theorem uY {mn mx st a:Int}:isL mn mx st a=true↔a=0∨(mn≤a∧a≤mx∧(a-mn) %st=0):=by simp [isL]
theorem AB {mn mx st a:Int}(hc:vU mn mx st):isL mn mx st (lV mn mx st a)=true:=by
 unfold vU at hc
 rw [uY]
 unfold lV
 split
 ·exact .inl rfl
 ·right
  have e1:=vG (x:=min a mx-mn) (s:=st) (by omega) (by omega)
  refine ⟨by omega,by omega,?_⟩
  have h:=Int.mul_ediv_add_emod (min a mx-mn) st
  rw [show min a mx-(min a mx-mn) %st-mn=st*((min a mx-mn) / st) by omega]
  exact Int.mul_emod_right _ _
theorem Jg {mn mx st a:Int}(hc:vU mn mx st) (ha:0≤a):lV mn mx st a≤a:=by
 have hc':=hc
 unfold vU at hc'
 have:=qK (a:=a) hc'.1 hc'.2.1 hc'.2.2.1 hc'.2.2.2.1
 by_cases h:a<mn
 ·omega
 ·omega
theorem aqP {x y s:Int}(hs:1≤s) (hy:y%s=0) (h:y≤x):y≤x-x%s:=by
 have h1:=Int.mul_ediv_add_emod x s
 have h2:=Int.mul_ediv_add_emod y s
 have h3:=Int.emod_lt_of_pos x (b:=s) (by omega)
 by_cases hq:y / s≤x / s
 ·have:=Int.mul_le_mul_of_nonneg_left hq (show 0≤s by omega)
  omega
 ·have:=Int.mul_le_mul_of_nonneg_left (show x / s+1≤y / s by omega) (show 0≤s by omega)
  rw [Int.mul_add,Int.mul_one] at this
  omega
theorem ni {mn mx st a L:Int}(hc:vU mn mx st) (hL:isL mn mx st L=true) (h:L≤a):L≤lV mn mx st a:=by
 have hc':=hc
 unfold vU at hc'
 rw [uY] at hL
 rcases hL with rfl|⟨h1,h2,h3⟩
 ·exact (qK (a:=a) hc'.1 hc'.2.1 hc'.2.2.1 hc'.2.2.2.1).1
 ·unfold lV
  rw [if_neg (by omega)]
  have:=aqP (x:=min a mx-mn) (y:=L-mn) (s:=st) (by omega) h3 (by omega)
  omega
theorem U3 {mn mx st a:Int}(hc:vU mn mx st) (h:isL mn mx st a=true) (ha:0≤a):lV mn mx st a=a:=by
 have h1:=Jg hc ha
 have h2:=ni hc h (Int.le_refl a)
 omega
theorem UW {ph mn mx st fb a s want:Int}(h:okB ph mn mx st fb a s want=true):vU mn mx st∧0≤s∧s≤1000000∧0≤want∧want≤80∧0≤a∧a≤80∧isL mn mx st a=true∧a≤mx∧(a≠0→mn≤a):=by
 have h':=h
 simp only [okB,LH,Bool.and_eq_true,decide_eq_true_eq,beq_iff_eq] at h'
 obtain ⟨⟨_,_,_,_,h5⟩,_⟩:=h'
 obtain ⟨_,h2,h3,h4,h6,h7,_⟩:=abO h
 have hl:isL mn mx st a=true:=by rw [←h5];exact AB h2
 have hl':=uY.1 hl
 have h2':=h2
 unfold vU at h2'
 exact ⟨h2,h3.1,h3.2,h4.1,h4.2,h6,h7,hl,by omega,by omega⟩
theorem aC2 {ph mn mx st fb a s want:Int}(h:okB ph mn mx st fb a s want=true):nE ph mn mx st fb a s want=0:=by rw [nE,if_pos h]
theorem atq {ph mn mx st fb a s want:Int}(h:okB ph mn mx st fb a s want=true):nA ph mn mx st fb a s want=if a=0 then (if lV mn mx st want≠0∧5≤s then mn else 0) else if lV mn mx st want=0 then 0 else min (lV mn mx st want) (a+st):=by rw [nA,if_pos h]
theorem aC1 {ph mn mx st fb a s want:Int}(h:okB ph mn mx st fb a s want=true):nS ph mn mx st fb a s want=if a=0 then (if lV mn mx st want≠0∧5≤s then 0 else min (s+1) 1000000) else if lV mn mx st want=0 then 0 else min (s+1) 1000000:=by rw [nS,if_pos h]
theorem akf {mn mx st:Int}(hc:vU mn mx st):isL mn mx st mn=true:=by
 unfold vU at hc
 rw [uY];right;exact ⟨by omega,by omega,by simp⟩
theorem aq8 {mn mx st a:Int}(ha:isL mn mx st a=true) (h0:a≠0) (h1:a+st≤mx) (hs:1≤st):isL mn mx st (a+st)=true:=by
 rw [uY] at ha⊢
 rcases ha with h|⟨h2,h3,h4⟩
 ·exact absurd h h0
 ·right
  exact ⟨by omega,h1,by rw [show a+st-mn=(a-mn)+st by omega,Int.add_emod_right];exact h4⟩
theorem U4 {mn mx st a b:Int}(hc:vU mn mx st) (h0:0≤a) (h:a≤b):lV mn mx st a≤lV mn mx st b:=by
 have h1:=Jg hc h0
 exact ni hc (AB (a:=a) hc) (by omega)
theorem afO {mn mx st a:Int}(hc:vU mn mx st):lV mn mx st a≤mx:=by
 have h:=uY.1 (AB (a:=a) hc)
 unfold vU at hc
 omega
theorem apk {mn mx st a want:Int}(hc:vU mn mx st) (ha:isL mn mx st a=true) (h0:a≠0) (ha0:0≤a) (hw:0≤want):(if lV mn mx st want=0 then 0 else min (lV mn mx st want) (a+st))=lV mn mx st (min want (a+st)):=by
 have hc':=hc
 unfold vU at hc'
 have hla:=uY.1 ha
 by_cases h1:want≤a+st
 ·rw [show min want (a+st)=want by omega]
  have:=Jg hc hw
  split<;>omega
 ·rw [show min want (a+st)=a+st by omega]
  have hge:a≤lV mn mx st want:=ni hc ha (by omega)
  rw [if_neg (by omega)]
  by_cases h2:a+st≤mx
  ·have hl:=aq8 ha h0 h2 (by omega)
   rw [U3 hc hl (by omega)]
   have:=ni hc hl (show a+st≤want by omega)
   omega
  ·have m1:=afO (a:=want) hc
   have g1:=ni hc (AB (a:=want) hc) (show lV mn mx st want≤a+st by omega)
   have g2:=U4 hc (show 0≤a+st by omega) (show a+st≤want by omega)
   omega
theorem apP {ph mn mx st fb a s want most:Int}(hk:okB ph mn mx st fb a s want=true) (hm:most=if a=0 then mn else a+st):
  isL mn mx st (nA ph mn mx st fb a s want)=true∧nA ph mn mx st fb a s want≤want∧nA ph mn mx st fb a s want≤most∧(nA ph mn mx st fb a s want=lV mn mx st (min want most)∨(a=0∧s<5∧nA ph mn mx st fb a s want=0))∧(a≠0∨5≤s∨nA ph mn mx st fb a s want=0):=by
 obtain ⟨hc,h1,h2,h3,h4,h5,h6,h7,h8,h9⟩:=UW hk
 have hc':=hc
 unfold vU at hc'
 rw [atq hk]
 have lw:=Jg hc h3
 by_cases h0:a=0
 ·rw [if_pos h0] at hm⊢
  by_cases hh:lV mn mx st want≠0∧5≤s
  ·rw [if_pos hh]
   have hw:mn≤want:=by
    apply Classical.byContradiction
    intro hn
    exact hh.1 (by rw [lV,if_pos (by omega)])
   refine ⟨akf hc,hw,by omega,.inl ?_,.inr (.inl hh.2)⟩
   rw [hm,show min want mn=mn by omega,U3 hc (akf hc) (by omega)]
  ·rw [if_neg hh]
   refine ⟨by simp [isL],h3,by omega,?_,.inr (.inr rfl)⟩
   by_cases hs:s<5
   ·exact .inr ⟨h0,hs,rfl⟩
   ·left
    have h10:lV mn mx st want=0:=by
     apply Classical.byContradiction
     intro hn
     exact hh ⟨hn,by omega⟩
    have:=U4 hc (show 0≤min want most by omega) (show min want most≤want by omega)
    have:=(qK (a:=min want most) hc'.1 hc'.2.1 hc'.2.2.1 hc'.2.2.2.1).1
    omega
 ·rw [if_neg h0] at hm⊢
  rw [apk hc h7 h0 h5 h3]
  have:=Jg hc (show 0≤min want (a+st) by omega)
  exact ⟨AB hc,by omega,by omega,.inl (by rw [hm]),.inl h0⟩
theorem Yp {ph mn mx st fb a s want:Int}(hk:okB ph mn mx st fb a s want=true):
  0≤nA ph mn mx st fb a s want∧(0≤nS ph mn mx st fb a s want∧nS ph mn mx st fb a s want≤1000000∧nS ph mn mx st fb a s want≤s+1)∧(a=0→nA ph mn mx st fb a s want≠0→5≤s)∧(a≠0→nA ph mn mx st fb a s want=0→nS ph mn mx st fb a s want=0)∧
  (¬((nA ph mn mx st fb a s want=0)↔(a=0))→nS ph mn mx st fb a s want=0)∧(((nA ph mn mx st fb a s want=0)↔(a=0))→nS ph mn mx st fb a s want=min (s+1) 1000000):=by
 obtain ⟨hc,h1,h2,h3,h4,h5,h6,h7,h8,h9⟩:=UW hk
 have hc':=hc
 unfold vU at hc'
 have hb:=(qK (a:=want) hc'.1 hc'.2.1 hc'.2.2.1 hc'.2.2.2.1).1
 rw [atq hk,aC1 hk]
 by_cases h0:a=0
 ·simp only [if_pos h0]
  by_cases hh:lV mn mx st want≠0∧5≤s
  ·simp only [if_pos hh];exact ⟨by omega,⟨by omega,by omega,by omega⟩,fun _ _=>by omega,fun _ _=>by omega,fun _=>trivial,fun h=>absurd (h.2 h0) (by omega)⟩
  ·simp only [if_neg hh];exact ⟨by omega,⟨by omega,by omega,by omega⟩,fun _ _=>by omega,fun _ _=>by omega,fun h=>absurd ⟨fun _=>h0,fun _=>trivial⟩ h,fun _=>trivial⟩
 ·simp only [if_neg h0]
  by_cases hh:lV mn mx st want=0
  ·simp only [if_pos hh];exact ⟨by omega,⟨by omega,by omega,by omega⟩,fun _ _=>by omega,fun _ _=>by omega,fun _=>trivial,fun h=>absurd (h.1 trivial) h0⟩
  ·simp only [if_neg hh];exact ⟨by omega,⟨by omega,by omega,by omega⟩,fun _ _=>by omega,fun _ _=>by omega,fun h=>absurd ⟨fun e=>by omega,fun e=>absurd e h0⟩ h,fun _=>trivial⟩
end Go.Proofs.YtlihnbimgclogaaGreatDoor
namespace Go.Proofs.YtlihnbimgclogaaGreatDoor
open Go.Sx
structure lD where
 rs:List Ra
 tick:Int
 n:Int
 t15:Int
 offers:List Int
 m:List Ch
 k:Int
 i:Int
 Zi:List Cd
 c1:List ByteArray
 c2:List Ko
 c3:List Ch
 c4:List Ba
 jJ:List Le
 Ep:List Dm
 vI:Int
 Sl:List Int
 dX:List Int
 next:List Ra
 dA:List Le
def aGB (s:lD):List LV:=[.xl oP s.rs,.v (.int .i64 s.tick),.v (.int .i64 s.n),.v (.slice none 0 0),.v (.slice none 0 0),.v (.slice none 0 0),.v (.int .i64 s.t15),.own 0 0,.xl (.int .i64) s.offers,.os 1 1 0 (List.length s.dX),.os 2 2 0 (List.length s.next),.os 3 5 0 (List.length s.dA),.xl dK s.m,.v (.int .i64 s.k),.v (.int .i64 s.i)]
def aFy (s:lD):List aW:=[⟨[.xl eu s.Zi,.xl .str s.c1,.xl eG s.c2,.xl dK s.c3,.xl eP s.c4,.xl iV s.jJ,.xl tJ s.Ep,.v (.int .i64 s.vI),.xl (.int .i64) s.Sl],75,.cl,true⟩,⟨[],3,.vec (.int .i64) s.dX,false⟩,⟨[],53,.vec oP s.next,false⟩,⟨[],63,.vec iV s.dA,false⟩]
noncomputable def Di:Code:=((aB (Tryz.f14.body.getD .skip))[0]?).getD .skip
def Ph (s:lD) (e:Int) (w:Bool) (x:Int) (y:Int):T (Rd lD):=
 .br (decide (s.i<s.k)) (.req (0≤s.i∧s.i<(List.length s.m:Int)) (.req (0≤s.i∧s.i<(List.length s.rs:Int)) (.req (0≤s.i∧s.i<(List.length s.offers:Int)) (.br (e !=0) (.rl s.dX (.rl s.next (.rl s.dA (.ok (.stop (.ret) {s with t15:=(1:Int)}))))) (.req (0≤s.i∧s.i<((List.length s.dX:Nat):Int)) (.req (s.i.toNat<List.length s.dX) (.req (0≤s.i∧s.i<((List.length s.next:Nat):Int)) (.req (s.i.toNat<List.length s.next) (.req ((0≤s.i∧s.i<(List.length s.c3:Int))∧(List.length s.jJ:Int)≤1000∧0≤s.vI∧s.vI≤1000000) (.br w (.req (0+(List.length s.dA)=List.length s.dA∧((List.length s.dA+List.length ([(s.n,(s.i,(x,(s.tick,(12:Int)))))]):Nat):Int)*40≤2^47∧((List.length s.dA+List.length ([(s.n,(s.i,(x,(s.tick,(12:Int)))))]):Nat):Int)<2^62) (.req (0=0∧(List.length s.dX)=List.length (s.dX.set s.i.toNat x)) (.req (0=0∧(List.length s.next)=List.length (s.next.set s.i.toNat (x,y))) (.req (0=0∧(List.length s.dA+List.length ([(s.n,(s.i,(x,(s.tick,(12:Int)))))]))=List.length (s.dA++([(s.n,(s.i,(x,(s.tick,(12:Int)))))]))) (.ok (.next {s with n:=(IntKind.i64.wrap (s.n+1)),i:=(IntKind.i64.wrap (s.i+1)),dX:=(s.dX.set s.i.toNat x),next:=(s.next.set s.i.toNat (x,y)),dA:=(s.dA++([(s.n,(s.i,(x,(s.tick,(12:Int)))))]))})))))) (.req (0=0∧(List.length s.dX)=List.length (s.dX.set s.i.toNat x)) (.req (0=0∧(List.length s.next)=List.length (s.next.set s.i.toNat (x,y))) (.rl s.dA (.ok (.next {s with i:=(IntKind.i64.wrap (s.i+1)),dX:=(s.dX.set s.i.toNat x),next:=(s.next.set s.i.toNat (x,y))}))))))))))))))) (.rl s.dX (.rl s.next (.rl s.dA (.ok (.stop (.exit 0) s)))))
abbrev abd (s:lD):=Ph s (nE (bD s.m s.i).2.2.1 (bD s.m s.i).2.2.2.1 (bD s.m s.i).2.2.2.2.1 (bD s.m s.i).2.2.2.2.2.1 (bD s.m s.i).2.2.2.2.2.2.1 (mM s.rs s.i).1 (mM s.rs s.i).2 (gi s.offers s.i)) (nwB s.c3 s.jJ s.vI s.i (nA (bD s.m s.i).2.2.1 (bD s.m s.i).2.2.2.1 (bD s.m s.i).2.2.2.2.1 (bD s.m s.i).2.2.2.2.2.1 (bD s.m s.i).2.2.2.2.2.2.1 (mM s.rs s.i).1 (mM s.rs s.i).2 (gi s.offers s.i))) (nA (bD s.m s.i).2.2.1 (bD s.m s.i).2.2.2.1 (bD s.m s.i).2.2.2.2.1 (bD s.m s.i).2.2.2.2.2.1 (bD s.m s.i).2.2.2.2.2.2.1 (mM s.rs s.i).1 (mM s.rs s.i).2 (gi s.offers s.i)) (nS (bD s.m s.i).2.2.1 (bD s.m s.i).2.2.2.1 (bD s.m s.i).2.2.2.2.1 (bD s.m s.i).2.2.2.2.2.1 (bD s.m s.i).2.2.2.2.2.2.1 (mM s.rs s.i).1 (mM s.rs s.i).2 (gi s.offers s.i))
abbrev alh (s:lD):=(abd s).rd s
def Xi (s:lD):Prop:=s.i=0∧s.dA=[]∧(s.k=(List.length s.m:Int)∧s.k≤16)∧(s.c3=s.m∧s.vI=s.tick)∧((List.length s.jJ:Int)≤1000∧0≤s.tick∧s.tick≤1000000)∧(s.rs.length=s.m.length∧s.offers.length=s.m.length∧s.dX.length=s.m.length∧s.next.length=s.m.length)∧dcK s.m s.rs s.offers∧1≤s.n-(List.length s.dA:Int)∧s.n-(List.length s.dA:Int)≤999900
def Ff (s:lD):Prop:=(0≤s.i∧s.i≤s.k)∧(∀j,0≤j→j<s.i→gi s.dX j=nxA (bD s.m j) (mM s.rs j) (gi s.offers j)∧mM s.next j=(nxA (bD s.m j) (mM s.rs j) (gi s.offers j),nxS (bD s.m j) (mM s.rs j) (gi s.offers j)))∧s.dA=RX s.m s.jJ s.tick (s.n-(List.length s.dA:Int)) (LU s.m s.rs s.offers s.m.length) s.i.toNat∧(s.k=(List.length s.m:Int)∧s.k≤16)∧(s.c3=s.m∧s.vI=s.tick)∧((List.length s.jJ:Int)≤1000∧0≤s.tick∧s.tick≤1000000)∧(s.rs.length=s.m.length∧s.offers.length=s.m.length∧s.dX.length=s.m.length∧s.next.length=s.m.length)∧dcK s.m s.rs s.offers∧1≤s.n-(List.length s.dA:Int)∧s.n-(List.length s.dA:Int)≤999900
def zA (s:lD):Nat:=(s.k-s.i).toNat
def aeX (x:Ex) (_ s':lD):Prop:=x=.exit 0∧s'.dX=LU s'.m s'.rs s'.offers s'.m.length∧s'.next=dcR s'.m s'.rs s'.offers s'.m.length∧s'.dA=RX s'.m s'.jJ s'.tick (s'.n-(List.length s'.dA:Int)) (LU s'.m s'.rs s'.offers s'.m.length) s'.m.length
theorem aEe:∀s,Xi s→Ff s:=by
 intro s h
 obtain ⟨h0,h1,h2⟩:=h
 exact ⟨by omega,fun j j0 j1=>by omega,by rw [h0,h1];rfl,h2⟩
theorem asi (s:lD) (hI:Ff s) (e:Int) (w:Bool) (x:Int) (y:Int) (he:nE (bD s.m s.i).2.2.1 (bD s.m s.i).2.2.2.1 (bD s.m s.i).2.2.2.2.1 (bD s.m s.i).2.2.2.2.2.1 (bD s.m s.i).2.2.2.2.2.2.1 (mM s.rs s.i).1 (mM s.rs s.i).2 (gi s.offers s.i)=e) (hw:nwB s.c3 s.jJ s.vI s.i (nA (bD s.m s.i).2.2.1 (bD s.m s.i).2.2.2.1 (bD s.m s.i).2.2.2.2.1 (bD s.m s.i).2.2.2.2.2.1 (bD s.m s.i).2.2.2.2.2.2.1 (mM s.rs s.i).1 (mM s.rs s.i).2 (gi s.offers s.i))=w) (hx:nA (bD s.m s.i).2.2.1 (bD s.m s.i).2.2.2.1 (bD s.m s.i).2.2.2.2.1 (bD s.m s.i).2.2.2.2.2.1 (bD s.m s.i).2.2.2.2.2.2.1 (mM s.rs s.i).1 (mM s.rs s.i).2 (gi s.offers s.i)=x) (hy:nS (bD s.m s.i).2.2.1 (bD s.m s.i).2.2.2.1 (bD s.m s.i).2.2.2.2.1 (bD s.m s.i).2.2.2.2.2.1 (bD s.m s.i).2.2.2.2.2.2.1 (mM s.rs s.i).1 (mM s.rs s.i).2 (gi s.offers s.i)=y):bP (fun s'=>Ff s'∧zA s'<zA s) (fun x s'=>aeX x s s') ((Ph s e w x y).rd s):=by
 unfold Ph
 dsimp only [T.rd,T.rl]
 obtain ⟨⟨h0,h1⟩,hA,hL,⟨h2,h3⟩,⟨h4,h5⟩,h6,⟨h7,h8,h9,h10⟩,hk,h11⟩:=hI
 have hll:s.dA.length≤s.i.toNat:=(by rw [hL];exact Bo)
 refine au (fun c1=>?_) (fun c1=>?_)
 ·refine au (fun c2=>?_) (fun c2=>?_)
  ·have c1:s.i<s.k:=by simpa using c1
   have hm:s.i<(s.m.length:Int):=by omega
   exact absurd (he.symm.trans (aC2 (hk s.i h0 hm))) (by simpa using c2)
  ·refine au (fun c3=>?_) (fun c3=>?_)
   ·have c1:s.i<s.k:=by simpa using c1
    have hm:s.i<(s.m.length:Int):=by omega
    have hx':nxA (bD s.m s.i) (mM s.rs s.i) (gi s.offers s.i)=x:=hx
    have hy':nxS (bD s.m s.i) (mM s.rs s.i) (gi s.offers s.i)=y:=hy
    have hA':∀j,0≤j→j<s.i+1→gi (s.dX.set s.i.toNat x) j=nxA (bD s.m j) (mM s.rs j) (gi s.offers j)∧mM (s.next.set s.i.toNat (x,y)) j=(nxA (bD s.m j) (mM s.rs j) (gi s.offers j),nxS (bD s.m j) (mM s.rs j) (gi s.offers j)):=fun j j0 j1=>by
     rw [nG h0 (by omega) j0,acB h0 (by omega) j0]
     by_cases e:j=s.i
     ·subst e
      rw [if_pos rfl,if_pos rfl,hx',hy']
      exact ⟨rfl,rfl⟩
     ·rw [if_neg e,if_neg e]
      exact hA j j0 (by omega)
    have hs:s.i.toNat+1=(s.i+1).toNat:=by omega
    have hg:gi (LU s.m s.rs s.offers s.m.length) (s.i.toNat:Nat)=x:=by rw [Int.toNat_of_nonneg h0,LU,jE h0 hm,hx']
    have hw':nwB s.m s.jJ s.tick (s.i.toNat:Nat) x=w:=by rw [Int.toNat_of_nonneg h0,←hw,h4,h5];rw [←hx]
    rw [aN (x:=s.i+1) (by omega) (by omega),aN (x:=s.n+1) (by omega) (by omega)]
    have hn:s.n+1-((List.length (s.dA++[(s.n,s.i,x,s.tick,12)]):Nat):Int)=s.n-(List.length s.dA:Int):=by
     rw [List.length_append]
     show s.n+1-((s.dA.length+1:Nat):Int)=_
     omega
    refine ⟨⟨⟨by simp only;omega,by simp only;omega⟩,hA',?_,⟨h2,h3⟩,⟨h4,h5⟩,h6,⟨h7,h8,by simp only [List.length_set];exact h9,by simp only [List.length_set];exact h10⟩,hk,by simp only;rw [hn];exact h11⟩,by simp only [zA];omega⟩
    simp only
    rw [hn,←hs,RX,←hL,hg,hw',c3,if_pos rfl,Int.toNat_of_nonneg h0,show s.n-(List.length s.dA:Int)+(List.length s.dA:Int)=s.n by omega]
   ·have c1:s.i<s.k:=by simpa using c1
    have hm:s.i<(s.m.length:Int):=by omega
    have hx':nxA (bD s.m s.i) (mM s.rs s.i) (gi s.offers s.i)=x:=hx
    have hy':nxS (bD s.m s.i) (mM s.rs s.i) (gi s.offers s.i)=y:=hy
    have hA':∀j,0≤j→j<s.i+1→gi (s.dX.set s.i.toNat x) j=nxA (bD s.m j) (mM s.rs j) (gi s.offers j)∧mM (s.next.set s.i.toNat (x,y)) j=(nxA (bD s.m j) (mM s.rs j) (gi s.offers j),nxS (bD s.m j) (mM s.rs j) (gi s.offers j)):=fun j j0 j1=>by
     rw [nG h0 (by omega) j0,acB h0 (by omega) j0]
     by_cases e:j=s.i
     ·subst e
      rw [if_pos rfl,if_pos rfl,hx',hy']
      exact ⟨rfl,rfl⟩
     ·rw [if_neg e,if_neg e]
      exact hA j j0 (by omega)
    have hs:s.i.toNat+1=(s.i+1).toNat:=by omega
    have hg:gi (LU s.m s.rs s.offers s.m.length) (s.i.toNat:Nat)=x:=by rw [Int.toNat_of_nonneg h0,LU,jE h0 hm,hx']
    have hw':nwB s.m s.jJ s.tick (s.i.toNat:Nat) x=w:=by rw [Int.toNat_of_nonneg h0,←hw,h4,h5];rw [←hx]
    rw [aN (x:=s.i+1) (by omega) (by omega)]
    refine ⟨⟨⟨by simp only;omega,by simp only;omega⟩,hA',?_,⟨h2,h3⟩,⟨h4,h5⟩,h6,⟨h7,h8,by simp only [List.length_set];exact h9,by simp only [List.length_set];exact h10⟩,hk,h11⟩,by simp only [zA];omega⟩
    simp only
    rw [←hs,RX,←hL,hg,hw',c3,if_neg (by decide),List.append_nil]
 ·have c1:s.k≤s.i:=by simpa using c1
  have hi:s.i.toNat=s.m.length:=by omega
  refine ⟨rfl,wX (by rw [h9];exact dZ.symm) fun j j0 j1=>?_,arh (by rw [h10,RV]) fun j j0 j1=>?_,by have hL':=hL;rw [hi] at hL';exact hL'⟩
  ·rw [LU,dZ] at j1
   rw [LU,jE j0 j1]
   exact (hA j j0 (by omega)).1
  ·rw [RV] at j1
   rw [azT j0 j1]
   exact (hA j j0 (by omega)).2
theorem azS (s:lD) (hI:Ff s):bP (fun s'=>Ff s'∧zA s'<zA s) (fun x s'=>aeX x s s') (alh s):=asi s hI _ _ _ _ rfl rfl rfl rfl
def Gv:bQ lD:=⟨0,108,[2,4,5,12,13,14,15,16,17,19,20,21,57,58,59],[.nl 21 63 iV],aGB,aFy,fun v b=>⟨aQ oP (v.getD 0 .junk),gI (v.getD 1 .junk),gI (v.getD 2 .junk),gI (v.getD 6 .junk),aQ (.int .i64) (v.getD 8 .junk),aQ dK (v.getD 12 .junk),gI (v.getD 13 .junk),gI (v.getD 14 .junk),aQ eu (aV (aO b 0) 0),aQ .str (aV (aO b 0) 1),aQ eG (aV (aO b 0) 2),aQ dK (aV (aO b 0) 3),aQ eP (aV (aO b 0) 4),aQ iV (aV (aO b 0) 5),aQ tJ (aV (aO b 0) 6),gI (aV (aO b 0) 7),aQ (.int .i64) (aV (aO b 0) 8),jd (.int .i64) (aO b 1),jd oP (aO b 2),jd iV (aO b 3)⟩,abd,fun s r=> {r with rs:=s.rs,tick:=s.tick,offers:=s.offers,m:=s.m,k:=s.k,Zi:=s.Zi,c1:=s.c1,c2:=s.c2,c3:=s.c3,c4:=s.c4,jJ:=s.jJ,Ep:=s.Ep,vI:=s.vI,Sl:=s.Sl},fun s=>s,fun _ s=>s,[.ret,.exit 0],Xi,Ff,zA⟩
abbrev gW:=Gv.run
abbrev RQ:=Gv.jU
abbrev aBh:=Gv.q
theorem axO (s:lD) (hI:Ff s):(abd s).all (fun _=>True):=by
 refine ⟨fun c1=>⟨?_,?_,?_,fun c2=>⟨⟨rfl,rfl⟩,⟨rfl,rfl⟩,⟨rfl,rfl⟩,trivial⟩,fun c2=>⟨?_,?_,?_,?_,?_,fun c3=>⟨?_,?_,?_,?_,trivial⟩,fun c3=>⟨?_,?_,⟨rfl,rfl⟩,trivial⟩⟩⟩,fun c1=>⟨⟨rfl,rfl⟩,⟨rfl,rfl⟩,⟨rfl,rfl⟩,trivial⟩⟩
 all_goals ((obtain ⟨⟨h0,h1⟩,hA,hL,⟨h2,h3⟩,⟨h4,h5⟩,h6,⟨h7,h8,h9,h10⟩,hk,h11⟩:=hI;have hll:s.dA.length≤s.i.toNat:=(by rw [hL];exact Bo);(try simp only [decide_eq_true_eq] at c1);have hl3:s.c3.length=s.m.length:=congrArg List.length h4;first|omega|exact ⟨rfl,by simp⟩ |(refine ⟨by omega,?_,?_⟩<;>simp only [List.length_cons,List.length_nil]<;>omega)))
noncomputable def akS:Specs:=bf [(19,J9),(35,aae),(36,aag),(37,ZT),(38,aah)]
theorem atY:∀g S,akS g=some S→Valid Tryz.prog aS g S:=aT (l:=[(19,J9),(35,aae),(36,aag),(37,ZT),(38,aah)]) ⟨agF,awh,awj,av2,awk,trivial⟩
theorem Yn:Gv.Ok:=⟨fun s=>by kernel_rfl,fun s=>by kernel_rfl,fun s=>rfl,fun s t r=>rfl,fun s=>rfl,fun s=>by kernel_rfl⟩
theorem X5:Gv.Pf (aeX):=⟨aEe,fun _ _=>rfl,azS,axO⟩
theorem aoM:bn Tryz.prog aS (AN 0) (.loop Di) Gv.lp:=bQ.snd Yn X5 (aU (Γ:=akS) (K:=fE) (L:=aC) atY aG Di (fun b hb=>by rw [show aB Di=[] by kernel_rfl] at hb;cases hb)) (fun s=>by kernel_rfl)
theorem ash (s:lD) (hE:Xi s):∃s',Ff s'∧aeX (RQ s) s' (gW s):=bQ.fin Yn X5 s hE
theorem asf (s:lD) (hE:Xi s):(fun (_:Ex) (s':lD) (v:Int)=>s'.n-(List.length s'.dA:Int)=v) (RQ s) (gW s) ((fun s:lD=>s.n-(List.length s.dA:Int)) s):=by
 exact bQ.ul Yn X5 (fun s:lD=>s.n-(List.length s.dA:Int)) (fun x s' v=>s'.n-(List.length s'.dA:Int)=v) (fun s hI=>by
  show bP _ _ (alh s)
  unfold alh abd Ph
  dsimp only [T.rd,T.rl]
  obtain ⟨⟨h0,h1⟩,hA,hL,⟨h2,h3⟩,⟨h4,h5⟩,h6,⟨h7,h8,h9,h10⟩,hk,h11⟩:=hI
  have hll:s.dA.length≤s.i.toNat:=(by rw [hL];exact Bo)
  refine au (fun c1=>?_) (fun c1=>?_)
  ·refine au (fun c2=>?_) (fun c2=>?_)
   ·rfl
   ·refine au (fun c3=>?_) (fun c3=>?_)
    ·have c1:s.i<s.k:=by simpa using c1
     rw [aN (x:=s.n+1) (by omega) (by omega)]
     show s.n+1-((List.length (s.dA++[_]):Nat):Int)=s.n-(List.length s.dA:Int)
     rw [List.length_append]
     show s.n+1-((s.dA.length+1:Nat):Int)=_
     omega
    ·rfl
  ·rfl) s hE
def aeJ:List LV→T LV
 | [.agg [.xl (.pair .str (.pair (.int .i64) (.pair (.int .i64) (.pair (.int .i64) (.pair (.pair (.int .i64) (.int .i64)) (.pair (.int .i64) (.pair (.int .i64) (.pair (.int .i64) (.pair (.int .i64) (.int .i64)))))))))) cs,.xl (.str) os,.xl (.pair .str (.pair (.int .i64) (.pair (.int .i64) (.int .i64)))) ks,.xl (.pair .str (.pair (.int .i64) (.pair (.int .i64) (.pair (.int .i64) (.pair (.int .i64) (.pair (.int .i64) (.pair (.int .i64) (.int .i64)))))))) gs,.xl (.pair .str (.int .i64)) bs],.xl (.pair (.int .i64) (.pair (.int .i64) (.pair (.int .i64) (.pair (.int .i64) (.int .i64))))) l,.xl (.pair (.int .i64) (.int .i64)) rs,.xl (.pair .bool (.pair (.int .i64) (.pair (.int .i64) (.int .i64)))) d,.v (.int .i64 t),.v (.int .i64 n)]=> .req (yS d t∧d.length≤19) (.ok (.gQ [.xl (.int .i64) (deA cs os ks gs bs l rs d t n),.xl oP (deR cs os ks gs bs l rs d t n),.xl iV (Hu cs os ks gs bs l rs d t n),.v (.int .i64 (deE cs os ks gs bs l rs d t n))]))
 |_=> .no
noncomputable def Ku:List LV→T LV:=gZ Tryz.prog Tryz.f14.params.toList aeJ
def fA (cs:List Cd) (os:List ByteArray) (ks:List Ko) (gs:List Ch) (bs:List Ba) (l:List Le) (rs:List Ra) (d:List Dm) (t n:Int):lD:=(⟨rs,t,n,(0:Int),(PU cs os ks gs bs l d t (kM d t)),gs,(List.length gs:Int),(0:Int),cs,os,ks,gs,bs,l,d,t,(kM d t),(List.replicate (List.length (PU cs os ks gs bs l d t (kM d t)):Int).toNat (0:Int)),(List.replicate (List.length (PU cs os ks gs bs l d t (kM d t)):Int).toNat ((0:Int),(0:Int))),([]:List Le)⟩:lD)
theorem aqG (cs:List Cd) (os:List ByteArray) (ks:List Ko) (gs:List Ch) (bs:List Ba) (l:List Le) (rs:List Ra) (d:List Dm) (t n:Int):bW Tryz.prog aS (akS) fE (fun i=>if i=11 then Gv.lp else aC i) Tryz.f14 [.agg [.xl eu cs,.xl .str os,.xl eG ks,.xl dK gs,.xl eP bs],.xl iV l,.xl oP rs,.xl tJ d,.v (.int .i64 t),.v (.int .i64 n)]=.req (yS d t∧d.length≤19) (.br (!(Ie cs os ks gs bs l rs d t n)) (.ok (.gQ [.xl (.int .i64) ([]:List Int),.xl oP ([]:List Ra),.xl iV ([]:List Le),.v (.int .i64 1)])) (.req (d.length=gs.length∧sQ cs os ks gs bs (nT gs) (qh gs d) (kM d t)=true∧qR l (List.length gs:Int) t=true∧sQ cs os ks gs bs (kW gs l t) (yP cs os ks gs bs (nT gs) (qh gs d) (kM d t)) (kM d t)=true) (.br ((0:Int) !=0) (.ok (.gQ [.xl (.int .i64) ([]:List Int),.xl oP ([]:List Ra),.xl iV ([]:List Le),.v (.int .i64 1)])) (.req (0≤(List.length (PU cs os ks gs bs l d t (kM d t)):Int)∧(List.length (PU cs os ks gs bs l d t (kM d t)):Int)≤(List.length (PU cs os ks gs bs l d t (kM d t)):Int)∧8*(List.length (PU cs os ks gs bs l d t (kM d t)):Int)≤2^48∧(List.length (PU cs os ks gs bs l d t (kM d t)):Int)<2^63) (.req (0≤(List.length (PU cs os ks gs bs l d t (kM d t)):Int)∧(List.length (PU cs os ks gs bs l d t (kM d t)):Int)≤(List.length (PU cs os ks gs bs l d t (kM d t)):Int)∧16*(List.length (PU cs os ks gs bs l d t (kM d t)):Int)≤2^48∧(List.length (PU cs os ks gs bs l d t (kM d t)):Int)<2^63) (.req (0=0∧(List.length (PU cs os ks gs bs l d t (kM d t)):Int).toNat=List.length (List.replicate (List.length (PU cs os ks gs bs l d t (kM d t)):Int).toNat (0:Int))) (.req (0=0∧(List.length (PU cs os ks gs bs l d t (kM d t)):Int).toNat=List.length (List.replicate (List.length (PU cs os ks gs bs l d t (kM d t)):Int).toNat ((0:Int),(0:Int)))) (.req (0=0∧0=List.length ([]:List Le)) (.req (aBh (fA cs os ks gs bs l rs d t n)) (.br (iE (RQ (fA cs os ks gs bs l rs d t n)) (.ret)) (.ok (.gQ [.xl (.int .i64) ([]:List Int),.xl oP ([]:List Ra),.xl iV ([]:List Le),.v (.int .i64 (gW (fA cs os ks gs bs l rs d t n)).t15)])) (.req (0+(List.length (gW (fA cs os ks gs bs l rs d t n)).dX)≤List.length (gW (fA cs os ks gs bs l rs d t n)).dX) (.req (0+(List.length (gW (fA cs os ks gs bs l rs d t n)).next)≤List.length (gW (fA cs os ks gs bs l rs d t n)).next) (.req (0+(List.length (gW (fA cs os ks gs bs l rs d t n)).dA)≤List.length (gW (fA cs os ks gs bs l rs d t n)).dA) (.ok (.gQ [.xl (.int .i64) (((gW (fA cs os ks gs bs l rs d t n)).dX.drop 0).take (List.length (gW (fA cs os ks gs bs l rs d t n)).dX)),.xl oP (((gW (fA cs os ks gs bs l rs d t n)).next.drop 0).take (List.length (gW (fA cs os ks gs bs l rs d t n)).next)),.xl iV (((gW (fA cs os ks gs bs l rs d t n)).dA.drop 0).take (List.length (gW (fA cs os ks gs bs l rs d t n)).dA)),.v (.int .i64 0)]))))))))))))))):=by kernel_rfl
theorem agJ:Valid Tryz.prog aS 14 Ku:=aI Tryz.func14 rfl atY aG (L:=(fun i=>if i=11 then Gv.lp else aC i)) (fun b hb=>by
 rw [show aB _=[Di] by kernel_rfl] at hb
 simp only [List.mem_cons,List.not_mem_nil,or_false] at hb
 subst hb
 exact aoM) (fun args lv h=>by
 unfold aeJ at h
 split at h
 ·simp only [canL,canX]
  rw [aqG]
  rename_i cs os ks gs bs l rs d t n
  obtain ⟨hw,rfl⟩:=h
  refine ⟨hw,fun c=>?_,fun c=>?_⟩
  ·unfold deA deR Hu deE
   rw [ntW c]
   rfl
  have c:=LJ c
  have V:=asP c
  have ol:(PU cs os ks gs bs l d t (kM d t)).length=gs.length:=(ato V).1
  have hE:Xi (fA cs os ks gs bs l rs d t n):=⟨rfl,rfl,⟨rfl,by have:=V.gl;show (gs.length:Int)≤16;omega⟩,⟨rfl,rfl⟩,⟨by have:=(jI V.les).1;show (l.length:Int)≤1000;omega,V.tb⟩,⟨V.rl,ol,by show (List.replicate _ (0:Int)).length=gs.length;rw [List.length_replicate];omega,by show (List.replicate _ ((0:Int),(0:Int))).length=gs.length;rw [List.length_replicate];omega⟩,alu V,by have:=V.nb;show 1≤n-(0:Int);omega,by have:=V.nb;show n-(0:Int)≤999900;omega⟩
  obtain ⟨_,_,q1,q2,q3,q4⟩:=ash _ hE
  have hn:=asf _ hE
  have hn:(gW (fA cs os ks gs bs l rs d t n)).n-((gW (fA cs os ks gs bs l rs d t n)).dA.length:Int)=n:=hn.trans (Int.sub_zero n)
  have q2:(gW (fA cs os ks gs bs l rs d t n)).dX=deA cs os ks gs bs l rs d t n:=q2.trans (by unfold deA;rw [if_pos c];rfl)
  have q3:(gW (fA cs os ks gs bs l rs d t n)).next=deR cs os ks gs bs l rs d t n:=q3.trans (by unfold deR;rw [if_pos c];rfl)
  rw [hn] at q4
  have q4:(gW (fA cs os ks gs bs l rs d t n)).dA=Hu cs os ks gs bs l rs d t n:=q4.trans (by unfold Hu;rw [if_pos c];rfl)
  have gl:=V.gl
  refine ⟨⟨V.dl,asX V.si,adN V,abP V⟩,fun c2=>absurd c2 (by decide),fun _=>?_⟩
  refine ⟨by rw [ol];omega,by rw [ol];omega,⟨rfl,by simp⟩,⟨rfl,by simp⟩,⟨rfl,rfl⟩,⟨hE,rfl,rfl⟩,?_⟩
  rw [q1]
  refine ⟨fun h=>(by cases h),fun _=>⟨by omega,by omega,by omega,?_⟩⟩
  show LV.gQ [LV.xl _ _,LV.xl _ _,LV.xl _ _,_]=_
  rw [List.drop_zero,List.take_length,List.drop_zero,List.take_length,List.drop_zero,List.take_length,q2,q3,q4]
  unfold deE
  rw [if_pos c]
 ·cases h)
end Go.Proofs.YtlihnbimgclogaaGreatDoor
namespace Go.Proofs.YtlihnbimgclogaaGreatDoor
open Go.Sx
noncomputable def akZ:Specs:=bf []
theorem auc:∀g S,akZ g=some S→Valid Tryz.prog aS g S:=aT (l:=[]) trivial
structure kE where
 a:List Int
 b:List Int
 r:Bool
 i:Int
def aBr (s:kE):List LV:=[.xl (.int .i64) s.a,.xl (.int .i64) s.b,.v (.bool s.r),.v (.int .i64 s.i)]
def aBq (_:kE):List aW:=[]
noncomputable def yL:Code:=((aB (Tryz.f16.body.getD .skip))[0]?).getD .skip
def Pj (s:kE):T (Rd kE):=
 .br (decide (s.i<(List.length s.a:Int))) (.req (0≤s.i∧s.i<(List.length s.a:Int)) (.req (0≤s.i∧s.i<(List.length s.b:Int)) (.br ((gi s.a s.i) !=(gi s.b s.i)) (.ok (.stop (.ret) {s with r:=false})) (.ok (.next {s with i:=(IntKind.i64.wrap (s.i+1))}))))) (.ok (.stop (.exit 0) s))
abbrev alg (s:kE):=(Pj s).rd s
def zS (s:kE) (j:Int):Bool:=gi s.a j==gi s.b j
def aar (s:kE):Prop:=s.i=0∧0≤(List.length s.a:Int)∧(List.length s.a:Int)≤1000∧s.a.length=s.b.length
def ED (s:kE):Prop:=0≤s.i∧s.i≤(List.length s.a:Int)∧(List.length s.a:Int)≤1000∧(s.a.length=s.b.length)∧∀j:Nat,(j:Int)<s.i→zS s j=true
def He (s:kE):Nat:=((List.length s.a:Int)-s.i).toNat
def aan (x:Ex) (_ s':kE):Prop:=(x=.exit 0∧∀j:Nat,(j:Int)<(List.length s'.a:Int)→zS s' j=true)∨(x=.ret∧s'.r=false∧∃j:Nat,(j:Int)<(List.length s'.a:Int)∧zS s' j=false)
theorem ax3:∀s,aar s→ED s:=by
 intro s h
 obtain ⟨h0,h1,h2,h3⟩:=h
 exact ⟨by omega,by omega,h2,h3,fun j hj=>by omega⟩
theorem apl (s:kE) (hI:ED s):bP (fun s'=>ED s'∧He s'<He s) (fun x s'=>aan x s s') (alg s):=by
 unfold alg Pj
 dsimp only [T.rd,T.rl]
 obtain ⟨h0,h1,h2,h3,h4⟩:=hI
 refine au (fun c1=>au (fun c2=>?_) (fun c2=>?_)) (fun c1=>?_)
 ·have c1:s.i<(List.length s.a:Int):=by simpa using c1
  refine .inr ⟨rfl,rfl,s.i.toNat,by simp only;omega,?_⟩
  rw [Int.toNat_of_nonneg (by omega)]
  have hg:zS s s.i=false:=by unfold zS;(simpa using c2)
  exact hg
 ·have c1:s.i<(List.length s.a:Int):=by simpa using c1
  have hg:zS s s.i=true:=by unfold zS;(simpa using c2)
  rw [aN (x:=s.i+1) (by omega) (by omega)]
  refine ⟨⟨by simp only;omega,by simp only;omega,h2,h3,fun j hj=>?_⟩,by simp only [He];omega⟩
  by_cases hji:(j:Int)<s.i
  ·exact h4 j hji
  ·have:(j:Int)=s.i:=by simp only at hj;omega
   rw [this];exact hg
 ·have c1:(List.length s.a:Int)≤s.i:=by simpa using c1
  exact .inl ⟨rfl,fun j hj=>h4 j (by omega)⟩
def xK:bQ kE:=⟨0,26,[0,1,4,5],[],aBr,aBq,fun v _=>⟨aQ (.int .i64) (v.getD 0 .junk),aQ (.int .i64) (v.getD 1 .junk),yF (v.getD 2 .junk),gI (v.getD 3 .junk)⟩,Pj,fun s r=> {r with a:=s.a,b:=s.b},fun s=>s,fun _ s=>s,[.ret,.exit 0],aar,ED,He⟩
abbrev UC:=xK.run
abbrev VA:=xK.jU
abbrev asL:=xK.q
theorem ao8 (s:kE) (hI:ED s):(Pj s).all (fun _=>True):=by
 refine ⟨fun c1=>⟨?_,?_,fun _=>trivial,fun _=>trivial⟩,fun _=>trivial⟩
 all_goals ((obtain ⟨h0,h1,h2,h3,h4⟩:=hI;simp at c1;omega))
theorem abN:xK.Ok:=⟨fun s=>by kernel_rfl,fun s=>by kernel_rfl,fun s=>rfl,fun s t r=>rfl,fun s=>rfl,fun s=>by kernel_rfl⟩
theorem abL:xK.Pf (aan):=⟨ax3,fun _ _=>rfl,apl,ao8⟩
theorem agO:bn Tryz.prog aS (AN 0) (.loop yL) xK.lp:=bQ.snd abN abL (aU (Γ:=akZ) (K:=fE) (L:=aC) auc aG yL (fun b hb=>by rw [show aB yL=[] by kernel_rfl] at hb;cases hb)) (fun s=>by kernel_rfl)
theorem ahl (s:kE) (hE:aar s):∃s',ED s'∧aan (VA s) s' (UC s):=bQ.fin abN abL s hE
def Wv:List LV→T LV
 | [.xl (.int .i64) a,.xl (.int .i64) b]=> .req ((List.length a:Int)≤1000) (.ok (.v (.bool (a==b))))
 |_=> .no
noncomputable def SL:List LV→T LV:=gZ Tryz.prog Tryz.f16.params.toList Wv
theorem ajB (a b:List Int):bW Tryz.prog aS (akZ) fE (fun i=>if i=4 then xK.lp else aC i) Tryz.f16 [.xl (.int .i64) a,.xl (.int .i64) b]=.br ((List.length a:Int) !=(List.length b:Int)) (.ok (.v (.bool false))) (.req (asL (⟨a,b,false,(0:Int)⟩:kE)) (.br (iE (VA (⟨a,b,false,(0:Int)⟩:kE)) (.ret)) (.ok (.v (.bool (UC (⟨a,b,false,(0:Int)⟩:kE)).r))) (.ok (.v (.bool true))))):=by kernel_rfl
theorem anG:Valid Tryz.prog aS 16 SL:=aI Tryz.func16 rfl auc aG (L:=(fun i=>if i=4 then xK.lp else aC i)) (fun b hb=>by
 rw [show aB _=[yL] by kernel_rfl] at hb
 simp only [List.mem_cons,List.not_mem_nil,or_false] at hb
 subst hb
 exact agO) (fun args lv h=>by
 unfold Wv at h
 split at h
 ·simp only [canL,canX]
  rw [ajB]
  rename_i a b
  obtain ⟨hl,rfl⟩:=h
  refine ⟨fun c=>congrArg (fun z=>LV.v (.bool z)) ?_,fun c=>?_⟩
  ·have c:¬a.length=b.length:=by simp at c;omega
   rw [eq_comm,beq_eq_false_iff_ne]
   exact fun e=>c (by rw [e])
  ·have c:a.length=b.length:=by simp at c;omega
   refine oH ⟨⟨rfl,Int.natCast_nonneg _,hl,c⟩,rfl,rfl⟩ (fun hE=>?_)
   obtain ⟨s',_,hq⟩:=ahl _ hE.1
   rcases hq with ⟨q1,q2⟩ |⟨q1,q2,j,q3,q4⟩
   ·have e:(a==b)=true:=by
     rw [beq_iff_eq]
     refine List.ext_getElem c fun j h1 h2=>?_
     have:(gi a j==gi b j)=true:=q2 j (by show (j:Int)<(a.length:Int);omega)
     rw [pX (by simpa using h1),pX (by simpa using h2)] at this
     simpa using this
    rw [q1,e]
    exact ⟨fun h=>(by cases h),fun _=>rfl⟩
   ·have e:(a==b)=false:=by
     rw [beq_eq_false_iff_ne]
     rintro rfl
     have q4:(gi a j==gi a j)=false:=q4
     simp at q4
    rw [q1,q2,e]
    exact ⟨fun _=>rfl,fun h=>by cases h⟩
 ·cases h)
end Go.Proofs.YtlihnbimgclogaaGreatDoor
namespace Go.Proofs.YtlihnbimgclogaaGreatDoor
open Go.Sx
structure nX where
 l:List ByteArray
 k:Int
 i:Int
 aH:Value
 cu:Value
 bG:Value
 bK:Value
 eX:Value
 af:List Cd
 aA:List ByteArray
 ai:Value
 aJ:Value
 gs:List Ch
def aF5 (s:nX):List LV:=[.own 0 0,.own 1 0,.xl .str s.l,.v (.int .i64 s.k),.v (.int .i64 s.i)]
def aE2 (s:nX):List aW:=[⟨[.v (s.aH),.v (s.cu),.v (s.bG),.v (s.bK),.v (s.eX)],28,.cl,false⟩,⟨[.xl eu s.af,.xl .str s.aA,.v (s.ai),.os 2 8 0 (List.length s.gs),.v (s.aJ)],28,.cl,false⟩,⟨[],58,.vec dK s.gs,false⟩]
noncomputable def Ce:Code:=((aB (Tryz.f33.body.getD .skip))[0]?).getD .skip
def aaU (s:nX):T (Rd nX):=
 .br (decide (s.i<s.k)) (.req (0≤s.i∧s.i<(List.length s.l:Int)) (.req (0+(List.length s.gs)=List.length s.gs∧((List.length s.gs+List.length ([((gS s.l s.i),((0:Int),((1:Int),((6:Int),((10:Int),((1:Int),((0:Int),(0:Int))))))))]):Nat):Int)*72≤2^47∧((List.length s.gs+List.length ([((gS s.l s.i),((0:Int),((1:Int),((6:Int),((10:Int),((1:Int),((0:Int),(0:Int))))))))]):Nat):Int)<2^62) (.req (0=0∧(List.length s.gs+List.length ([((gS s.l s.i),((0:Int),((1:Int),((6:Int),((10:Int),((1:Int),((0:Int),(0:Int))))))))]))=List.length (s.gs++([((gS s.l s.i),((0:Int),((1:Int),((6:Int),((10:Int),((1:Int),((0:Int),(0:Int))))))))]))) (.ok (.next {s with i:=(IntKind.i64.wrap (s.i+1)),gs:=(s.gs++([((gS s.l s.i),((0:Int),((1:Int),((6:Int),((10:Int),((1:Int),((0:Int),(0:Int))))))))]))}))))) (.rl s.gs (.ok (.stop (.exit 0) s)))
abbrev auO (s:nX):=(aaU s).rd s
def pkG:List Ch:=[(ByteArray.mk #[120],0,1,6,10,1,0,0),(ByteArray.mk #[121],0,1,6,10,1,0,0)]
def pkC (n:Int):List Cd:=[(ByteArray.mk #[102],-1,n,100,(0,0),0,0,0,0,0)]
def pkS:List ByteArray:=[ByteArray.mk #[120],ByteArray.mk #[121]]
def ae2 (s:nX):Prop:=s.i=0∧s.gs=[]∧s.l=pkS∧s.k=2
def Og (s:nX):Prop:=(0≤s.i∧s.i≤2)∧s.gs=pkG.take s.i.toNat∧s.l=pkS∧s.k=2
def Qm (s:nX):Nat:=(2-s.i).toNat
def amy (x:Ex) (_ s':nX):Prop:=x=.exit 0∧s'.gs=pkG
theorem aCP:∀s,ae2 s→Og s:=by
 intro s h
 obtain ⟨h0,h1,h2⟩:=h
 exact ⟨by omega,by rw [h0,h1];rfl,h2⟩
theorem ax9 (s:nX) (hI:Og s):bP (fun s'=>Og s'∧Qm s'<Qm s) (fun x s'=>amy x s s') (auO s):=by
 unfold auO aaU
 dsimp only [T.rd,T.rl]
 obtain ⟨⟨h0,h1⟩,h2,h3,h4⟩:=hI
 refine au (fun c1=>?_) (fun c1=>?_)
 ·have c1:s.i<2:=by simpa [h4] using c1
  rw [aN (x:=s.i+1) (by omega) (by omega)]
  refine ⟨⟨⟨by simp only;omega,by simp only;omega⟩,?_,h3,h4⟩,by simp only [Qm];omega⟩
  simp only
  rw [h2,h3]
  rcases (by omega:s.i=0∨s.i=1) with e|e<;>rw [e]<;>rfl
 ·have c1:2≤s.i:=by simpa [h4] using c1
  refine ⟨rfl,?_⟩
  rw [h2,show s.i.toNat=2 by omega]
  rfl
def FU:bQ nX:=⟨0,27,[2,3,12,13,14],[.nc 1 3 58 dK],aF5,aE2,fun v b=>⟨aQ .str (v.getD 2 .junk),gI (v.getD 3 .junk),gI (v.getD 4 .junk),gAn (aV (aO b 0) 0),gAn (aV (aO b 0) 1),gAn (aV (aO b 0) 2),gAn (aV (aO b 0) 3),gAn (aV (aO b 0) 4),aQ eu (aV (aO b 1) 0),aQ .str (aV (aO b 1) 1),gAn (aV (aO b 1) 2),gAn (aV (aO b 1) 4),jd dK (aO b 2)⟩,aaU,fun s r=> {r with l:=s.l,k:=s.k,aH:=s.aH,cu:=s.cu,bG:=s.bG,bK:=s.bK,eX:=s.eX,af:=s.af,aA:=s.aA,ai:=s.ai,aJ:=s.aJ},fun s=>s,fun _ s=>s,[.exit 0],ae2,Og,Qm⟩
abbrev xW:=FU.run
abbrev arF:=FU.jU
abbrev aAM:=FU.q
theorem axi (s:nX) (hI:Og s):(aaU s).all (fun _=>True):=by
 refine ⟨fun c1=>⟨?_,?_,?_,trivial⟩,fun c1=>⟨⟨rfl,rfl⟩,trivial⟩⟩
 all_goals ((obtain ⟨⟨h0,h1⟩,h2,h3,h4⟩:=hI;simp only [decide_eq_true_eq] at c1;have hl:s.l.length=2:=(by rw [h3];rfl);have hg:s.gs.length≤2:=(by rw [h2,List.length_take];show min _ 2≤2;omega);first|omega|(refine ⟨by omega,?_,?_⟩<;>simp only [List.length_cons,List.length_nil]<;>omega) |exact ⟨rfl,by simp⟩))
noncomputable def Y6:Specs:=bf []
theorem akO:∀g S,Y6 g=some S→Valid Tryz.prog aS g S:=aT (l:=[]) trivial
theorem aiU:FU.Ok:=⟨fun s=>by kernel_rfl,fun s=>by kernel_rfl,fun s=>rfl,fun s t r=>rfl,fun s=>rfl,fun s=>by kernel_rfl⟩
theorem ahM:FU.Pf (amy):=⟨aCP,fun _ _=>rfl,ax9,axi⟩
theorem aol:bn Tryz.prog aS (AN 0) (.loop Ce) FU.lp:=bQ.snd aiU ahM (aU (Γ:=Y6) (K:=fE) (L:=aC) akO aG Ce (fun b hb=>by rw [show aB Ce=[] by kernel_rfl] at hb;cases hb)) (fun s=>by kernel_rfl)
theorem apq (s:nX) (hE:ae2 s):∃s',Og s'∧amy (arF s) s' (xW s):=bQ.fin aiU ahM s hE
def aeh:List LV→T LV
 | [.v (.int .i64 n)]=> .ok (.agg [.xl eu (pkC n),.xl .str ([(ByteArray.mk #[111])]),.xl eG ([]:List Ko),.xl dK pkG,.xl eP ([]:List Ba)])
 |_=> .no
noncomputable def ZQ:List LV→T LV:=gZ Tryz.prog Tryz.f33.params.toList aeh
theorem aqf (n:Int):bW Tryz.prog aS (Y6) fE (fun i=>if i=3 then FU.lp else aC i) Tryz.f33 [.v (.int .i64 n)]=.req (0=0∧0=List.length ([]:List Ch)) (.req (aAM (⟨([(ByteArray.mk #[120]),(ByteArray.mk #[121])]),(List.length ([(ByteArray.mk #[120]),(ByteArray.mk #[121])]):Int),(0:Int),(.slice none 0 0),(.slice none 0 0),(.slice none 0 0),(.slice none 0 0),(.slice none 0 0),([((ByteArray.mk #[102]),((-1:Int),(n,((100:Int),(((0:Int),(0:Int)),((0:Int),((0:Int),((0:Int),((0:Int),(0:Int))))))))))]),([(ByteArray.mk #[111])]),(.slice none 0 0),(.slice none 0 0),([]:List Ch)⟩:nX)) (.req (0+(List.length (xW (⟨([(ByteArray.mk #[120]),(ByteArray.mk #[121])]),(List.length ([(ByteArray.mk #[120]),(ByteArray.mk #[121])]):Int),(0:Int),(.slice none 0 0),(.slice none 0 0),(.slice none 0 0),(.slice none 0 0),(.slice none 0 0),([((ByteArray.mk #[102]),((-1:Int),(n,((100:Int),(((0:Int),(0:Int)),((0:Int),((0:Int),((0:Int),((0:Int),(0:Int))))))))))]),([(ByteArray.mk #[111])]),(.slice none 0 0),(.slice none 0 0),([]:List Ch)⟩:nX)).gs)≤List.length (xW (⟨([(ByteArray.mk #[120]),(ByteArray.mk #[121])]),(List.length ([(ByteArray.mk #[120]),(ByteArray.mk #[121])]):Int),(0:Int),(.slice none 0 0),(.slice none 0 0),(.slice none 0 0),(.slice none 0 0),(.slice none 0 0),([((ByteArray.mk #[102]),((-1:Int),(n,((100:Int),(((0:Int),(0:Int)),((0:Int),((0:Int),((0:Int),((0:Int),(0:Int))))))))))]),([(ByteArray.mk #[111])]),(.slice none 0 0),(.slice none 0 0),([]:List Ch)⟩:nX)).gs) (.ok (.agg [.xl eu ([((ByteArray.mk #[102]),((-1:Int),(n,((100:Int),(((0:Int),(0:Int)),((0:Int),((0:Int),((0:Int),((0:Int),(0:Int))))))))))]),.xl .str ([(ByteArray.mk #[111])]),.xl eG ([]:List Ko),.xl dK (((xW (⟨([(ByteArray.mk #[120]),(ByteArray.mk #[121])]),(List.length ([(ByteArray.mk #[120]),(ByteArray.mk #[121])]):Int),(0:Int),(.slice none 0 0),(.slice none 0 0),(.slice none 0 0),(.slice none 0 0),(.slice none 0 0),([((ByteArray.mk #[102]),((-1:Int),(n,((100:Int),(((0:Int),(0:Int)),((0:Int),((0:Int),((0:Int),((0:Int),(0:Int))))))))))]),([(ByteArray.mk #[111])]),(.slice none 0 0),(.slice none 0 0),([]:List Ch)⟩:nX)).gs.drop 0).take (List.length (xW (⟨([(ByteArray.mk #[120]),(ByteArray.mk #[121])]),(List.length ([(ByteArray.mk #[120]),(ByteArray.mk #[121])]):Int),(0:Int),(.slice none 0 0),(.slice none 0 0),(.slice none 0 0),(.slice none 0 0),(.slice none 0 0),([((ByteArray.mk #[102]),((-1:Int),(n,((100:Int),(((0:Int),(0:Int)),((0:Int),((0:Int),((0:Int),((0:Int),(0:Int))))))))))]),([(ByteArray.mk #[111])]),(.slice none 0 0),(.slice none 0 0),([]:List Ch)⟩:nX)).gs)),.xl eP ([]:List Ba)])))):=by kernel_rfl
theorem avZ:Valid Tryz.prog aS 33 ZQ:=aI Tryz.func33 rfl akO aG (L:=(fun i=>if i=3 then FU.lp else aC i)) (fun b hb=>by
 rw [show aB _=[Ce] by kernel_rfl] at hb
 simp only [List.mem_cons,List.not_mem_nil,or_false] at hb
 subst hb
 exact aol) (fun args lv h=>by
 unfold aeh at h
 split at h
 ·simp only [canL,canX]
  rw [aqf]
  rename_i n
  obtain rfl:=h
  have hE:ae2 ⟨([(ByteArray.mk #[120]),(ByteArray.mk #[121])]),(List.length ([(ByteArray.mk #[120]),(ByteArray.mk #[121])]):Int),0,.slice none 0 0,.slice none 0 0,.slice none 0 0,.slice none 0 0,.slice none 0 0,[((ByteArray.mk #[102]),-1,n,100,(0,0),0,0,0,0,0)],[(ByteArray.mk #[111])],.slice none 0 0,.slice none 0 0,[]⟩:=⟨rfl,rfl,rfl,rfl⟩
  obtain ⟨_,_,q1,q2⟩:=apq _ hE
  have q2:(xW ⟨([(ByteArray.mk #[120]),(ByteArray.mk #[121])]),(List.length ([(ByteArray.mk #[120]),(ByteArray.mk #[121])]):Int),0,.slice none 0 0,.slice none 0 0,.slice none 0 0,.slice none 0 0,.slice none 0 0,[((ByteArray.mk #[102]),-1,n,100,(0,0),0,0,0,0,0)],[(ByteArray.mk #[111])],.slice none 0 0,.slice none 0 0,[]⟩).gs=pkG:=q2
  refine ⟨⟨rfl,rfl⟩,⟨hE,rfl,rfl⟩,by omega,?_⟩
  rw [List.drop_zero,List.take_length,q2]
  rfl
 ·cases h)
def aez:List LV→T LV
 | []=> .ok (.v (.bool true))
 |_=> .no
noncomputable def Z5:List LV→T LV:=gZ Tryz.prog Tryz.f11.params.toList aez
noncomputable def ak6:Specs:=bf [(14,Ku),(16,SL),(19,J9),(33,ZQ)]
theorem azo:∀g S,ak6 g=some S→Valid Tryz.prog aS g S:=aT (l:=[(14,Ku),(16,SL),(19,J9),(33,ZQ)]) ⟨agJ,anG,agF,avZ,trivial⟩
theorem aqw:(bW Tryz.prog aS (ak6) fE aC Tryz.f11 []).red=.req (yS ([(true,((0:Int),((0:Int),(2:Int)))),(true,((0:Int),((50:Int),(1:Int))))]) (40:Int)∧([(true,((0:Int),((0:Int),(2:Int)))),(true,((0:Int),((50:Int),(1:Int))))]).length≤19) (.req (yS ([(true,((0:Int),((0:Int),(2:Int)))),(true,((0:Int),((50:Int),(1:Int))))]) (40:Int)∧([(true,((0:Int),((0:Int),(2:Int)))),(true,((0:Int),((50:Int),(1:Int))))]).length≤19) (.req (0≤(0:Int)∧(0:Int)≤(1:Int)∧(1:Int)≤(List.length ([((0:Int),(9:Int)),((0:Int),(9:Int))]):Int)) (.req (yS ([(true,((0:Int),((0:Int),(2:Int)))),(true,((0:Int),((50:Int),(1:Int))))]) (40:Int)∧([(true,((0:Int),((0:Int),(2:Int)))),(true,((0:Int),((50:Int),(1:Int))))]).length≤19) (.req ((List.length (deA (pkC (10:Int)) ([(ByteArray.mk #[111])]) ([]:List Ko) pkG ([]:List Ba) ([]:List Le) ([((0:Int),(9:Int)),((0:Int),(9:Int))]) ([(true,((0:Int),((0:Int),(2:Int)))),(true,((0:Int),((50:Int),(1:Int))))]) (40:Int) (7:Int)):Int)≤1000) (.req (0≤(1:Int)∧1<(List.length (deR (pkC (10:Int)) ([(ByteArray.mk #[111])]) ([]:List Ko) pkG ([]:List Ba) ([]:List Le) ([((0:Int),(9:Int)),((0:Int),(9:Int))]) ([(true,((0:Int),((0:Int),(2:Int)))),(true,((0:Int),((50:Int),(1:Int))))]) (40:Int) (7:Int)):Int)) (.req (0≤(0:Int)∧0<(List.length (deR (pkC (10:Int)) ([(ByteArray.mk #[111])]) ([]:List Ko) pkG ([]:List Ba) ([]:List Le) ([((0:Int),(9:Int)),((0:Int),(9:Int))]) ([(true,((0:Int),((0:Int),(2:Int)))),(true,((0:Int),((50:Int),(1:Int))))]) (40:Int) (7:Int)):Int)) (.req (0≤(0:Int)∧0<(List.length (Hu (pkC (10:Int)) ([(ByteArray.mk #[111])]) ([]:List Ko) pkG ([]:List Ba) ([]:List Le) ([((0:Int),(9:Int)),((0:Int),(9:Int))]) ([(true,((0:Int),((0:Int),(2:Int)))),(true,((0:Int),((50:Int),(1:Int))))]) (40:Int) (7:Int)):Int)) (.req ((List.length (deA (pkC (20:Int)) ([(ByteArray.mk #[111])]) ([]:List Ko) pkG ([]:List Ba) ([((3:Int),((1:Int),((20:Int),((30:Int),(12:Int)))))]) ([((0:Int),(9:Int)),((0:Int),(9:Int))]) ([(true,((0:Int),((0:Int),(2:Int)))),(true,((0:Int),((50:Int),(1:Int))))]) (40:Int) (7:Int)):Int)≤1000) (.req (yS ([(true,((0:Int),((0:Int),(2:Int)))),(true,((0:Int),((50:Int),(1:Int))))]) (40:Int)∧([(true,((0:Int),((0:Int),(2:Int)))),(true,((0:Int),((50:Int),(1:Int))))]).length≤19) (.req ((List.length (kM ([(true,((0:Int),((0:Int),(2:Int)))),(true,((0:Int),((50:Int),(1:Int))))]) (40:Int)):Int)≤1000) (.ok (.v (.bool true))))))))))))):=by kernel_rfl
theorem av9:Valid Tryz.prog aS 11 Z5:=aI Tryz.func11 rfl azo aG (aY (by kernel_rfl)) (fun args lv h=>by
 unfold aez at h
 split at h
 ·simp only [canL]
  refine @T.H9 _ _ _ ?_
  rw [aqw]
  exact ⟨(by first|decide+kernel|(unfold yS;decide+kernel)),(by first|decide+kernel|(unfold yS;decide+kernel)),(by first|decide+kernel|(unfold yS;decide+kernel)),(by first|decide+kernel|(unfold yS;decide+kernel)),(by first|decide+kernel|(unfold yS;decide+kernel)),(by first|decide+kernel|(unfold yS;decide+kernel)),(by first|decide+kernel|(unfold yS;decide+kernel)),(by first|decide+kernel|(unfold yS;decide+kernel)),(by first|decide+kernel|(unfold yS;decide+kernel)),(by first|decide+kernel|(unfold yS;decide+kernel)),(by first|decide+kernel|(unfold yS;decide+kernel)),h⟩
 ·cases h)
end Go.Proofs.YtlihnbimgclogaaGreatDoor
namespace Go.Proofs.YtlihnbimgclogaaGreatDoor
open Go.Sx
section
variable {P : List Int → Bool} {tp : Int → Int}
end
end Go.Proofs.YtlihnbimgclogaaGreatDoor
namespace Go.Proofs.YtlihnbimgclogaaGreatDoor
open Go.Sx
theorem apb {al x y:List Int}{r:Rw}(hm:∀m∈r.2,0≤gi y m∧gi y m≤gi x m) (h:rowB al x r=true):rowB al y r=true:=by
 unfold rowB at h⊢
 rw [Bool.or_eq_true] at h⊢
 rcases h with h|h
 ·left
  rw [List.all_eq_true] at h⊢
  intro m hmm
  have h1:=h m hmm
  have h2:=hm m hmm
  rw [beq_iff_eq] at h1⊢
  omega
 ·right
  exact decide_eq_true (Int.le_trans (Uw fun m hmm=>(hm m hmm).2) (of_decide_eq_true h))
theorem aif {rows:List Rw}{al x y:List Int}(hm:∀r∈rows,∀m∈r.2,0≤gi y m∧gi y m≤gi x m) (h:Aq rows al x=true):Aq rows al y=true:=by
 unfold Aq at h⊢
 rw [List.all_eq_true] at h⊢
 exact fun r hr=>apb (hm r hr) (h r hr)
section
variable {cs : List Cd} {os : List ByteArray} {ks : List Ko} {gs : List Ch} {bs : List Ba} {l : List Le} {rs : List Ra} {d : List Dm} {t n : Int}
theorem ag0 {al mo od:List Int}(hk:sQ cs os ks gs bs al mo od=true):Aq (jH cs gs cs.length) al (yP cs os ks gs bs al mo od)=true:=by
 rw [ag1 hk]
 exact ayS (agZ hk)
theorem azV {w:List Int}{k:Nat}{j:Int}(h0:0≤j) (h1:j<(k:Int)):gi (LU gs rs w k) j=nxA (bD gs j) (mM rs j) (gi w j):=jE h0 h1
theorem au7 (V:Vd cs os ks gs bs l rs d t n) {j:Int}(j0:0≤j) (j1:j<(gs.length:Int)):0≤gi (LU gs rs (MR cs os ks gs bs l d t) gs.length) j∧gi (LU gs rs (MR cs os ks gs bs l d t) gs.length) j≤gi (MR cs os ks gs bs l d t) j∧gi (MR cs os ks gs bs l d t) j≤gi (tgL cs os ks gs bs d t) j:=by
 have hk:=alu V j j0 j1
 rw [azV j0 j1]
 exact ⟨(Yp hk).1,(apP hk rfl).2.1,((ag2 (abP V)).2 j j0 j1).2⟩
theorem apa {r:Rw}{m:Int}(hr:r∈jH cs gs cs.length) (hm:m∈r.2):0≤m∧m<(gs.length:Int):=(row_mem hr).2.1 m hm
theorem ase (V:Vd cs os ks gs bs l rs d t n):Aq (jH cs gs cs.length) (kW gs l t) (LU gs rs (MR cs os ks gs bs l d t) gs.length)=true:=
 aif (fun r hr m hm=>by
  have hm:=apa hr hm
  have:=au7 V hm.1 hm.2
  exact ⟨this.1,this.2.1⟩) (ag0 (abP V))
theorem aDW (h:(!arp cs os ks gs bs l rs d)=false):(l.length:Int)≤1000:=by
 have h:=LJ h
 unfold arp at h
 simp only [Bool.and_eq_true,decide_eq_true_eq] at h
 omega
theorem azN (c:Ie cs os ks gs bs l rs d t n=true):deA cs os ks gs bs l rs d t n=LU gs rs (MR cs os ks gs bs l d t) gs.length∧deR cs os ks gs bs l rs d t n=dcR gs rs (MR cs os ks gs bs l d t) gs.length∧Hu cs os ks gs bs l rs d t n=RX gs l t n (LU gs rs (MR cs os ks gs bs l d t) gs.length) gs.length∧deE cs os ks gs bs l rs d t n=0:=by
 unfold deA deR Hu deE
 rw [if_pos c,if_pos c,if_pos c,if_pos c]
 exact ⟨rfl,rfl,rfl,rfl⟩
theorem ayi {i a:Int}(h:nwB gs l t i a=true):zD (bD gs i)<a:=by
 unfold nwB at h
 rw [Bool.and_eq_true] at h
 have h1:=h.1
 simp only [Bool.not_eq_true',decide_eq_false_iff_not] at h1
 omega
end
end Go.Proofs.YtlihnbimgclogaaGreatDoor
namespace Go.Proofs.YtlihnbimgclogaaGreatDoor
open Go.Sx
abbrev Ld:=Int×Ra
def Be (l:List Ld) (i:Nat):Ld:=l.getD i (Ty.dflt (.pair (.int .i64) oP))
def Ti (l:List Ld) (i:Nat) (v:Int):List Ld:=l.set i ((IntKind.i64.wrap ((l.getD i (Ty.dflt (.pair (.int .i64) oP))).1+v)),(l.getD i (Ty.dflt (.pair (.int .i64) oP))).2)
def Xq (l:List Ld) (i:Nat) (v:Int):List Ld:=l.set i ((l.getD i (Ty.dflt (.pair (.int .i64) oP))).1,((IntKind.i64.wrap ((l.getD i (Ty.dflt (.pair (.int .i64) oP))).2.1+v)),(l.getD i (Ty.dflt (.pair (.int .i64) oP))).2.2))
def up3 (l:List Ld) (i:Nat) (v:Int):List Ld:=l.set i ((l.getD i (Ty.dflt (.pair (.int .i64) oP))).1,((l.getD i (Ty.dflt (.pair (.int .i64) oP))).2.1,(IntKind.i64.wrap ((l.getD i (Ty.dflt (.pair (.int .i64) oP))).2.2+v))))
theorem xP {l:List Ld}{i:Nat}{v:Int}:(Ti l i v).length=l.length:=by simp [Ti]
theorem xO {l:List Ld}{i:Nat}{v:Int}:(Xq l i v).length=l.length:=by simp [Xq]
theorem xN {l:List Ld}{i:Nat}{v:Int}:(up3 l i v).length=l.length:=by simp [up3]
def adE (ph v:Int) (e:Ld):Ld:=
 (if (tH .i64 ph 1 !=0)=true then IntKind.i64.wrap (e.1+v) else e.1,
  (if (tH .i64 ph 2 !=0)=true then IntKind.i64.wrap (e.2.1+v) else e.2.1,
   if (tH .i64 ph 4 !=0)=true then IntKind.i64.wrap (e.2.2+v) else e.2.2))
def adP (ph v:Int) (l:List Ld) (i:Nat):List Ld:=l.set i (adE ph v (Be l i))
theorem acC {l:List Ld}{i j:Nat}{e:Ld}(h:i<l.length):Be (l.set i e) j=if i=j then e else Be l j:=by
 unfold Be
 rw [List.getD_eq_getElem?_getD,List.getD_eq_getElem?_getD,List.getElem?_set]
 by_cases hij:i=j
 ·subst hij
  rw [if_pos rfl,if_pos rfl,if_pos h]
  rfl
 ·rw [if_neg hij,if_neg hij]
theorem alb {l:List Ld}{i:Nat}(h:i<l.length):l.set i (Be l i)=l:=by
 unfold Be
 rw [List.getD_eq_getElem?_getD,List.getElem?_eq_getElem h]
 exact List.set_getElem_self h
theorem awt {l:List Ld}{i:Nat}{v:Int}:Ti l i v=l.set i (IntKind.i64.wrap ((Be l i).1+v),(Be l i).2):=rfl
theorem aws {l:List Ld}{i:Nat}{v:Int}:Xq l i v=l.set i ((Be l i).1,(IntKind.i64.wrap ((Be l i).2.1+v),(Be l i).2.2)):=rfl
theorem awr {l:List Ld}{i:Nat}{v:Int}:up3 l i v=l.set i ((Be l i).1,((Be l i).2.1,IntKind.i64.wrap ((Be l i).2.2+v))):=rfl
theorem aAf {ph v:Int}{l:List Ld}{i:Nat}(h:i<l.length):adP ph v l i=
  (let a:=if (tH .i64 ph 1 !=0)=true then Ti l i v else l
   let b:=if (tH .i64 ph 2 !=0)=true then Xq a i v else a
   if (tH .i64 ph 4 !=0)=true then up3 b i v else b):=by
 unfold adP adE
 dsimp only
 by_cases h1:(tH .i64 ph 1 !=0)=true<;>by_cases h2:(tH .i64 ph 2 !=0)=true<;>by_cases h4:(tH .i64 ph 4 !=0)=true<;>
  simp only [h1,h2,h4,if_true,Bool.false_eq_true,if_false,awt,aws,awr,acC h,List.set_set]<;>exact alb h
theorem asH {ph v:Int}{l:List Ld}{i:Nat}:(adP ph v l i).length=l.length:=by simp [adP]
def ldW:Nat→List Cd→Int→Int→Int→List Ld→List Ld
 |0,_,_,_,_,l=>l
 |k+1,cs,ph,v,c,l=>if c≥0 then ldW k cs ph v (dY cs c).2.1 (adP ph v l c.toNat) else l
def Tq (cs:List Cd) (ph v c:Int) (l:List Ld):List Ld:=ldW (c.toNat+2) cs ph v c l
theorem aj3 {cs:List Cd}{ph v:Int}(hu:LC cs=true):∀(k k':Nat) (c:Int) (l:List Ld),c<cs.length→(c+1).toNat<k→(c+1).toNat<k'→ldW k cs ph v c l=ldW k' cs ph v c l
 |0,_,_,_,_,h,_=>by omega
 |_+1,0,_,_,_,_,h=>by omega
 | k+1,k'+1,c,l,hc,h,h'=>by
  simp only [ldW]
  by_cases h0:c≥0
  ·rw [if_pos h0,if_pos h0]
   have:=wF hu h0 hc
   exact aj3 hu k k' _ _ (by omega) (by omega) (by omega)
  ·rw [if_neg h0,if_neg h0]
theorem ayX {cs:List Cd}{ph v c:Int}{l:List Ld}(hu:LC cs=true) (hc:c<cs.length):Tq cs ph v c l=if c≥0 then Tq cs ph v (dY cs c).2.1 (adP ph v l c.toNat) else l:=by
 unfold Tq
 rw [ldW]
 by_cases h0:c≥0
 ·rw [if_pos h0,if_pos h0]
  have:=wF hu h0 hc
  rw [aj3 hu (c.toNat+1) ((dY cs c).2.1.toNat+2) (dY cs c).2.1 _ (by omega) (by omega) (by omega)]
 ·rw [if_neg h0,if_neg h0]
theorem aiv {cs:List Cd}{o:Int}(hu:LC cs=true):∀(k:Nat) (c:Int),c<cs.length→Xt k cs o c=true→o≤c
 |0,_,_,h=>by simp [Xt] at h
 | k+1,c,hc,h=>by
  simp only [Xt] at h
  split at h
  ·rename_i h0
   rw [Bool.or_eq_true] at h
   rcases h with h|h
   ·have:=eq_of_beq h
    omega
   ·have h1:=wF hu h0 hc
    have:=aiv hu k _ (by omega) h
    omega
  ·cases h
theorem aj6 {cs:List Cd}{ph v:Int}(hu:LC cs=true) {o:Nat}:∀(k:Nat) (c:Int) (l:List Ld),c<cs.length→l.length=cs.length→(ldW k cs ph v c l).length=cs.length∧Be (ldW k cs ph v c l) o=if Xt k cs (o:Int) c=true then adE ph v (Be l o) else Be l o
 |0,c,l,hc,hl=>⟨hl,by simp [ldW,Xt]⟩
 | k +1,c,l,hc,hl=>by
  simp only [ldW]
  by_cases h0:c≥0
  ·have e0:Xt (k+1) cs (o:Int) c=(c==(o:Int) ||Xt k cs (o:Int) (dY cs c).2.1):=by
    show (if c≥0 then _ else _)=_
    rw [if_pos h0]
   rw [if_pos h0,e0]
   have h1:=wF hu h0 hc
   have hct:c.toNat<l.length:=by omega
   obtain ⟨q1,q2⟩:=aj6 hu (o:=o) k (dY cs c).2.1 (adP ph v l c.toNat) (by omega) (by rw [asH];exact hl)
   refine ⟨q1,?_⟩
   rw [q2]
   unfold adP
   rw [acC hct]
   by_cases hco:c.toNat=o
   ·have hb:(c==(o:Int))=true:=by rw [beq_iff_eq];omega
    have hn:Xt k cs (o:Int) (dY cs c).2.1=false:=by
     cases hq:Xt k cs (o:Int) (dY cs c).2.1 with
     |false=>rfl
     |true=>
      have:=aiv hu k _ (by omega) hq
      omega
    rw [hb,hn,if_pos hco,hco]
    simp
   ·have hb:(c==(o:Int))=false:=by
     cases hq:c==(o:Int) with
     |false=>rfl
     |true=>
      have:=eq_of_beq hq
      omega
    rw [hb,if_neg hco,Bool.false_or]
  ·have e0:Xt (k+1) cs (o:Int) c=false:=by
    show (if c≥0 then _ else _)=_
    rw [if_neg h0]
   rw [if_neg h0,e0]
   exact ⟨hl,by simp⟩
theorem YL {cs:List Cd}{ph v c:Int}{l:List Ld}(hu:LC cs=true) (hc:c<cs.length) (hl:l.length=cs.length) (o:Nat):(Tq cs ph v c l).length=cs.length∧Be (Tq cs ph v c l) o=if MP cs (o:Int) c=true then adE ph v (Be l o) else Be l o:=
 aj6 hu _ c l hc hl
def DK (cs:List Cd) (gs:List Ch) (am:List Int):Nat→List Ld
 |0=>List.replicate cs.length (Ty.dflt (.pair (.int .i64) oP))
 |k+1=>Tq cs (bD gs k).2.2.1 (gi am k) (bD gs k).2.1 (DK cs gs am k)
def EG (am:List Int):List Int→Int
 | []=>0
 |k::l=>gi am k+EG am l
theorem abn {am:List Int}:∀ {l m:List Int},EG am (l++m)=EG am l+EG am m
 | [],m=>by simp [EG]
 |k::l,m=>by
  rw [List.cons_append]
  simp only [EG]
  rw [abn]
  omega
theorem agS {am:List Int}{b:Int}:∀ {l:List Int},(∀k∈l,0≤gi am k∧gi am k≤b)→0≤EG am l∧EG am l≤b*(l.length:Int)
 | [],_=>by simp [EG]
 |k::l,h=>by
  have h1:=h k (by simp)
  have h2:=agS (b:=b) (fun j hj=>h j (List.mem_cons_of_mem _ hj))
  simp only [EG,List.length_cons,Int.natCast_add,Int.mul_add]
  omega
theorem aBT {ph:Int}:usA ph 0=(tH .i64 ph 1 !=0):=rfl
theorem aBS {ph:Int}:usA ph 1=(tH .i64 ph 2 !=0):=rfl
theorem aBR {ph:Int}:usA ph 2=(tH .i64 ph 4 !=0):=rfl
theorem ast {gs:List Ch}{p:Int}{l m:List Int}:fP gs p (l++m)=fP gs p l++fP gs p m:=by simp [fP]
theorem asq {gs:List Ch}{p k:Int}:fP gs p [k]=if usA (bD gs k).2.2.1 p=true then [k] else []:=by
 unfold fP
 rw [List.filter_cons]
 rfl
def ldO (cs:List Cd) (gs:List Ch) (am:List Int) (o:Int) (k:Nat):Ld:=(EG am (fP gs 0 (jR cs gs o k)),(EG am (fP gs 1 (jR cs gs o k)),EG am (fP gs 2 (jR cs gs o k))))
theorem Py {cs:List Cd}{gs:List Ch}{am:List Int}{o:Int}{k:Nat}{p:Int}:EG am (fP gs p (jR cs gs o (k+1)))=EG am (fP gs p (jR cs gs o k))+(if MP cs o (bD gs k).2.1=true then (if usA (bD gs k).2.2.1 p=true then gi am k else 0) else 0):=by
 rw [NH,ast,abn]
 by_cases h:MP cs o (bD gs k).2.1=true
 ·rw [if_pos h,if_pos h,asq]
  split<;>simp [EG]
 ·rw [if_neg h,if_neg h]
  simp [fP,EG]
theorem Rf {cs:List Cd}{gs:List Ch}{am:List Int}(hu:LC cs=true) (ha:atB cs gs=true):∀k:Nat,k≤gs.length→(DK cs gs am k).length=cs.length
 |0,_=>by simp [DK]
 |k+1,hk=>(YL hu (SC ha (by omega) (by omega)) (Rf hu ha k (by omega)) 0).1
theorem aj8 {cs:List Cd}{gs:List Ch}{am:List Int}(hu:LC cs=true) (ha:atB cs gs=true) (hg:gs.length≤1000) (hm:∀k:Nat,k<gs.length→0≤gi am k∧gi am k≤80):
  ∀k:Nat,k≤gs.length→(DK cs gs am k).length=cs.length∧∀o:Nat,o<cs.length→Be (DK cs gs am k) o=ldO cs gs am o k
 |0,_=>⟨by simp [DK],fun o ho=>by
  simp only [DK,ldO,Be]
  rw [List.getD_eq_getElem?_getD,List.getElem?_replicate,if_pos ho]
  rfl⟩
 | k+1,hk=>by
  obtain ⟨q1,q2⟩:=aj8 hu ha hg hm k (by omega)
  have hc:(bD gs k).2.1<(cs.length:Int):=SC ha (by omega) (by omega)
  refine ⟨(YL hu hc q1 0).1,fun o ho=>?_⟩
  show Be (Tq _ _ _ _ _) o=_
  rw [(YL hu hc q1 o).2,q2 o ho]
  have bd:∀p:Int,0≤EG am (fP gs p (jR cs gs o k))∧EG am (fP gs p (jR cs gs o k))≤80000:=fun p=>by
   have h1:=agS (am:=am) (b:=80) (l:=fP gs p (jR cs gs o k)) (fun j hj=>by
    have h2:=Dq (List.mem_filter.1 hj).1
    have:=hm j.toNat (by omega)
    rwa [Int.toNat_of_nonneg h2.1] at this)
   have h2:=adD (gs:=gs) (p:=p) (l:=jR cs gs o k)
   have h3:=Dt (cs:=cs) (gs:=gs) (o:=o) (k:=k)
   omega
  have hv:=hm k (by omega)
  have b0:=bd 0
  have b1:=bd 1
  have b2:=bd 2
  unfold ldO
  rw [Py,Py,Py]
  by_cases h:MP cs o (bD gs k).2.1=true
  ·rw [if_pos h,if_pos h,if_pos h,if_pos h]
   unfold adE
   rw [←aBT,←aBS,←aBR]
   dsimp only
   rw [aN (by omega) (by omega),aN (by omega) (by omega),aN (by omega) (by omega)]
   refine Prod.ext ?_ (Prod.ext ?_ ?_)<;>dsimp only<;>split<;>omega
  ·rw [if_neg h,if_neg h,if_neg h,if_neg h,Int.add_zero,Int.add_zero,Int.add_zero]
end Go.Proofs.YtlihnbimgclogaaGreatDoor
namespace Go.Proofs.YtlihnbimgclogaaGreatDoor
open Go.Sx
structure lC where
 t5:Int
 t23:List Int
 t24:Int
 t25:Int
 af:List Cd
 aA:List ByteArray
 ai:List Ko
 ak:List Ch
 aJ:List Ba
 qy:List Int
def aGg (s:lC):List LV:=[.own 0 0,.own 1 0,.v (.slice none 0 0),.v (.int .i64 s.t5),.xl (.int .i64) s.t23,.v (.int .i64 s.t24),.v (.int .i64 s.t25)]
def aFd (s:lC):List aW:=[⟨[.xl eu s.af,.xl .str s.aA,.xl eG s.ai,.xl dK s.ak,.xl eP s.aJ],28,.cl,false⟩,⟨[.xl (.int .i64) s.qy],35,.cl,false⟩]
noncomputable def CO:Code:=((aB (Tryz.f112.body.getD .skip))[0]?).getD .skip
def aaX (s:lC):T (Rd lC):=
 .br (decide (s.t25<s.t24)) (.req (0≤s.t25∧s.t25<(List.length s.t23:Int)) (.br ((decide ((gi s.t23 s.t25)<0)) ||(decide ((gi s.t23 s.t25)>80))) (.ok (.stop (.ret) {s with t5:=(1:Int)})) (.ok (.next {s with t25:=(IntKind.i64.wrap (s.t25+1))})))) (.ok (.stop (.exit 0) s))
abbrev auR (s:lC):=(aaX s).rd s
def ae5 (s:lC):Prop:=s.t5=0∧s.t25=0∧s.t24=(List.length s.t23:Int)∧s.t24≤1000∧∀k:Nat,k<s.t23.length→0≤gi s.t23 k∧gi s.t23 k≤80
def Ot (s:lC):Prop:=s.t5=0∧(0≤s.t25∧s.t25≤s.t24)∧s.t24=(List.length s.t23:Int)∧s.t24≤1000∧∀k:Nat,k<s.t23.length→0≤gi s.t23 k∧gi s.t23 k≤80
def Qv (s:lC):Nat:=(s.t24-s.t25).toNat
def amM (x:Ex) (_ s':lC):Prop:=x=.exit 0∧s'.t5=0
theorem aC5:∀s,ae5 s→Ot s:=by
 intro s h
 obtain ⟨h9,h0,h1,h2,h3⟩:=h
 exact ⟨h9,by omega,h1,h2,h3⟩
theorem ayQ (s:lC) (hI:Ot s):bP (fun s'=>Ot s'∧Qv s'<Qv s) (fun x s'=>amM x s s') (auR s):=by
 unfold auR aaX
 dsimp only [T.rd,T.rl]
 obtain ⟨h9,⟨h0,h1⟩,h2,h3,h5⟩:=hI
 refine au (fun c1=>au (fun c2=>?_) (fun c2=>?_)) (fun c1=>?_)
 ·exfalso
  have c1:s.t25<s.t24:=by simpa using c1
  have:=h5 s.t25.toNat (by omega)
  rw [Int.toNat_of_nonneg h0] at this
  simp only [Bool.or_eq_true,decide_eq_true_eq] at c2
  omega
 ·have c1:s.t25<s.t24:=by simpa using c1
  rw [aN (x:=s.t25+1) (by omega) (by omega)]
  exact ⟨⟨h9,⟨by simp only;omega,by simp only;omega⟩,h2,h3,h5⟩,by simp only [Qv];omega⟩
 ·exact ⟨rfl,h9⟩
def F8:bQ lC:=⟨0,65,[2,3,4,5,23,24,25],[],aGg,aFd,fun v b=>⟨gI (v.getD 3 .junk),aQ (.int .i64) (v.getD 4 .junk),gI (v.getD 5 .junk),gI (v.getD 6 .junk),aQ eu (aV (aO b 0) 0),aQ .str (aV (aO b 0) 1),aQ eG (aV (aO b 0) 2),aQ dK (aV (aO b 0) 3),aQ eP (aV (aO b 0) 4),aQ (.int .i64) (aV (aO b 1) 0)⟩,aaX,fun s r=> {r with t23:=s.t23,t24:=s.t24,af:=s.af,aA:=s.aA,ai:=s.ai,ak:=s.ak,aJ:=s.aJ,qy:=s.qy},fun s=>s,fun _ s=>s,[.ret,.exit 0],ae5,Ot,Qv⟩
abbrev qj:=F8.run
abbrev adm:=F8.jU
abbrev aAW:=F8.q
theorem axt (s:lC) (hI:Ot s):(aaX s).all (fun _=>True):=by
 refine ⟨fun c1=>⟨?_,fun _=>trivial,fun _=>trivial⟩,fun _=>trivial⟩
 ·(simp only [decide_eq_true_eq] at c1;obtain ⟨h9,⟨h0,h1⟩,h2,h3⟩:=hI;omega)
noncomputable def Eh:Specs:=bf [(53,qU),(104,vK)]
theorem Jy:∀g S,Eh g=some S→Valid Tryz.prog aS g S:=aT (l:=[(53,qU),(104,vK)]) ⟨Ig,O4,trivial⟩
noncomputable def Rq:Hand:=inl Tryz.prog aS Eh (kH Tryz.prog aS (Eh) 20 2) 9
theorem YS:cZ Tryz.prog aS Rq:=bM Jy (dI Jy) 9
theorem aiX:F8.Ok:=⟨fun s=>by kernel_rfl,fun s=>by kernel_rfl,fun s=>rfl,fun s t r=>rfl,fun s=>rfl,fun s=>by kernel_rfl⟩
theorem ahP:F8.Pf (amM):=⟨aC5,fun _ _=>rfl,ayQ,axt⟩
theorem aou:bn Tryz.prog aS (AN 0) (.loop CO) F8.lp:=bQ.snd aiX ahP (aU (Γ:=Eh) (K:=Rq) (L:=aC) Jy YS CO (fun b hb=>by rw [show aB CO=[] by kernel_rfl] at hb;cases hb)) (fun s=>by kernel_rfl)
theorem aqV (s:lC) (hE:ae5 s):∃s',Ot s'∧amM (adm s) s' (qj s):=bQ.fin aiX ahP s hE
noncomputable def ahd:Array Tmp×Code×Code:=((ja (Tryz.f112.body.getD .skip))[0]?).getD (#[],.skip,.skip)
noncomputable def aCm:Array Tmp:=ahd.1
noncomputable def aCH:Code:=ahd.2.1
noncomputable def aCB:Code:=ahd.2.2
structure l7 where
 af:List Cd
 aA:List ByteArray
 ai:List Ko
 ak:List Ch
 aJ:List Ba
 c:Int
 aH:List Cd
 cu:List ByteArray
 bG:List Ko
 bK:List Ch
 eX:List Ba
 b1:List Int
 b3:List (Int×Ra)
 b4:Int
 H8:ByteArray
 adL:Int
 eY:Int
 Sr:Int
 Sv:Int
 H7:Int
 sH:Int
 Du:Int
 st:LS
def aGe (s:l7):List LV:=[.tN 6,.xq 5 (fun j=>([.xl eu s.af,.xl .str s.aA,.xl eG s.ai,.xl dK s.ak,.xl eP s.aJ]:List LV).getD j .junk),.v (.int .i64 s.c)]
noncomputable def aFb (s:l7):List aW:=[⟨[.xl eu s.aH,.xl .str s.cu,.xl eG s.bG,.xl dK s.bK,.xl eP s.eX],28,.cl,false⟩,⟨[.xl (.int .i64) s.b1],35,.cl,false⟩,⟨[.os 3 3 0 (List.length s.b3)],164,.cl,false⟩,⟨[],167,.vec (.pair (.int .i64) oP) s.b3,false⟩,⟨[.v (.int .i64 s.b4)],3,.cl,false⟩,⟨[.v (.string s.H8),.v (.int .i64 s.adL),.v (.int .i64 s.eY),.v (.int .i64 s.Sr),.v (.int .i64 s.Sv),.v (.int .i64 s.H7),.v (.int .i64 s.sH),.v (.int .i64 s.Du)],58,.cl,false⟩,⟨[.junk,.junk,.junk,.own 1 0,.junk,.junk,.junk,.junk,.own 2 0,.own 4 0,.own 5 0,.junk,.junk,.junk,.junk,.junk,.junk,.junk,.junk,.junk,.junk,.junk,.junk,.junk,.junk,.junk,.junk,.junk,.junk,.junk,.junk,.junk,.junk,.junk,.junk,.junk,.junk,.junk,.junk,.junk,.junk,.junk,.junk,.junk,.junk,.junk,.junk,.junk,.junk,.junk,.junk,.junk,.junk,.junk,.junk,.junk,.junk,.junk,.junk,.junk,.junk,.junk,.junk,.junk,.junk],0,.jZ aCm aCH aCB s.st,false⟩]
noncomputable def VR:Code:=((aB (Tryz.f129.body.getD .skip))[0]?).getD .skip
def Uc (s:l7):T (Rd l7):=
 .br (decide (s.c≥0)) (.req (0≤s.c∧s.c<((List.length s.b3:Nat):Int)) (.req (0≤s.b4∧s.b4<(List.length s.b1:Int)) (.br ((tH .i64 s.eY 1) !=0) (.req (s.c.toNat<List.length s.b3) (.req (s.c.toNat<List.length s.b3) (.br ((tH .i64 s.eY 2) !=0) (.req (s.c.toNat<List.length (Ti s.b3 s.c.toNat (gi s.b1 s.b4))) (.req (s.c.toNat<List.length (Ti s.b3 s.c.toNat (gi s.b1 s.b4))) (.br ((tH .i64 s.eY 4) !=0) (.req (s.c.toNat<List.length (Xq (Ti s.b3 s.c.toNat (gi s.b1 s.b4)) s.c.toNat (gi s.b1 s.b4))) (.req (s.c.toNat<List.length (Xq (Ti s.b3 s.c.toNat (gi s.b1 s.b4)) s.c.toNat (gi s.b1 s.b4))) (.req (0≤s.c∧s.c<(List.length s.af:Int)) (.req (0=0∧(List.length s.b3)=List.length (up3 (Xq (Ti s.b3 s.c.toNat (gi s.b1 s.b4)) s.c.toNat (gi s.b1 s.b4)) s.c.toNat (gi s.b1 s.b4))) (.ok (.next {s with c:=(dY s.af s.c).2.1,b3:=(up3 (Xq (Ti s.b3 s.c.toNat (gi s.b1 s.b4)) s.c.toNat (gi s.b1 s.b4)) s.c.toNat (gi s.b1 s.b4))})))))) (.req (0≤s.c∧s.c<(List.length s.af:Int)) (.req (0=0∧(List.length s.b3)=List.length (Xq (Ti s.b3 s.c.toNat (gi s.b1 s.b4)) s.c.toNat (gi s.b1 s.b4))) (.ok (.next {s with c:=(dY s.af s.c).2.1,b3:=(Xq (Ti s.b3 s.c.toNat (gi s.b1 s.b4)) s.c.toNat (gi s.b1 s.b4))}))))))) (.br ((tH .i64 s.eY 4) !=0) (.req (s.c.toNat<List.length (Ti s.b3 s.c.toNat (gi s.b1 s.b4))) (.req (s.c.toNat<List.length (Ti s.b3 s.c.toNat (gi s.b1 s.b4))) (.req (0≤s.c∧s.c<(List.length s.af:Int)) (.req (0=0∧(List.length s.b3)=List.length (up3 (Ti s.b3 s.c.toNat (gi s.b1 s.b4)) s.c.toNat (gi s.b1 s.b4))) (.ok (.next {s with c:=(dY s.af s.c).2.1,b3:=(up3 (Ti s.b3 s.c.toNat (gi s.b1 s.b4)) s.c.toNat (gi s.b1 s.b4))})))))) (.req (0≤s.c∧s.c<(List.length s.af:Int)) (.req (0=0∧(List.length s.b3)=List.length (Ti s.b3 s.c.toNat (gi s.b1 s.b4))) (.ok (.next {s with c:=(dY s.af s.c).2.1,b3:=(Ti s.b3 s.c.toNat (gi s.b1 s.b4))})))))))) (.br ((tH .i64 s.eY 2) !=0) (.req (s.c.toNat<List.length s.b3) (.req (s.c.toNat<List.length s.b3) (.br ((tH .i64 s.eY 4) !=0) (.req (s.c.toNat<List.length (Xq s.b3 s.c.toNat (gi s.b1 s.b4))) (.req (s.c.toNat<List.length (Xq s.b3 s.c.toNat (gi s.b1 s.b4))) (.req (0≤s.c∧s.c<(List.length s.af:Int)) (.req (0=0∧(List.length s.b3)=List.length (up3 (Xq s.b3 s.c.toNat (gi s.b1 s.b4)) s.c.toNat (gi s.b1 s.b4))) (.ok (.next {s with c:=(dY s.af s.c).2.1,b3:=(up3 (Xq s.b3 s.c.toNat (gi s.b1 s.b4)) s.c.toNat (gi s.b1 s.b4))})))))) (.req (0≤s.c∧s.c<(List.length s.af:Int)) (.req (0=0∧(List.length s.b3)=List.length (Xq s.b3 s.c.toNat (gi s.b1 s.b4))) (.ok (.next {s with c:=(dY s.af s.c).2.1,b3:=(Xq s.b3 s.c.toNat (gi s.b1 s.b4))}))))))) (.br ((tH .i64 s.eY 4) !=0) (.req (s.c.toNat<List.length s.b3) (.req (s.c.toNat<List.length s.b3) (.req (0≤s.c∧s.c<(List.length s.af:Int)) (.req (0=0∧(List.length s.b3)=List.length (up3 s.b3 s.c.toNat (gi s.b1 s.b4))) (.ok (.next {s with c:=(dY s.af s.c).2.1,b3:=(up3 s.b3 s.c.toNat (gi s.b1 s.b4))})))))) (.req (0≤s.c∧s.c<(List.length s.af:Int)) (.rl s.b3 (.ok (.next {s with c:=(dY s.af s.c).2.1}))))))))) (.rl s.b3 (.ok (.stop (.exit 0) s)))
abbrev acU (s:l7):=(Uc s).rd s
def OZ (s:l7):Prop:=s.st=.ready∧LC s.af=true∧s.c<(s.af.length:Int)∧s.b3.length=s.af.length∧(0≤s.b4∧s.b4<(s.b1.length:Int))
def Oq (s:l7):Prop:=s.st=.ready∧LC s.af=true∧s.c<(s.af.length:Int)∧s.b3.length=s.af.length∧(0≤s.b4∧s.b4<(s.b1.length:Int))
def qI (s:l7):Nat:=(s.c+1).toNat
def amJ (x:Ex) (_ s':l7):Prop:=x=.exit 0∧s'.c<0
theorem aC3:∀s,OZ s→Oq s:=by
 exact fun s h=>h
theorem ayO (s:l7) (hI:Oq s):bP (fun s'=>Oq s'∧qI s'<qI s) (fun x s'=>amJ x s s') (acU s):=by
 unfold acU Uc
 dsimp only [T.rd,T.rl]
 obtain ⟨h0,h1,h2,h3,h4⟩:=hI
 refine au (fun c1=>?_) (fun c1=>?_)
 ·have c1:0≤s.c:=by simpa using c1
  have:=wF h1 c1 h2
  exact au (fun _=>au (fun _=>au (fun _=>⟨⟨h0,h1,by simp only;omega,by simp only [xP,xO,xN];exact h3,h4⟩,by simp only [qI];omega⟩) (fun _=>⟨⟨h0,h1,by simp only;omega,by simp only [xP,xO];exact h3,h4⟩,by simp only [qI];omega⟩)) (fun _=>au (fun _=>⟨⟨h0,h1,by simp only;omega,by simp only [xP,xN];exact h3,h4⟩,by simp only [qI];omega⟩) (fun _=>⟨⟨h0,h1,by simp only;omega,by simp only [xP];exact h3,h4⟩,by simp only [qI];omega⟩))) (fun _=>au (fun _=>au (fun _=>⟨⟨h0,h1,by simp only;omega,by simp only [xO,xN];exact h3,h4⟩,by simp only [qI];omega⟩) (fun _=>⟨⟨h0,h1,by simp only;omega,by simp only [xO];exact h3,h4⟩,by simp only [qI];omega⟩)) (fun _=>au (fun _=>⟨⟨h0,h1,by simp only;omega,by simp only [xN];exact h3,h4⟩,by simp only [qI];omega⟩) (fun _=>⟨⟨h0,h1,by simp only;omega,by simp only;exact h3,h4⟩,by simp only [qI];omega⟩)))
 ·have c1:¬(0≤s.c):=by simpa using c1
  exact ⟨rfl,by omega⟩
noncomputable def F6:bQ l7:=⟨7,18,[0,2,4],[],aGe,aFb,fun v b=>⟨aQ eu (lW (v.getD 1 .junk) 0),aQ .str (lW (v.getD 1 .junk) 1),aQ eG (lW (v.getD 1 .junk) 2),aQ dK (lW (v.getD 1 .junk) 3),aQ eP (lW (v.getD 1 .junk) 4),gI (v.getD 2 .junk),aQ eu (aV (aO b 0) 0),aQ .str (aV (aO b 0) 1),aQ eG (aV (aO b 0) 2),aQ dK (aV (aO b 0) 3),aQ eP (aV (aO b 0) 4),aQ (.int .i64) (aV (aO b 1) 0),jd (.pair (.int .i64) oP) (aO b 3),gI (aV (aO b 4) 0),gSr (aV (aO b 5) 0),gI (aV (aO b 5) 1),gI (aV (aO b 5) 2),gI (aV (aO b 5) 3),gI (aV (aO b 5) 4),gI (aV (aO b 5) 5),gI (aV (aO b 5) 6),gI (aV (aO b 5) 7),.ready⟩,Uc,fun s r=> {r with af:=s.af,aA:=s.aA,ai:=s.ai,ak:=s.ak,aJ:=s.aJ,aH:=s.aH,cu:=s.cu,bG:=s.bG,bK:=s.bK,eX:=s.eX,b1:=s.b1,b4:=s.b4,H8:=s.H8,adL:=s.adL,eY:=s.eY,Sr:=s.Sr,Sv:=s.Sv,H7:=s.H7,sH:=s.sH,Du:=s.Du,st:=s.st},fun s=> {s with st:=.ready},fun x s=> {s with st:=(match x with| .exit 0=> .ready|_=> .ready)},[.exit 0],OZ,Oq,qI⟩
noncomputable abbrev uN:=F6.run
noncomputable abbrev adl:=F6.jU
abbrev aAU:=F6.q
theorem axr (s:l7) (hI:Oq s):(Uc s).all (fun _=>True):=by
 refine ⟨fun c1=>⟨?_,?_,fun c2=>⟨?_,?_,fun c3=>⟨?_,?_,fun c4=>⟨?_,?_,?_,?_,trivial⟩,fun c4=>⟨?_,?_,trivial⟩⟩,fun c3=>⟨fun c5=>⟨?_,?_,?_,?_,trivial⟩,fun c5=>⟨?_,?_,trivial⟩⟩⟩,fun c2=>⟨fun c6=>⟨?_,?_,fun c7=>⟨?_,?_,?_,?_,trivial⟩,fun c7=>⟨?_,?_,trivial⟩⟩,fun c6=>⟨fun c8=>⟨?_,?_,?_,?_,trivial⟩,fun c8=>⟨?_,⟨rfl,rfl⟩,trivial⟩⟩⟩⟩,fun c1=>⟨⟨rfl,rfl⟩,trivial⟩⟩
 all_goals ((obtain ⟨h0,h1,h2,h3,h4⟩:=hI;simp only [decide_eq_true_eq,ge_iff_le] at c1;first|omega|(simp only [xP,xO,xN];omega) |simp [xP,xO,xN]))
theorem Yl:F6.Ok:=⟨fun s=>by kernel_rfl,fun s=>by kernel_rfl,fun s=>rfl,fun s t r=>rfl,fun s=>rfl,fun s=>by kernel_rfl⟩
theorem X3:F6.Pf (amJ):=⟨aC3,fun s h=>by
 obtain ⟨af,aA,ai,ak,aJ,c,aH,cu,bG,bK,eX,b1,b3,b4,H8,adL,eY,Sr,Sv,H7,sH,Du,st⟩:=s
 have e:st=.ready:=h.1
 subst e
 rfl,ayO,axr⟩
theorem abl:bn Tryz.prog aS (AN 7) (.loop VR) F6.lp:=bQ.snd Yl X3 (bF (Γ:=Eh) (K:=Rq) (L:=(sO Tryz.prog aS Eh Rq 20 2)) Jy YS VR (fun b _=>dN Jy YS 20 2 b)) (fun s=>by kernel_rfl)
theorem aqT (s:l7) (hE:OZ s):∃s',Oq s'∧amJ (adl s) s' (uN s):=bQ.fin Yl X3 s hE
theorem ajQ (s:l7) (hE:OZ s):(fun s:l7=>Tq s.af s.eY (gi s.b1 s.b4) s.c s.b3) (uN s)=(fun s:l7=>Tq s.af s.eY (gi s.b1 s.b4) s.c s.b3) s:=by
 exact bQ.uf Yl X3 (fun s:l7=>Tq s.af s.eY (gi s.b1 s.b4) s.c s.b3) (fun s hI=>by
  show bP _ _ (acU s)
  unfold acU Uc
  dsimp only [T.rd,T.rl]
  obtain ⟨h0,h1,h2,h3,h4⟩:=hI
  have hp:=ayX (ph:=s.eY) (v:=gi s.b1 s.b4) (l:=s.b3) h1 h2
  refine au (fun c1=>?_) (fun c1=>rfl)
  have c1:0≤s.c:=by simpa using c1
  rw [if_pos c1,aAf (by omega)] at hp
  dsimp only at hp
  refine au (fun d1=>au (fun d2=>au (fun d4=>?_) (fun d4=>?_)) (fun d2=>au (fun d4=>?_) (fun d4=>?_))) (fun d1=>au (fun d2=>au (fun d4=>?_) (fun d4=>?_)) (fun d2=>au (fun d4=>?_) (fun d4=>?_)))<;>
   (show Tq _ _ _ _ _=Tq _ _ _ _ _;rw [hp];simp only [d1,d2,d4,if_true,Bool.false_eq_true,if_false])) s hE
theorem aqS (s:l7) (hE:OZ s):adl s=.exit 0∧(uN s).b3=Tq s.af s.eY (gi s.b1 s.b4) s.c s.b3:=by
 have q3:=ajQ s hE
 obtain ⟨s',hI,q1,q2⟩:=aqT s hE
 refine ⟨q1,?_⟩
 have q3:Tq s.af s.eY (gi s.b1 s.b4) (uN s).c (uN s).b3=Tq s.af s.eY (gi s.b1 s.b4) s.c s.b3:=q3
 rw [←q3]
 unfold Tq
 rw [ldW,if_neg (by omega)]
end Go.Proofs.YtlihnbimgclogaaGreatDoor
namespace Go.Proofs.YtlihnbimgclogaaGreatDoor
open Go.Sx
structure l9 where
 t5:Int
 t41:List Ch
 t42:Int
 t43:Int
 af:List Cd
 aA:List ByteArray
 ai:List Ko
 ak:List Ch
 aJ:List Ba
 qy:List Int
 b3:List (Int×Ra)
def aGf (s:l9):List LV:=[.own 0 0,.own 1 0,.v (.slice none 0 0),.v (.int .i64 s.t5),.own 2 0,.xl dK s.t41,.v (.int .i64 s.t42),.v (.int .i64 s.t43)]
def aFc (s:l9):List aW:=[⟨[.xl eu s.af,.xl .str s.aA,.xl eG s.ai,.xl dK s.ak,.xl eP s.aJ],28,.cl,false⟩,⟨[.xl (.int .i64) s.qy],35,.cl,false⟩,⟨[.os 3 3 0 (List.length s.b3)],164,.cl,false⟩,⟨[],167,.vec (.pair (.int .i64) oP) s.b3,false⟩]
noncomputable def CJ:Code:=((aB (Tryz.f112.body.getD .skip))[1]?).getD .skip
def zY (s:l9):l7:=(⟨s.af,s.aA,s.ai,s.ak,s.aJ,(bD s.t41 s.t43).2.1,s.af,s.aA,s.ai,s.ak,s.aJ,s.qy,s.b3,s.t43,(bD s.t41 s.t43).1,(bD s.t41 s.t43).2.1,(bD s.t41 s.t43).2.2.1,(bD s.t41 s.t43).2.2.2.1,(bD s.t41 s.t43).2.2.2.2.1,(bD s.t41 s.t43).2.2.2.2.2.1,(bD s.t41 s.t43).2.2.2.2.2.2.1,(bD s.t41 s.t43).2.2.2.2.2.2.2,.ready⟩:l7)
noncomputable def aaW (s:l9):T (Rd l9):=
 .br (decide (s.t43<s.t42)) (.req (0≤s.t43∧s.t43<(List.length s.t41:Int)) (.rl s.b3 (.req (aAU (zY s)) (.rl (uN (zY s)).b3 (.ok (.next {s with t43:=(IntKind.i64.wrap (s.t43+1)),b3:=(uN (zY s)).b3})))))) (.rl s.b3 (.ok (.stop (.exit 2) s)))
noncomputable abbrev auQ (s:l9):=(aaW s).rd s
def ae4 (s:l9):Prop:=s.t43=0∧(s.t42=(List.length s.t41:Int)∧s.t42≤1000∧LC s.af=true∧atB s.af s.t41=true∧s.qy.length=s.t41.length)∧s.b3=List.replicate s.af.length (Ty.dflt (.pair (.int .i64) oP))
def KC (s:l9):Prop:=(0≤s.t43∧s.t43≤s.t42)∧(s.t42=(List.length s.t41:Int)∧s.t42≤1000∧LC s.af=true∧atB s.af s.t41=true∧s.qy.length=s.t41.length)∧s.b3=DK s.af s.t41 s.qy s.t43.toNat
def Qu (s:l9):Nat:=(s.t42-s.t43).toNat
def amK (x:Ex) (_ s':l9):Prop:=x=.exit 2∧s'.b3=DK s'.af s'.t41 s'.qy s'.t41.length
theorem aC4:∀s,ae4 s→KC s:=by
 intro s h
 obtain ⟨h0,h1,h2⟩:=h
 have:=h1.1
 exact ⟨by omega,h1,by rw [h2,h0];rfl⟩
theorem ajR (s:l9) (hI:KC s) (c1:s.t43<s.t42):OZ (zY s):=by
 obtain ⟨⟨h0,h1⟩,⟨h2,h3,h4,h5,h6⟩,h7⟩:=hI
 refine ⟨rfl,h4,SC h5 h0 (by omega),?_,⟨h0,?_⟩⟩
 ·show s.b3.length=_
  rw [h7]
  exact Rf h4 h5 _ (by omega)
 ·show s.t43<(s.qy.length:Int)
  omega
theorem ayP (s:l9) (hI:KC s):bP (fun s'=>KC s'∧Qu s'<Qu s) (fun x s'=>amK x s s') (auQ s):=by
 unfold auQ aaW
 dsimp only [T.rd,T.rl]
 have hin:=fun c1=>ajR s hI c1
 obtain ⟨⟨h0,h1⟩,⟨h2,h3,h4,h5,h6⟩,h7⟩:=hI
 refine au (fun c1=>?_) (fun c1=>?_)
 ·have c1:s.t43<s.t42:=by simpa using c1
  obtain ⟨_,q⟩:=aqS _ (hin c1)
  rw [aN (x:=s.t43+1) (by omega) (by omega)]
  refine ⟨⟨⟨by simp only;omega,by simp only;omega⟩,⟨h2,h3,h4,h5,h6⟩,?_⟩,by simp only [Qu];omega⟩
  simp only
  rw [show (s.t43+1).toNat=s.t43.toNat+1 by omega,q]
  show Tq s.af (bD s.t41 s.t43).2.2.1 (gi s.qy s.t43) (bD s.t41 s.t43).2.1 s.b3=Tq s.af (bD s.t41 (s.t43.toNat:Int)).2.2.1 (gi s.qy (s.t43.toNat:Int)) (bD s.t41 (s.t43.toNat:Int)).2.1 (DK s.af s.t41 s.qy s.t43.toNat)
  rw [Int.toNat_of_nonneg h0,h7]
 ·have c1:s.t42≤s.t43:=by simpa using c1
  refine ⟨rfl,?_⟩
  rw [h7,show s.t43.toNat=s.t41.length by omega]
noncomputable def F7:bQ l9:=⟨0,65,[2,3,4,5,8,41,42,43],[],aGf,aFc,fun v b=>⟨gI (v.getD 3 .junk),aQ dK (v.getD 5 .junk),gI (v.getD 6 .junk),gI (v.getD 7 .junk),aQ eu (aV (aO b 0) 0),aQ .str (aV (aO b 0) 1),aQ eG (aV (aO b 0) 2),aQ dK (aV (aO b 0) 3),aQ eP (aV (aO b 0) 4),aQ (.int .i64) (aV (aO b 1) 0),jd (.pair (.int .i64) oP) (aO b 3)⟩,aaW,fun s r=> {r with t5:=s.t5,t41:=s.t41,t42:=s.t42,af:=s.af,aA:=s.aA,ai:=s.ai,ak:=s.ak,aJ:=s.aJ,qy:=s.qy},fun s=>s,fun _ s=>s,[.exit 2],ae4,KC,Qu⟩
noncomputable abbrev xX:=F7.run
noncomputable abbrev arN:=F7.jU
abbrev aAV:=F7.q
theorem axs (s:l9) (hI:KC s):(aaW s).all (fun _=>True):=by
 refine ⟨fun c1=>⟨?_,⟨rfl,rfl⟩,?_,⟨rfl,rfl⟩,trivial⟩,fun c1=>⟨⟨rfl,rfl⟩,trivial⟩⟩
 ·(obtain ⟨⟨h0,h1⟩,⟨h2,h3⟩,h4⟩:=hI;simp only [decide_eq_true_eq] at c1;omega)
 ·exact ⟨ajR s hI (by simpa using c1),rfl,rfl⟩
noncomputable def Rz:Specs:=bf [(53,qU),(104,vK)]
theorem YZ:∀g S,Rz g=some S→Valid Tryz.prog aS g S:=aT (l:=[(53,qU),(104,vK)]) ⟨Ig,O4,trivial⟩
noncomputable def akD:Hand:=inl Tryz.prog aS Rz (jX 129 7 1 (F6.lp) (kH Tryz.prog aS (Rz) 20 2)) 9
theorem azd:cZ Tryz.prog aS akD:=bM YZ (dF Tryz.func129 rfl (by kernel_rfl) abl (dI YZ)) 9
theorem aiW:F7.Ok:=⟨fun s=>by kernel_rfl,fun s=>by kernel_rfl,fun s=>rfl,fun s t r=>rfl,fun s=>rfl,fun s=>by kernel_rfl⟩
theorem ahO:F7.Pf (amK):=⟨aC4,fun _ _=>rfl,ayP,axs⟩
theorem aot:bn Tryz.prog aS (AN 0) (.loop CJ) F7.lp:=bQ.snd aiW ahO (aU (Γ:=Rz) (K:=akD) (L:=aC) YZ azd CJ (fun b hb=>by rw [show aB CJ=[] by kernel_rfl] at hb;cases hb)) (fun s=>by kernel_rfl)
theorem aqU (s:l9) (hE:ae4 s):∃s',KC s'∧amK (arN s) s' (xX s):=bQ.fin aiW ahO s hE
end Go.Proofs.YtlihnbimgclogaaGreatDoor
namespace Go.Proofs.YtlihnbimgclogaaGreatDoor
open Go.Sx
def amd:List LV→T LV
 | [.agg [.xl (.pair .str (.pair (.int .i64) (.pair (.int .i64) (.pair (.int .i64) (.pair (.pair (.int .i64) (.int .i64)) (.pair (.int .i64) (.pair (.int .i64) (.pair (.int .i64) (.pair (.int .i64) (.int .i64)))))))))) cs,.xl (.str) os,.xl (.pair .str (.pair (.int .i64) (.pair (.int .i64) (.int .i64)))) ks,.xl (.pair .str (.pair (.int .i64) (.pair (.int .i64) (.pair (.int .i64) (.pair (.int .i64) (.pair (.int .i64) (.pair (.int .i64) (.int .i64)))))))) gs,.xl (.pair .str (.int .i64)) bs],.xl (.int .i64) am]=> .req ((dL cs os ks gs bs=true∧am.length=gs.length)∧∀k:Nat,k<am.length→0≤gi am k∧gi am k≤80) (.ok (.gQ [.xl (.pair (.int .i64) oP) (DK cs gs am gs.length),.v (.int .i64 0)]))
 |_=> .no
noncomputable def Wn:List LV→T LV:=gZ Tryz.prog Tryz.f112.params.toList amd
noncomputable def Ry:Specs:=bf [(53,qU),(104,vK)]
theorem YX:∀g S,Ry g=some S→Valid Tryz.prog aS g S:=aT (l:=[(53,qU),(104,vK)]) ⟨Ig,O4,trivial⟩
noncomputable def akC:Hand:=inl Tryz.prog aS Ry (jX 129 7 1 (F6.lp) (kH Tryz.prog aS (Ry) 20 2)) 9
theorem azc:cZ Tryz.prog aS akC:=bM YX (dF Tryz.func129 rfl (by kernel_rfl) abl (dI YX)) 9
theorem ayD (cs:List Cd) (os:List ByteArray) (ks:List Ko) (gs:List Ch) (bs:List Ba) (am:List Int):bW Tryz.prog aS (Ry) akC (fun i=>if i=4 then F8.lp else if i=11 then F7.lp else aC i) Tryz.f112 [.agg [.xl eu cs,.xl .str os,.xl eG ks,.xl dK gs,.xl eP bs],.xl (.int .i64) am]=.br ((!(dL cs os ks gs bs)) ||((List.length am:Int) !=(List.length gs:Int))) (.ok (.gQ [.xl (.pair (.int .i64) oP) ([]:List (Int×Ra)),.v (.int .i64 1)])) (.req (aAW (⟨(0:Int),am,(List.length am:Int),(0:Int),cs,os,ks,gs,bs,am⟩:lC)) (.br (iE (adm (⟨(0:Int),am,(List.length am:Int),(0:Int),cs,os,ks,gs,bs,am⟩:lC)) (.ret)) (.ok (.gQ [.xl (.pair (.int .i64) oP) ([]:List (Int×Ra)),.v (.int .i64 (qj (⟨(0:Int),am,(List.length am:Int),(0:Int),cs,os,ks,gs,bs,am⟩:lC)).t5)])) (.req (0≤(List.length cs:Int)∧(List.length cs:Int)≤(List.length cs:Int)∧24*(List.length cs:Int)≤2^48∧(List.length cs:Int)<2^63) (.req (0=0∧(List.length cs:Int).toNat=List.length (List.replicate (List.length cs:Int).toNat ((0:Int),((0:Int),(0:Int))))) (.req (aAV (⟨(qj (⟨(0:Int),am,(List.length am:Int),(0:Int),cs,os,ks,gs,bs,am⟩:lC)).t5,gs,(List.length gs:Int),(0:Int),cs,os,ks,gs,bs,am,(List.replicate (List.length cs:Int).toNat ((0:Int),((0:Int),(0:Int))))⟩:l9)) (.req (0+(List.length (xX (⟨(qj (⟨(0:Int),am,(List.length am:Int),(0:Int),cs,os,ks,gs,bs,am⟩:lC)).t5,gs,(List.length gs:Int),(0:Int),cs,os,ks,gs,bs,am,(List.replicate (List.length cs:Int).toNat ((0:Int),((0:Int),(0:Int))))⟩:l9)).b3)≤List.length (xX (⟨(qj (⟨(0:Int),am,(List.length am:Int),(0:Int),cs,os,ks,gs,bs,am⟩:lC)).t5,gs,(List.length gs:Int),(0:Int),cs,os,ks,gs,bs,am,(List.replicate (List.length cs:Int).toNat ((0:Int),((0:Int),(0:Int))))⟩:l9)).b3) (.ok (.gQ [.xl (.pair (.int .i64) oP) (((xX (⟨(qj (⟨(0:Int),am,(List.length am:Int),(0:Int),cs,os,ks,gs,bs,am⟩:lC)).t5,gs,(List.length gs:Int),(0:Int),cs,os,ks,gs,bs,am,(List.replicate (List.length cs:Int).toNat ((0:Int),((0:Int),(0:Int))))⟩:l9)).b3.drop 0).take (List.length (xX (⟨(qj (⟨(0:Int),am,(List.length am:Int),(0:Int),cs,os,ks,gs,bs,am⟩:lC)).t5,gs,(List.length gs:Int),(0:Int),cs,os,ks,gs,bs,am,(List.replicate (List.length cs:Int).toNat ((0:Int),((0:Int),(0:Int))))⟩:l9)).b3)),.v (.int .i64 0)])))))))):=by kernel_rfl
theorem asT:Valid Tryz.prog aS 112 Wn:=aI Tryz.func112 rfl YX azc (L:=(fun i=>if i=4 then F8.lp else if i=11 then F7.lp else aC i)) (fun b hb=>by
 rw [show aB _=[CO,CJ] by kernel_rfl] at hb
 simp only [List.mem_cons,List.not_mem_nil,or_false] at hb
 rcases hb with rfl|rfl
 ·exact aou
 ·exact aot) (fun args lv h=>by
 unfold amd at h
 split at h
 ·simp only [canL,canX]
  rw [ayD]
  rename_i cs os ks gs bs am
  obtain ⟨⟨⟨hv,hl⟩,hr⟩,rfl⟩:=h
  have hb:=(fG.1 hv).1
  have hA:ae5 ⟨0,am,(List.length am:Int),0,cs,os,ks,gs,bs,am⟩:=⟨rfl,rfl,rfl,by show (List.length am:Int)≤1000;omega,hr⟩
  obtain ⟨_,_,q1,q5⟩:=aqV _ hA
  have hB:ae4 ⟨(qj ⟨0,am,(List.length am:Int),0,cs,os,ks,gs,bs,am⟩).t5,gs,(List.length gs:Int),0,cs,os,ks,gs,bs,am,List.replicate (List.length cs:Int).toNat ((0:Int),((0:Int),(0:Int)))⟩:=⟨rfl,⟨rfl,by show (List.length gs:Int)≤1000;omega,Ac hv,Ad hv,hl⟩,by
   show List.replicate (List.length cs:Int).toNat _=List.replicate cs.length _
   rw [Int.toNat_natCast]
   rfl⟩
  obtain ⟨_,_,q6,q7⟩:=aqU _ hB
  have q7:(xX ⟨(qj ⟨0,am,(List.length am:Int),0,cs,os,ks,gs,bs,am⟩).t5,gs,(List.length gs:Int),0,cs,os,ks,gs,bs,am,List.replicate (List.length cs:Int).toNat ((0:Int),((0:Int),(0:Int)))⟩).b3=DK cs gs am gs.length:=q7
  refine ⟨fun c=>?_,fun _=>⟨⟨hA,rfl,rfl⟩,?_⟩⟩
  ·exfalso
   rw [hv,hl] at c
   simp at c
  ·rw [q1]
   refine ⟨fun h=>(by cases h),fun _=>⟨by omega,⟨rfl,by simp⟩,⟨hB,rfl,rfl⟩,by omega,?_⟩⟩
   show LV.gQ _=LV.gQ _
   rw [List.drop_zero,List.take_length,q7]
 ·cases h)
end Go.Proofs.YtlihnbimgclogaaGreatDoor
namespace Go.Proofs.YtlihnbimgclogaaGreatDoor
open Go.Sx
section
variable {cs : List Cd} {os : List ByteArray} {ks : List Ko} {gs : List Ch} {bs : List Ba} {l : List Le} {rs : List Ra} {d : List Dm} {t n : Int}
structure NwL (gs:List Ch) (am:List Int) (t n:Int) (m:List Le):Prop where
 at_:∀k:Int,0≤k→k<(m.length:Int)→gU m k=(n+k,(gU m k).2.1,gi am (gU m k).2.1,t,12)∧(0≤(gU m k).2.1∧(gU m k).2.1<(gs.length:Int))∧zD (bD gs (gU m k).2.1)<gi am (gU m k).2.1
 up:∀k:Int,1≤k→k<(m.length:Int)→(gU m (k-1)).2.1<(gU m k).2.1
theorem yE {m:List Le}{x:Le}{k:Int}(h0:0≤k):gU (m++[x]) k=if k<(m.length:Int) then gU m k else if k=(m.length:Int) then x else (0,0,0,0,0):=by
 unfold gU
 rw [List.getD_eq_getElem?_getD,List.getD_eq_getElem?_getD]
 split
 ·rw [List.getElem?_append_left (by omega)]
 ·rw [List.getElem?_append_right (by omega)]
  split
  ·rw [show k.toNat-m.length=0 by omega]
   rfl
  ·rw [List.getElem?_eq_none (by simp;omega)]
   rfl
theorem alv {am:List Int}:∀ {K:Nat},K≤gs.length→NwL gs am t n (RX gs l t n am K)∧∀x∈RX gs l t n am K,x.2.1<(K:Int)
 |0,_=>⟨⟨fun k h0 h1=>by simp [RX] at h1;omega,fun k h0 h1=>by simp [RX] at h1;omega⟩,fun x hx=>by cases hx⟩
 | K +1,h=>by
  obtain ⟨⟨h1,h2⟩,h3⟩:=alv (am:=am) (K:=K) (by omega)
  rw [RX]
  split
  ·rename_i hn
   have hf:=ayi hn
   refine ⟨⟨fun k k0 k1=>?_,fun k k0 k1=>?_⟩,fun x hx=>?_⟩
   ·simp only [List.length_append,List.length_cons,List.length_nil] at k1
    rw [yE k0]
    split
    ·rename_i hk;exact h1 k k0 hk
    ·rename_i hk
     have e:k=((RX gs l t n am K).length:Int):=by omega
     rw [if_pos e,e]
     exact ⟨rfl,by simp only;omega,hf⟩
   ·simp only [List.length_append,List.length_cons,List.length_nil] at k1
    rw [yE (by omega),yE (by omega),if_pos (show k-1<((RX gs l t n am K).length:Int) by omega)]
    split
    ·rename_i hk;exact h2 k k0 hk
    ·rename_i hk
     rw [if_pos (show k=((RX gs l t n am K).length:Int) by omega)]
     exact h3 _ (yD (by omega) (by omega))
   ·rw [List.mem_append,List.mem_singleton] at hx
    rcases hx with hx|rfl
    ·have:=h3 x hx;omega
    ·simp only;omega
  ·rw [List.append_nil]
   exact ⟨⟨h1,h2⟩,fun x hx=>by have:=h3 x hx;omega⟩
theorem U7:gJ l=true↔l.length≤64∧∀k:Int,0≤k→k<(l.length:Int)→Ls (gU l k)=true∧(k=0∨Bf (gU l (k-1)) (gU l k)=true):=by
 unfold gJ
 rw [Bool.and_eq_true,decide_eq_true_eq,fU]
 refine and_congr_right fun _=>⟨fun h k k0 k1=>?_,fun h j hj=>?_⟩
 ·have:=h k.toNat (by omega)
  rw [Int.toNat_of_nonneg k0] at this
  unfold jQ at this
  rw [Bool.and_eq_true,Bool.or_eq_true,decide_eq_true_eq] at this
  exact this
 ·obtain ⟨h1,h2⟩:=h j (by omega) hj
  unfold jQ
  rw [h1,Bool.true_and,Bool.or_eq_true,decide_eq_true_eq]
  exact h2
theorem afR {x:Le}(h:gJ l=true) (hx:Ls x=true) (hl:l.length<64) (hf:l.length=0∨Bf (gU l ((l.length:Int)-1)) x=true):gJ (l++[x])=true:=by
 rw [U7] at h⊢
 refine ⟨by simp;omega,fun k k0 k1=>?_⟩
 simp only [List.length_append,List.length_cons,List.length_nil] at k1
 rw [yE k0]
 split
 ·rename_i hk
  obtain ⟨h1,h2⟩:=h.2 k k0 hk
  refine ⟨h1,?_⟩
  rcases h2 with h2|h2
  ·exact .inl h2
  ·by_cases e:k=0
   ·exact .inl e
   ·rw [yE (by omega),if_pos (by omega)]
    exact .inr h2
 ·rename_i hk
  have e:k=(l.length:Int):=by omega
  rw [if_pos e]
  refine ⟨hx,?_⟩
  rcases hf with hf|hf
  ·exact .inl (by omega)
  ·by_cases e0:k=0
   ·exact .inl e0
   ·rw [yE (by omega),if_pos (by omega),e]
    exact .inr hf
structure Fit (l:List Le) (n t:Int):Prop where
 les:gJ l=true
 last:l.length=0∨((gU l ((l.length:Int)-1)).1<n∧(gU l ((l.length:Int)-1)).2.2.2.1≤t)
theorem Fit.mono {n' t':Int}(h:Fit l n t) (hn:n≤n') (ht:t≤t'):Fit l n' t':=⟨h.les,by
 rcases h.last with h1|h1
 ·exact .inl h1
 ·exact .inr (by omega)⟩
theorem att {b:Int}{j:Int}(hj:0≤j):∀(l:List Le) (o:List Int),(∀x∈l,0≤x.2.1∧x.2.1<(o.length:Int))→gi o j≤b→(∀x∈l,x.2.1=j→x.2.2.1≤b)→gi (l.foldl YN o) j≤b
 | [],_,_,h,_=>h
 | x::l,o,hc,h,hx=>by
  rw [List.foldl_cons]
  have hx0:=hc x (by simp)
  refine att hj l _ (fun y hy=>by rw [Rj];exact hc y (by simp [hy])) ?_ (fun y hy=>hx y (by simp [hy]))
  unfold YN
  rw [nG hx0.1 hx0.2 hj]
  split
  ·rename_i e
   have:=hx x (by simp) e.symm
   rw [←e]
   unfold mx
   split<;>omega
  ·exact h
theorem atu {j:Int}(hj:0≤j):∀(l:List Le) (o:List Int),(∀x∈l,0≤x.2.1∧x.2.1<(o.length:Int))→gi o j≤gi (l.foldl YN o) j∧∀x∈l,x.2.1=j→x.2.2.1≤gi (l.foldl YN o) j
 | [],_,_=>⟨Int.le_refl _,fun x hx=>by cases hx⟩
 | x::l,o,hc=>by
  rw [List.foldl_cons]
  have hx0:=hc x (by simp)
  obtain ⟨h1,h2⟩:=atu hj l (YN o x) (fun y hy=>by rw [Rj];exact hc y (by simp [hy]))
  have h3:gi o j≤gi (YN o x) j∧(x.2.1=j→x.2.2.1≤gi (YN o x) j):=by
   unfold YN
   rw [nG hx0.1 hx0.2 hj]
   split
   ·rename_i e
    rw [←e]
    unfold mx
    refine ⟨by split<;>omega,fun _=>by split<;>omega⟩
   ·rename_i e
    exact ⟨Int.le_refl _,fun h=>absurd h.symm e⟩
  refine ⟨by omega,fun y hy e=>?_⟩
  rcases List.mem_cons.1 hy with rfl|hy
  ·have:=h3.2 e
   omega
  ·exact h2 y hy e
theorem alJ (hv:gJ l=true) (hb:below gs.length l=true):∀x∈l.filter (Eu t),0≤x.2.1∧x.2.1<((List.replicate gs.length (0:Int)).length:Int):=fun x hx=>by
 have hx:=(List.mem_filter.1 hx).1
 have h1:=AO.1 ((jI hv).2 x hx)
 have h2:=of_decide_eq_true (List.all_eq_true.1 hb x hx)
 rw [List.length_replicate]
 omega
theorem asC {b j:Int}(hv:gJ l=true) (hb:below gs.length l=true) (hj:0≤j) (b0:0≤b) (h:∀x∈l,Eu t x=true→x.2.1=j→x.2.2.1≤b):gi (vJ gs.length l t) j≤b:=
 att hj _ _ (alJ hv hb) (by rw [vk];exact b0) (fun x hx e=>h x (List.mem_filter.1 hx).1 (List.mem_filter.1 hx).2 e)
theorem asD (hv:gJ l=true) (hb:below gs.length l=true) {x:Le}(hx:x∈l) (ha:Eu t x=true):x.2.2.1≤gi (vJ gs.length l t) x.2.1:=by
 have h1:=AO.1 ((jI hv).2 x hx)
 exact (atu h1.2.1.1 _ _ (alJ hv hb)).2 x (List.mem_filter.2 ⟨hx,ha⟩) rfl
end
end Go.Proofs.YtlihnbimgclogaaGreatDoor
namespace Go.Proofs.YtlihnbimgclogaaGreatDoor
open Go.Sx
abbrev aHc (a b:Le):Prop:=a.1<b.1∧a.2.2.2.1≤b.2.2.2.1
theorem aq3 {l:List Le}:gJ l=true↔l.length≤64∧(∀x∈l,Ls x=true)∧l.Pairwise aHc:=by
 refine ⟨fun h=>⟨(jI h).1,(jI h).2,Ea h⟩,fun ⟨h1,h2,h3⟩=>U7.2 ⟨h1,fun k k0 k1=>⟨h2 _ (yD k0 k1),?_⟩⟩⟩
 by_cases e:k=0
 ·exact .inl e
 ·right
  have:=List.pairwise_iff_getElem.1 h3 (k-1).toNat k.toNat (by omega) (by omega) (by omega)
  rw [←vC,←vC] at this
  unfold Bf
  rw [decide_eq_true (p:=(gU l k).1>_) this.1,decide_eq_true (p:=(gU l k).2.2.2.1≥_) this.2]
  rfl
theorem aj2 {l m:List Le}(h:gJ l=true) (hs:m.Sublist l):gJ m=true:=by
 rw [aq3] at h⊢
 exact ⟨Nat.le_trans hs.length_le h.1,fun x hx=>h.2.1 x (hs.subset hx),h.2.2.sublist hs⟩
theorem aj1 {l:List Le}{t:Int}(h:gJ l=true) (hl:l.length=0∨(gU l ((l.length:Int)-1)).2.2.2.1≤t):∀x∈l,x.2.2.2.1≤t:=fun x hx=>by
 obtain ⟨i,hi,rfl⟩:=List.mem_iff_getElem.1 hx
 rcases hl with hl|hl
 ·omega
 ·rw [vC (by omega)] at hl
  have e:((l.length:Int)-1).toNat=l.length-1:=by omega
  simp only [e] at hl
  by_cases q:i=l.length-1
  ·subst q;exact hl
  ·have:=List.pairwise_iff_getElem.1 (Ea h) i (l.length-1) hi (by omega) (by omega)
   omega
def grS (o:List Le) (x:Le):List Le:=if AV o x=0 then Ru o x else o
def rD (l m:List Le) (t:Int):List Le:=m.foldl grS (JJ l t)
theorem azk {o:List Le}{x:Le}(h:gJ o=true):gJ (grS o x)=true∧(grS o x=o∨grS o x=o++[x]):=by
 unfold grS
 split
 ·rename_i e
  have e2:Ru o x=o++[x]:=by unfold Ru;rw [if_pos e]
  rw [e2]
  refine ⟨?_,.inr rfl⟩
  unfold AV at e
  split at e
  ·rename_i c
   rw [Bool.and_eq_true] at c
   split at e
   ·omega
   ·rename_i c2
    split at e
    ·omega
    ·rename_i c3
     have:=(jI h).1
     refine afR h c.2 (by omega) ?_
     by_cases q:o.length=0
     ·exact .inl q
     ·right
      rw [decide_eq_true (by omega),Bool.true_and] at c2
      exact LJ (by simpa using c2)
  ·omega
 ·exact ⟨h,.inl rfl⟩
theorem akH:∀ {m o:List Le},gJ o=true→gJ (m.foldl grS o)=true∧∀x∈m.foldl grS o,x∈o∨x∈m
 | [],_,h=>⟨h,fun x hx=> .inl hx⟩
 | y::m,o,h=>by
  rw [List.foldl_cons]
  obtain ⟨h1,h2⟩:=azk (x:=y) h
  obtain ⟨h3,h4⟩:=akH (m:=m) h1
  refine ⟨h3,fun x hx=>?_⟩
  rcases h4 x hx with h5|h5
  ·rcases h2 with h2|h2<;>rw [h2] at h5
   ·exact .inl h5
   ·rw [List.mem_append,List.mem_singleton] at h5
    rcases h5 with h5|rfl
    ·exact .inl h5
    ·exact .inr (by simp)
  ·exact .inr (List.mem_cons_of_mem _ h5)
theorem YV {l m:List Le}{t:Int}(h:gJ l=true) (ht:inB t 0 1100000=true):gJ (rD l m t)=true∧∀x∈rD l m t,x∈l∨x∈m:=by
 have e:JJ l t=l.filter (af2 t):=by unfold JJ Bj;rw [if_pos (by rw [h,ht];rfl)]
 obtain ⟨h1,h2⟩:=akH (m:=m) (o:=JJ l t) (by rw [e];exact aj2 h List.filter_sublist)
 refine ⟨h1,fun x hx=>?_⟩
 rcases h2 x hx with h3|h3
 ·rw [e] at h3
  exact .inl (List.mem_filter.1 h3).1
 ·exact .inr h3
def ckO (m:Int) (e:Ld):Bool:=decide (e.1≤m)&&(decide (e.2.1≤m)&&decide (e.2.2≤m))
def ckN (cs:List Cd) (L:List Ld) (k:Nat):Bool:=Lr k (fun o=>ckO (bV (dY cs o)) (Be L o.toNat))
def gLi (l:List Ld) (i:Int):Ld:=gx (e:=.pair (.int .i64) oP) l i
def ND (m:Int) (e:Ld) (t:Int):Bool:=(decide (t>0) ||decide (e.1≤m))&&((decide (t>1) ||decide (e.2.1≤m))&&(decide (t>2) ||decide (e.2.2≤m)))
theorem aEh {m:Int}{e:Ld}:ND m e 0=ckO m e:=by simp [ND,ckO]
def Ri (cs:List Cd) (gs:List Ch) (m:List Int):Bool:=ckN cs (DK cs gs m gs.length) cs.length
section
variable {cs : List Cd} {os : List ByteArray} {ks : List Ko} {gs : List Ch} {bs : List Ba} {l : List Le} {rs : List Ra} {d : List Dm} {t n : Int}
theorem ab1 {m:List Int}(hs:dL cs os ks gs bs=true) (hm:∀k:Nat,k<gs.length→0≤gi m k∧gi m k≤80):Ri cs gs m=true↔∀o:Nat,o<cs.length→∀p:Int,(p=0∨p=1∨p=2)→EG m (fP gs p (jR cs gs o gs.length))≤bV (dY cs o):=by
 have gl:=(fG.1 hs).1.2.2.2.2.1
 have hat:=(aj8 (Ac hs) (Ad hs) (by omega) hm gs.length (Nat.le_refl _)).2
 unfold Ri ckN
 rw [fU]
 constructor
 ·intro h o ho p hp
  have h1:=h o (by omega)
  rw [Int.toNat_natCast,hat o ho] at h1
  unfold ckO ldO at h1
  simp only [Bool.and_eq_true,decide_eq_true_eq] at h1
  rcases hp with rfl|rfl|rfl
  ·exact h1.1
  ·exact h1.2.1
  ·exact h1.2.2
 ·intro h o ho
  have h1:=h o (by omega)
  rw [Int.toNat_natCast,hat o (by omega)]
  unfold ckO ldO
  simp only [Bool.and_eq_true,decide_eq_true_eq]
  exact ⟨h1 0 (.inl rfl),h1 1 (.inr (.inl rfl)),h1 2 (.inr (.inr rfl))⟩
theorem agR {a b:List Int}:∀ {L:List Int},(∀k∈L,gi a k≤gi b k)→EG a L≤EG b L
 | [],_=>Int.le_refl _
 |k::L,h=>by
  have h1:=h k (by simp)
  have h2:=agR (a:=a) (b:=b) (L:=L) (fun j hj=>h j (List.mem_cons_of_mem _ hj))
  simp only [EG]
  omega
theorem agQ {a al am:List Int}:∀ {L:List Int},(∀k∈L,gi a k≤mx (gi al k) (gi am k))→EG a L≤Xr al am L
 | [],_=>by simp [EG,Xr]
 |k::L,h=>by
  have h1:=h k (by simp)
  have h2:=agQ (a:=a) (al:=al) (am:=am) (L:=L) (fun j hj=>h j (List.mem_cons_of_mem _ hj))
  rw [qC]
  simp only [EG]
  omega
theorem UF {c:Nat}{p:Int}(hp:p=0∨p=1∨p=2) (hl:(fP gs p (jR cs gs c gs.length)).length>0):∀ {k:Nat},c<k→(bV (dY cs c),fP gs p (jR cs gs c gs.length))∈jH cs gs k
 |0,h=>by omega
 | k+1,h=>by
  rw [jH,List.mem_append]
  by_cases e:c=k
  ·right
   subst e
   unfold ahj
   rw [List.mem_append,List.mem_append]
   have:(bV (dY cs c),fP gs p (jR cs gs c gs.length))∈rowP cs gs c p:=by
    unfold rowP
    rw [if_pos hl]
    simp
   rcases hp with rfl|rfl|rfl
   ·exact .inl (.inl this)
   ·exact .inl (.inr this)
   ·exact .inr this
  ·exact .inl (UF hp hl (by omega))
theorem SG {j:Int}(j0:0≤j) (j1:j<(gs.length:Int)):gi (kW gs l t) j=mx (zD (bD gs j)) (gi (vJ gs.length l t) j):=jE j0 j1
theorem asB (V:Vd cs os ks gs bs l rs d t n) (hf:∀x∈l,x.2.2.2.1≤t) {am:List Int}{m:List Le}(M:NwL gs am t n m) {t':Int}(ht:t≤t') (h0:∀j,0≤j→j<(gs.length:Int)→0≤gi am j) {j:Int}(j0:0≤j) (j1:j<(gs.length:Int)):
  gi (kW gs (rD l m t) t') j≤mx (gi (kW gs l t) j) (gi am j):=by
 have tb:=V.tb
 obtain ⟨g1,g2⟩:=YV (m:=m) V.les (t:=t) (dV.2 (by omega))
 have hmm:∀x∈m,x.2.2.1=gi am x.2.1∧0≤x.2.1∧x.2.1<(gs.length:Int):=fun x hx=>by
  obtain ⟨k,hk,rfl⟩:=List.mem_iff_getElem.1 hx
  obtain ⟨q1,q2,_⟩:=M.at_ k (by omega) (by omega)
  rw [vC (by omega)] at q1 q2
  simp only [Int.toNat_natCast] at q1 q2
  refine ⟨?_,q2⟩
  exact congrArg (fun z:Le=>z.2.2.1) q1
 have hb:below gs.length (rD l m t)=true:=List.all_eq_true.2 fun x hx=>decide_eq_true (by
  rcases g2 x hx with h|h
  ·exact of_decide_eq_true (List.all_eq_true.1 V.co x h)
  ·exact (hmm x h).2.2)
 have hj:=h0 j j0 j1
 have key:gi (vJ gs.length (rD l m t) t') j≤mx (gi (vJ gs.length l t) j) (gi am j):=by
  have a0:0≤gi (vJ gs.length l t) j:=(acu (a:=0) (b:=80) (by decide) (SI V.les)).1
  refine asC g1 hb j0 (by unfold mx;split<;>omega) fun x hx ha e=>?_
  rcases g2 x hx with h|h
  ·have ha':Eu t x=true:=by
    unfold Eu at ha⊢
    simp only [Bool.and_eq_true,decide_eq_true_eq] at ha⊢
    exact ⟨hf x h,by omega⟩
   have:=asD V.les V.co h ha'
   rw [e] at this
   unfold mx
   split<;>omega
  ·have:=(hmm x h).1
   rw [e] at this
   unfold mx
   split<;>omega
 rw [SG j0 j1,SG j0 j1]
 unfold mx at key⊢
 split<;>split<;>split at key<;>(try split)<;>omega
theorem V9 (V:Vd cs os ks gs bs l rs d t n) {am:List Int}{m:List Le}(M:NwL gs am t n m) {t':Int}(h0:0≤t') (h1:t'≤1100000):qR (rD l m t) gs.length t'=true:=by
 have tb:=V.tb
 have gl:=V.gl
 obtain ⟨g1,g2⟩:=YV (m:=m) V.les (t:=t) (dV.2 (by omega))
 unfold qR
 rw [g1,dV.2 (by omega),dV.2 (by omega)]
 simp only [Bool.true_and,Bool.and_true]
 exact List.all_eq_true.2 fun x hx=>decide_eq_true (by
  rcases g2 x hx with h|h
  ·exact of_decide_eq_true (List.all_eq_true.1 V.co x h)
  ·obtain ⟨k,hk,rfl⟩:=List.mem_iff_getElem.1 h
   obtain ⟨_,q2,_⟩:=M.at_ k (by omega) (by omega)
   rw [vC (by omega)] at q2
   simpa using q2.2)
theorem Wh {l2:List Le}{t2:Int}(hs:dL cs os ks gs bs=true) (hv:gJ l2=true) {j:Int}(j0:0≤j) (j1:j<(gs.length:Int)):0≤gi (kW gs l2 t2) j∧gi (kW gs l2 t2) j≤80:=by
 have hch:chW (bD gs j)=true:=by
  have:=qE hs j0 j1
  unfold GV at this
  simp only [Bool.and_eq_true] at this
  exact this.2.2
 have hc:=RZ hch
 have h:=acu (a:=0) (b:=80) (j:=j) (by decide) (SI (t:=t2) (m:=gs.length) hv)
 rw [SG j0 j1]
 unfold mx
 split<;>omega
theorem SH {l2:List Le}{t2:Int}(V:Vd cs os ks gs bs l rs d t n) (hv:gJ l2=true) {j:Int}(j0:0≤j) (j1:j<(gs.length:Int)):0≤gi (kW gs l2 t2) j∧gi (kW gs l2 t2) j≤80:=Wh V.site hv j0 j1
theorem Vb (V:Vd cs os ks gs bs l rs d t n) (hf:∀x∈l,x.2.2.2.1≤t) (hk:Ri cs gs (kW gs l t)=true) {t':Int}(ht:t≤t') {m:List Le}(M:NwL gs (LU gs rs (MR cs os ks gs bs l d t) gs.length) t n m):
  Ri cs gs (kW gs (rD l m t) t')=true:=by
 have tb:=V.tb
 have g1:=(YV (m:=m) V.les (t:=t) (dV.2 (by omega))).1
 rw [ab1 V.site (fun k hk=>SH V g1 (by omega) (by omega))]
 rw [ab1 V.site (fun k hk=>SH V V.les (by omega) (by omega))] at hk
 intro o ho p hp
 have h1:=hk o ho p hp
 have hin:∀k∈fP gs p (jR cs gs o gs.length),0≤k∧k<(gs.length:Int):=fun k hk=>Dq (List.mem_filter.1 hk).1
 have hmx:∀k∈fP gs p (jR cs gs o gs.length),gi (kW gs (rD l m t) t') k≤mx (gi (kW gs l t) k) (gi (LU gs rs (MR cs os ks gs bs l d t) gs.length) k):=fun k hk=>asB V hf M ht (fun j j0 j1=>(au7 V j0 j1).1) (hin k hk).1 (hin k hk).2
 by_cases hl:(fP gs p (jR cs gs o gs.length)).length>0
 ·have hr:=List.all_eq_true.1 (ase V) _ (UF hp hl ho)
  unfold rowB at hr
  rw [Bool.or_eq_true] at hr
  rcases hr with hr|hr
  ·refine Int.le_trans (agR fun k hk=>?_) h1
   have h2:=hmx k hk
   have h3:gi (LU gs rs (MR cs os ks gs bs l d t) gs.length) k=0:=by simpa using List.all_eq_true.1 hr k hk
   have h4:=SH (t2:=t) V V.les (hin k hk).1 (hin k hk).2
   rw [h3] at h2
   unfold mx at h2
   split at h2<;>omega
  ·exact Int.le_trans (agQ hmx) (of_decide_eq_true hr)
 ·have e:fP gs p (jR cs gs o gs.length)=[]:=List.eq_nil_of_length_eq_zero (by omega)
  rw [e] at h1⊢
  exact h1
end
end Go.Proofs.YtlihnbimgclogaaGreatDoor
namespace Go.Proofs.YtlihnbimgclogaaGreatDoor
open Go.Sx
noncomputable def ahc:Array Tmp×Code×Code:=((ja (Tryz.f67.body.getD .skip))[0]?).getD (#[],.skip,.skip)
noncomputable def as4:Array Tmp:=ahc.1
noncomputable def as6:Code:=ahc.2.1
noncomputable def as5:Code:=ahc.2.2
structure oh where
 c:Int
 t7:Int
 t8:Int
 t11:Int
 aH:List Cd
 cu:List ByteArray
 bG:List Ko
 bK:List Ch
 eX:List Ba
 dW:Int
 iF:Int
 jF:Int
 b2:Bool
 b3:Int
 b4:List (Int×Ra)
 fQ:List Cd
 jP:List ByteArray
 gK:List Ko
 iw:List Ch
 oO:List Ba
 st:LS
def aGE (s:oh):List LV:=[.tN 6,.v (.int .i64 s.c),.v (.int .i64 s.t7),.v (.int .i64 s.t8),.v (.int .i64 s.t11)]
noncomputable def aFB (s:oh):List aW:=[⟨[.xl eu s.aH,.xl .str s.cu,.xl eG s.bG,.xl dK s.bK,.xl eP s.eX],28,.cl,false⟩,⟨[.v (.int .i64 s.dW),.v (.int .i64 s.iF),.v (.int .i64 s.jF)],115,.cl,false⟩,⟨[.v (.bool s.b2)],4,.cl,false⟩,⟨[.v (.int .i64 s.b3)],36,.cl,false⟩,⟨[.xl (.pair (.int .i64) oP) s.b4],164,.cl,false⟩,⟨[.xl eu s.fQ,.xl .str s.jP,.xl eG s.gK,.xl dK s.iw,.xl eP s.oO],28,.cl,false⟩,⟨[.junk,.junk,.own 0 0,.junk,.own 1 0,.own 2 0,.own 3 0,.own 4 0,.junk,.v (.tuple #[]),.v (.tuple #[]),.junk,.junk,.junk,.junk,.junk,.junk,.junk,.junk,.junk,.junk,.junk,.v (.tuple #[]),.v (.tuple #[]),.v (.tuple #[]),.v (.tuple #[]),.v (.tuple #[]),.v (.tuple #[]),.v (.tuple #[]),.v (.tuple #[]),.v (.tuple #[]),.v (.tuple #[]),.v (.tuple #[]),.v (.tuple #[]),.v (.tuple #[]),.v (.tuple #[]),.v (.tuple #[]),.v (.tuple #[]),.v (.tuple #[]),.v (.tuple #[]),.v (.tuple #[]),.v (.tuple #[]),.v (.tuple #[]),.v (.tuple #[]),.v (.tuple #[]),.v (.tuple #[]),.junk],0,.jZ as4 as6 as5 s.st,false⟩]
noncomputable def JR:Code:=((aB (((aB (Tryz.f101.body.getD .skip))[0]?).getD .skip))[0]?).getD .skip
def Ul (s:oh):T (Rd oh):=
 .br (decide (s.t11<3)) (.req (0≤s.c∧s.c<(List.length s.b4:Int)) (.br (s.t11==0) (.req (0≤s.c∧s.c<(List.length s.aH:Int)) (.br (decide ((gx (e:=.pair (.int .i64) oP) s.b4 s.c).1>(bV (dY s.aH s.c)))) (.ok (.stop (.ret) {s with dW:=s.c,iF:=s.t11,jF:=(gx (e:=.pair (.int .i64) oP) s.b4 s.c).1,b2:=true,b3:=(0:Int),st:=(.done (.ret))})) (.ok (.next {s with t11:=(IntKind.i64.wrap (s.t11+1))})))) (.br (s.t11==1) (.req (0≤s.c∧s.c<(List.length s.aH:Int)) (.br (decide ((gx (e:=.pair (.int .i64) oP) s.b4 s.c).2.1>(bV (dY s.aH s.c)))) (.ok (.stop (.ret) {s with dW:=s.c,iF:=s.t11,jF:=(gx (e:=.pair (.int .i64) oP) s.b4 s.c).2.1,b2:=true,b3:=(0:Int),st:=(.done (.ret))})) (.ok (.next {s with t11:=(IntKind.i64.wrap (s.t11+1))})))) (.br (s.t11==2) (.req (0≤s.c∧s.c<(List.length s.aH:Int)) (.br (decide ((gx (e:=.pair (.int .i64) oP) s.b4 s.c).2.2>(bV (dY s.aH s.c)))) (.ok (.stop (.ret) {s with dW:=s.c,iF:=s.t11,jF:=(gx (e:=.pair (.int .i64) oP) s.b4 s.c).2.2,b2:=true,b3:=(0:Int),st:=(.done (.ret))})) (.ok (.next {s with t11:=(IntKind.i64.wrap (s.t11+1))})))) (.no /-  -/))))) (.ok (.stop (.exit 2) s))
abbrev ac3 (s:oh):=(Ul s).rd s
def afp (s:oh):Prop:=s.st=.ready∧s.t11=0∧(0≤s.c∧s.c<(s.b4.length:Int))∧s.c<(s.aH.length:Int)
def WY (s:oh):Prop:=s.st=.ready∧(0≤s.t11∧s.t11≤3)∧(0≤s.c∧s.c<(s.b4.length:Int))∧s.c<(s.aH.length:Int)
def D8 (s:oh):Nat:=(3-s.t11).toNat
def avv (_:Ex) (_ _:oh):Prop:=True
theorem aEi:∀s,afp s→WY s:=by
 intro s h
 obtain ⟨h,h0,h1⟩:=h
 exact ⟨h,by omega,h1⟩
theorem azZ (s:oh) (hI:WY s):bP (fun s'=>WY s'∧D8 s'<D8 s) (fun x s'=>avv x s s') (ac3 s):=by
 unfold ac3 Ul
 dsimp only [T.rd,T.rl]
 obtain ⟨ht,h0,h1,h2⟩:=hI
 refine au (fun c1=>?_) (fun c1=>?_)
 ·refine au (fun c2=>?_) (fun c2=>?_)
  ·refine au (fun c3=>?_) (fun c3=>?_)
   ·trivial
   ·have c1:s.t11<3:=by simpa using c1
    rw [aN (x:=s.t11+1) (by omega) (by omega)]
    exact ⟨⟨ht,⟨by simp only;omega,by simp only;omega⟩,h1,h2⟩,by simp only [D8];omega⟩
  ·refine au (fun c3=>?_) (fun c3=>?_)
   ·refine au (fun c4=>?_) (fun c4=>?_)
    ·trivial
    ·have c1:s.t11<3:=by simpa using c1
     rw [aN (x:=s.t11+1) (by omega) (by omega)]
     exact ⟨⟨ht,⟨by simp only;omega,by simp only;omega⟩,h1,h2⟩,by simp only [D8];omega⟩
   ·refine au (fun c4=>?_) (fun c4=>?_)
    ·refine au (fun c5=>?_) (fun c5=>?_)
     ·trivial
     ·have c1:s.t11<3:=by simpa using c1
      rw [aN (x:=s.t11+1) (by omega) (by omega)]
      exact ⟨⟨ht,⟨by simp only;omega,by simp only;omega⟩,h1,h2⟩,by simp only [D8];omega⟩
    ·exfalso
     simp only [decide_eq_true_eq,beq_eq_false_iff_ne,ne_eq] at*
     omega
 ·trivial
noncomputable def Ll:bQ oh:=⟨7,22,[0,3,7,8,11],[],aGE,aFB,fun v b=>⟨gI (v.getD 1 .junk),gI (v.getD 2 .junk),gI (v.getD 3 .junk),gI (v.getD 4 .junk),aQ eu (aV (aO b 0) 0),aQ .str (aV (aO b 0) 1),aQ eG (aV (aO b 0) 2),aQ dK (aV (aO b 0) 3),aQ eP (aV (aO b 0) 4),gI (aV (aO b 1) 0),gI (aV (aO b 1) 1),gI (aV (aO b 1) 2),yF (aV (aO b 2) 0),gI (aV (aO b 3) 0),aQ (.pair (.int .i64) oP) (aV (aO b 4) 0),aQ eu (aV (aO b 5) 0),aQ .str (aV (aO b 5) 1),aQ eG (aV (aO b 5) 2),aQ dK (aV (aO b 5) 3),aQ eP (aV (aO b 5) 4),.ready⟩,Ul,fun s r=> {r with c:=s.c,t7:=s.t7,t8:=s.t8,aH:=s.aH,cu:=s.cu,bG:=s.bG,bK:=s.bK,eX:=s.eX,b4:=s.b4,fQ:=s.fQ,jP:=s.jP,gK:=s.gK,iw:=s.iw,oO:=s.oO},fun s=> {s with st:=.ready},fun x s=> {s with st:=(match x with| .ret=>(.done (.ret)) | .exit 2=> .ready|_=> .ready)},[.ret,.exit 2],afp,WY,D8⟩
noncomputable abbrev mY:=Ll.run
noncomputable abbrev Hr:=Ll.jU
abbrev aBk:=Ll.q
noncomputable def Eg:Specs:=bf [(58,zO),(112,Wn)]
theorem Jw:∀g S,Eg g=some S→Valid Tryz.prog aS g S:=aT (l:=[(58,zO),(112,Wn)]) ⟨Xz,asT,trivial⟩
noncomputable def Ro:Hand:=inl Tryz.prog aS Eg (kH Tryz.prog aS (Eg) 20 2) 9
theorem YR:cZ Tryz.prog aS Ro:=bM Jw (dI Jw) 9
theorem axR (s:oh) (hI:WY s):(Ul s).all (fun _=>True):=by
 refine ⟨fun c1=>⟨?_,fun c2=>⟨?_,fun _=>trivial,fun _=>trivial⟩,fun c2=>⟨fun c4=>⟨?_,fun _=>trivial,fun _=>trivial⟩,fun c4=>⟨fun c6=>⟨?_,fun _=>trivial,fun _=>trivial⟩,fun c6=>?_⟩⟩⟩,fun _=>trivial⟩
 iterate 4 · (obtain ⟨ht,h0,h1,h2⟩:=hI;omega)
 ·(exfalso;obtain ⟨ht,h0,h1,h2⟩:=hI;simp only [decide_eq_true_eq,beq_eq_false_iff_ne,ne_eq] at*;omega)
theorem ajj:Ll.Ok:=⟨fun s=>by kernel_rfl,fun s=>by kernel_rfl,fun s=>rfl,fun s t r=>rfl,fun s=>rfl,fun s=>by kernel_rfl⟩
theorem aib:Ll.Pf (avv):=⟨aEi,fun s h=>by
 obtain ⟨c,t7,t8,t11,aH,cu,bG,bK,eX,dW,iF,jF,b2,b3,b4,fQ,jP,gK,iw,oO,st⟩:=s
 have e:st=.ready:=h.1
 subst e
 rfl,azZ,axR⟩
theorem aoP:bn Tryz.prog aS (AN 7) (.loop JR) Ll.lp:=bQ.snd ajj aib (bF (Γ:=Eg) (K:=Ro) (L:=(sO Tryz.prog aS Eg Ro 20 2)) Jw YR JR (fun b _=>dN Jw YR 20 2 b)) (fun s=>by kernel_rfl)
theorem asn (s:oh) (hE:afp s):(fun (x:Ex) (s':oh) (v:Bool)=>(x=.ret∧v=false∧s'.b2=true∧s'.b3=0)∨(x=.exit 2∧v=true)) (Hr s) (mY s) ((fun s:oh=>ND (bV (dY s.aH s.c)) (gLi s.b4 s.c) s.t11) s):=by
 exact bQ.ul ajj aib (fun s:oh=>ND (bV (dY s.aH s.c)) (gLi s.b4 s.c) s.t11) (fun x s' v=>(x=.ret∧v=false∧s'.b2=true∧s'.b3=0)∨(x=.exit 2∧v=true)) (fun s hI=>by
  show bP _ _ (ac3 s)
  unfold ac3 Ul
  dsimp only [T.rd,T.rl]
  obtain ⟨ht,h0,h1,h2⟩:=hI
  refine au (fun c1=>?_) (fun c1=>?_)
  ·refine au (fun c2=>?_) (fun c2=>?_)
   ·refine au (fun c3=>?_) (fun c3=>?_)
    ·refine .inl ⟨rfl,?_,rfl,rfl⟩
     have c3:(gLi s.b4 s.c).1>bV (dY s.aH s.c):=of_decide_eq_true c3
     unfold ND
     simp only [beq_iff_eq] at*
     simp only [Bool.and_eq_false_iff,Bool.or_eq_false_iff,decide_eq_false_iff_not]
     omega
    ·have c1:s.t11<3:=by simpa using c1
     rw [aN (x:=s.t11+1) (by omega) (by omega)]
     have c3:¬(gLi s.b4 s.c).1>bV (dY s.aH s.c):=of_decide_eq_false c3
     show ND _ _ _=ND _ _ _
     rw [Bool.eq_iff_iff]
     unfold ND
     simp only [beq_iff_eq] at*
     simp only [Bool.and_eq_true,Bool.or_eq_true,decide_eq_true_eq]
     omega
   ·refine au (fun c3=>?_) (fun c3=>?_)
    ·refine au (fun c4=>?_) (fun c4=>?_)
     ·refine .inl ⟨rfl,?_,rfl,rfl⟩
      have c4:(gLi s.b4 s.c).2.1>bV (dY s.aH s.c):=of_decide_eq_true c4
      unfold ND
      simp only [beq_iff_eq,beq_eq_false_iff_ne,ne_eq] at*
      simp only [Bool.and_eq_false_iff,Bool.or_eq_false_iff,decide_eq_false_iff_not]
      omega
     ·have c1:s.t11<3:=by simpa using c1
      rw [aN (x:=s.t11+1) (by omega) (by omega)]
      have c4:¬(gLi s.b4 s.c).2.1>bV (dY s.aH s.c):=of_decide_eq_false c4
      show ND _ _ _=ND _ _ _
      rw [Bool.eq_iff_iff]
      unfold ND
      simp only [beq_iff_eq,beq_eq_false_iff_ne,ne_eq] at*
      simp only [Bool.and_eq_true,Bool.or_eq_true,decide_eq_true_eq]
      omega
    ·refine au (fun c4=>?_) (fun c4=>?_)
     ·refine au (fun c5=>?_) (fun c5=>?_)
      ·refine .inl ⟨rfl,?_,rfl,rfl⟩
       have c5:(gLi s.b4 s.c).2.2>bV (dY s.aH s.c):=of_decide_eq_true c5
       unfold ND
       simp only [beq_iff_eq,beq_eq_false_iff_ne,ne_eq] at*
       simp only [Bool.and_eq_false_iff,Bool.or_eq_false_iff,decide_eq_false_iff_not]
       omega
      ·have c1:s.t11<3:=by simpa using c1
       rw [aN (x:=s.t11+1) (by omega) (by omega)]
       have c5:¬(gLi s.b4 s.c).2.2>bV (dY s.aH s.c):=of_decide_eq_false c5
       show ND _ _ _=ND _ _ _
       rw [Bool.eq_iff_iff]
       unfold ND
       simp only [beq_iff_eq,beq_eq_false_iff_ne,ne_eq] at*
       simp only [Bool.and_eq_true,Bool.or_eq_true,decide_eq_true_eq]
       omega
     ·exfalso
      simp only [decide_eq_true_eq,beq_eq_false_iff_ne,ne_eq] at*
      omega
  ·have c1:3≤s.t11:=by simpa using c1
   refine .inr ⟨rfl,?_⟩
   unfold ND
   simp only [Bool.and_eq_true,Bool.or_eq_true,decide_eq_true_eq]
   omega) s hE
structure jM where
 t7:Int
 t8:Int
 aH:List Cd
 cu:List ByteArray
 bG:List Ko
 bK:List Ch
 eX:List Ba
 dW:Int
 iF:Int
 jF:Int
 b2:Bool
 b3:Int
 b4:List (Int×Ra)
 fQ:List Cd
 jP:List ByteArray
 gK:List Ko
 iw:List Ch
 oO:List Ba
 st:LS
def aGF (s:jM):List LV:=[.tN 6,.v (.int .i64 s.t7),.v (.int .i64 s.t8)]
noncomputable def aFC (s:jM):List aW:=[⟨[.xl eu s.aH,.xl .str s.cu,.xl eG s.bG,.xl dK s.bK,.xl eP s.eX],28,.cl,false⟩,⟨[.v (.int .i64 s.dW),.v (.int .i64 s.iF),.v (.int .i64 s.jF)],115,.cl,false⟩,⟨[.v (.bool s.b2)],4,.cl,false⟩,⟨[.v (.int .i64 s.b3)],36,.cl,false⟩,⟨[.xl (.pair (.int .i64) oP) s.b4],164,.cl,false⟩,⟨[.xl eu s.fQ,.xl .str s.jP,.xl eG s.gK,.xl dK s.iw,.xl eP s.oO],28,.cl,false⟩,⟨[.junk,.junk,.own 0 0,.junk,.own 1 0,.own 2 0,.own 3 0,.own 4 0,.junk,.v (.tuple #[]),.v (.tuple #[]),.junk,.junk,.junk,.junk,.junk,.junk,.junk,.junk,.junk,.junk,.junk,.v (.tuple #[]),.v (.tuple #[]),.v (.tuple #[]),.v (.tuple #[]),.v (.tuple #[]),.v (.tuple #[]),.v (.tuple #[]),.v (.tuple #[]),.v (.tuple #[]),.v (.tuple #[]),.v (.tuple #[]),.v (.tuple #[]),.v (.tuple #[]),.v (.tuple #[]),.v (.tuple #[]),.v (.tuple #[]),.v (.tuple #[]),.v (.tuple #[]),.v (.tuple #[]),.v (.tuple #[]),.v (.tuple #[]),.v (.tuple #[]),.v (.tuple #[]),.v (.tuple #[]),.junk],0,.jZ as4 as6 as5 s.st,false⟩]
noncomputable def VZ:Code:=((aB (Tryz.f101.body.getD .skip))[0]?).getD .skip
def iD (s:jM):oh:=(⟨s.t8,s.t7,s.t8,(0:Int),s.aH,s.cu,s.bG,s.bK,s.eX,s.dW,s.iF,s.jF,s.b2,s.b3,s.b4,s.fQ,s.jP,s.gK,s.iw,s.oO,.ready⟩:oh)
noncomputable def Um (s:jM):T (Rd jM):=
 .br (decide (s.t8<s.t7)) (.req (aBk (iD s)) (.br (iE (Hr (iD s)) (.ret)) (.ok (.stop (.ret) {s with dW:=(mY (iD s)).dW,iF:=(mY (iD s)).iF,jF:=(mY (iD s)).jF,b2:=(mY (iD s)).b2,b3:=(mY (iD s)).b3,st:=(.done (.ret))})) (.ok (.next {s with t8:=(IntKind.i64.wrap (s.t8+1)),dW:=(mY (iD s)).dW,iF:=(mY (iD s)).iF,jF:=(mY (iD s)).jF,b2:=(mY (iD s)).b2,b3:=(mY (iD s)).b3})))) (.ok (.stop (.exit 0) s))
noncomputable abbrev ac4 (s:jM):=(Um s).rd s
def afq (s:jM):Prop:=s.st=.ready∧s.t8=0∧s.t7=(s.aH.length:Int)∧s.t7≤1000∧s.b4.length=s.aH.length
def OQ (s:jM):Prop:=s.st=.ready∧(0≤s.t8∧s.t8≤s.t7)∧s.t7=(s.aH.length:Int)∧s.t7≤1000∧s.b4.length=s.aH.length
def QR (s:jM):Nat:=(s.t7-s.t8).toNat
def avw (_:Ex) (_ _:jM):Prop:=True
theorem aEj:∀s,afq s→OQ s:=by
 intro s h
 obtain ⟨h,h0,h1⟩:=h
 exact ⟨h,by have:=h1.1;omega,h1⟩
theorem aly (s:jM) (hI:OQ s) (c1:s.t8<s.t7):afp (iD s):=by
 obtain ⟨ht,⟨h0,h1⟩,h2,h3,h4⟩:=hI
 exact ⟨rfl,rfl,⟨h0,by show s.t8<(s.b4.length:Int);omega⟩,by show s.t8<(s.aH.length:Int);omega⟩
theorem az0 (s:jM) (hI:OQ s):bP (fun s'=>OQ s'∧QR s'<QR s) (fun x s'=>avw x s s') (ac4 s):=by
 unfold ac4 Um
 dsimp only [T.rd,T.rl]
 obtain ⟨ht,⟨h0,h1⟩,h2,h3,h4⟩:=hI
 refine au (fun c1=>au (fun c2=>trivial) (fun c2=>?_)) (fun c1=>trivial)
 have c1:s.t8<s.t7:=by simpa using c1
 rw [aN (x:=s.t8+1) (by omega) (by omega)]
 exact ⟨⟨ht,⟨by simp only;omega,by simp only;omega⟩,h2,h3,h4⟩,by simp only [QR];omega⟩
noncomputable def Lm:bQ jM:=⟨7,22,[0,7,8],[],aGF,aFC,fun v b=>⟨gI (v.getD 1 .junk),gI (v.getD 2 .junk),aQ eu (aV (aO b 0) 0),aQ .str (aV (aO b 0) 1),aQ eG (aV (aO b 0) 2),aQ dK (aV (aO b 0) 3),aQ eP (aV (aO b 0) 4),gI (aV (aO b 1) 0),gI (aV (aO b 1) 1),gI (aV (aO b 1) 2),yF (aV (aO b 2) 0),gI (aV (aO b 3) 0),aQ (.pair (.int .i64) oP) (aV (aO b 4) 0),aQ eu (aV (aO b 5) 0),aQ .str (aV (aO b 5) 1),aQ eG (aV (aO b 5) 2),aQ dK (aV (aO b 5) 3),aQ eP (aV (aO b 5) 4),.ready⟩,Um,fun s r=> {r with t7:=s.t7,aH:=s.aH,cu:=s.cu,bG:=s.bG,bK:=s.bK,eX:=s.eX,b4:=s.b4,fQ:=s.fQ,jP:=s.jP,gK:=s.gK,iw:=s.iw,oO:=s.oO},fun s=> {s with st:=.ready},fun x s=> {s with st:=(match x with| .ret=>(.done (.ret)) | .exit 0=> .ready|_=> .ready)},[.ret,.exit 0],afq,OQ,QR⟩
noncomputable abbrev qm:=Lm.run
noncomputable abbrev Bl:=Lm.jU
abbrev aBl:=Lm.q
theorem axS (s:jM) (hI:OQ s):(Um s).all (fun _=>True):=by
 refine ⟨fun c1=>⟨?_,fun _=>trivial,fun _=>trivial⟩,fun _=>trivial⟩
 ·exact ⟨aly s hI (by simpa using c1),rfl,rfl⟩
theorem ajk:Lm.Ok:=⟨fun s=>by kernel_rfl,fun s=>by kernel_rfl,fun s=>rfl,fun s t r=>rfl,fun s=>rfl,fun s=>by kernel_rfl⟩
theorem aic:Lm.Pf (avw):=⟨aEj,fun s h=>by
 obtain ⟨t7,t8,aH,cu,bG,bK,eX,dW,iF,jF,b2,b3,b4,fQ,jP,gK,iw,oO,st⟩:=s
 have e:st=.ready:=h.1
 subst e
 rfl,az0,axS⟩
theorem aoQ:bn Tryz.prog aS (AN 7) (.loop VZ) Lm.lp:=bQ.snd ajk aic (bF (Γ:=Eg) (K:=Ro) (L:=(Zl (fun i=>if i=4 then Ll.lp else aC i))) Jw YR VZ (fun b hb=>by
 rw [show aB _=[JR] by kernel_rfl] at hb
 simp only [List.mem_cons,List.not_mem_nil,or_false] at hb
 subst hb
 exact aoP)) (fun s=>by kernel_rfl)
theorem aso (s:jM) (hE:afq s):(fun (x:Ex) (s':jM) (v:Bool)=>(x=.ret∧v=false∧s'.b2=true∧s'.b3=0)∨(x=.exit 0∧v=true)) (Bl s) (qm s) ((fun s:jM=>((List.range s.aH.length).drop s.t8.toNat).all (fun o=>ckO (bV (dY s.aH o)) (Be s.b4 o))) s):=by
 exact bQ.ul ajk aic (fun s:jM=>((List.range s.aH.length).drop s.t8.toNat).all (fun o=>ckO (bV (dY s.aH o)) (Be s.b4 o))) (fun x s' v=>(x=.ret∧v=false∧s'.b2=true∧s'.b3=0)∨(x=.exit 0∧v=true)) (fun s hI=>by
  show bP _ _ (ac4 s)
  unfold ac4 Um
  dsimp only [T.rd,T.rl]
  have hin:=fun c1=>aly s hI c1
  obtain ⟨ht,⟨h0,h1⟩,h2,h3,h4⟩:=hI
  refine au (fun c1=>?_) (fun c1=>?_)
  ·have c1:s.t8<s.t7:=by simpa using c1
   have q:=asn _ (hin c1)
   have e:((List.range s.aH.length).drop s.t8.toNat).all (fun o=>ckO (bV (dY s.aH o)) (Be s.b4 o))=(ND (bV (dY s.aH s.t8)) (gLi s.b4 s.t8) 0&&((List.range s.aH.length).drop (s.t8+1).toNat).all (fun o=>ckO (bV (dY s.aH o)) (Be s.b4 o))):=by
    rw [List.drop_eq_getElem_cons (by simp;omega),List.all_cons,List.getElem_range,show (s.t8+1).toNat=s.t8.toNat+1 by omega,Int.toNat_of_nonneg h0,aEh]
    rfl
   refine au (fun c2=>?_) (fun c2=>?_)
   ·rcases q with ⟨q1,q2,q3,q4⟩ |⟨q1,q2⟩
    ·refine .inl ⟨rfl,?_,q3,q4⟩
     rw [e]
     have q2:ND (bV (dY s.aH s.t8)) (gLi s.b4 s.t8) 0=false:=q2
     rw [q2,Bool.false_and]
    ·rw [show Hr (iD s)=_ from q1] at c2
     cases c2
   ·rcases q with ⟨q1,q2,q3,q4⟩ |⟨q1,q2⟩
    ·rw [show Hr (iD s)=_ from q1] at c2
     cases c2
    ·show List.all _ _=List.all _ _
     rw [e]
     have q2:ND (bV (dY s.aH s.t8)) (gLi s.b4 s.t8) 0=true:=q2
     rw [q2,Bool.true_and,aN (x:=s.t8+1) (by omega) (by omega)]
  ·have c1:s.t7≤s.t8:=by simpa using c1
   refine .inr ⟨rfl,?_⟩
   rw [List.drop_eq_nil_of_le (by simp;omega)]
   rfl) s hE
end Go.Proofs.YtlihnbimgclogaaGreatDoor
namespace Go.Proofs.YtlihnbimgclogaaGreatDoor
open Go.Sx
noncomputable def vk1 (cs:List Cd) (os:List ByteArray) (ks:List Ko) (gs:List Ch) (bs:List Ba) (am:List Int):Int:=if iE (Bl ⟨(List.length cs:Int),(0:Int),cs,os,ks,gs,bs,(0:Int),(0:Int),(0:Int),false,(0:Int),(DK cs gs am gs.length),cs,os,ks,gs,bs,.ready⟩) (.ret)=true then (qm ⟨(List.length cs:Int),(0:Int),cs,os,ks,gs,bs,(0:Int),(0:Int),(0:Int),false,(0:Int),(DK cs gs am gs.length),cs,os,ks,gs,bs,.ready⟩).dW else 0
noncomputable def vk2 (cs:List Cd) (os:List ByteArray) (ks:List Ko) (gs:List Ch) (bs:List Ba) (am:List Int):Int:=if iE (Bl ⟨(List.length cs:Int),(0:Int),cs,os,ks,gs,bs,(0:Int),(0:Int),(0:Int),false,(0:Int),(DK cs gs am gs.length),cs,os,ks,gs,bs,.ready⟩) (.ret)=true then (qm ⟨(List.length cs:Int),(0:Int),cs,os,ks,gs,bs,(0:Int),(0:Int),(0:Int),false,(0:Int),(DK cs gs am gs.length),cs,os,ks,gs,bs,.ready⟩).iF else 0
noncomputable def vk3 (cs:List Cd) (os:List ByteArray) (ks:List Ko) (gs:List Ch) (bs:List Ba) (am:List Int):Int:=if iE (Bl ⟨(List.length cs:Int),(0:Int),cs,os,ks,gs,bs,(0:Int),(0:Int),(0:Int),false,(0:Int),(DK cs gs am gs.length),cs,os,ks,gs,bs,.ready⟩) (.ret)=true then (qm ⟨(List.length cs:Int),(0:Int),cs,os,ks,gs,bs,(0:Int),(0:Int),(0:Int),false,(0:Int),(DK cs gs am gs.length),cs,os,ks,gs,bs,.ready⟩).jF else 0
noncomputable def aeu:List LV→T LV
 | [.agg [.xl (.pair .str (.pair (.int .i64) (.pair (.int .i64) (.pair (.int .i64) (.pair (.pair (.int .i64) (.int .i64)) (.pair (.int .i64) (.pair (.int .i64) (.pair (.int .i64) (.pair (.int .i64) (.int .i64)))))))))) cs,.xl (.str) os,.xl (.pair .str (.pair (.int .i64) (.pair (.int .i64) (.int .i64)))) ks,.xl (.pair .str (.pair (.int .i64) (.pair (.int .i64) (.pair (.int .i64) (.pair (.int .i64) (.pair (.int .i64) (.pair (.int .i64) (.int .i64)))))))) gs,.xl (.pair .str (.int .i64)) bs],.xl (.int .i64) am]=> .req ((dL cs os ks gs bs=true∧am.length=gs.length)∧∀k:Nat,k<am.length→0≤gi am k∧gi am k≤80) (.ok (.v (.tuple #[.agg #[.int .i64 (vk1 cs os ks gs bs am),.int .i64 (vk2 cs os ks gs bs am),.int .i64 (vk3 cs os ks gs bs am)],.bool (!Ri cs gs am),.int .i64 0])))
 |_=> .no
noncomputable def ZW:List LV→T LV:=gZ Tryz.prog Tryz.f67.params.toList aeu
noncomputable def Rx:Specs:=bf [(58,zO),(112,Wn)]
theorem YW:∀g S,Rx g=some S→Valid Tryz.prog aS g S:=aT (l:=[(58,zO),(112,Wn)]) ⟨Xz,asT,trivial⟩
noncomputable def akB:Hand:=inl Tryz.prog aS Rx (jX 101 7 1 (Lm.lp) (kH Tryz.prog aS (Rx) 20 2)) 9
theorem azb:cZ Tryz.prog aS akB:=bM YW (dF Tryz.func101 rfl (by kernel_rfl) aoQ (dI YW)) 9
theorem aqr (cs:List Cd) (os:List ByteArray) (ks:List Ko) (gs:List Ch) (bs:List Ba) (am:List Int):bW Tryz.prog aS (Rx) akB aC Tryz.f67 [.agg [.xl eu cs,.xl .str os,.xl eG ks,.xl dK gs,.xl eP bs],.xl (.int .i64) am]=.req ((dL cs os ks gs bs=true∧am.length=gs.length)∧∀k:Nat,k<am.length→0≤gi am k∧gi am k≤80) (.br ((0:Int) !=0) (.ok (.v (.tuple #[.agg #[.int .i64 0,.int .i64 0,.int .i64 0],.bool false,.int .i64 1]))) (.req (aBl (⟨(List.length cs:Int),(0:Int),cs,os,ks,gs,bs,(0:Int),(0:Int),(0:Int),false,(0:Int),(DK cs gs am gs.length),cs,os,ks,gs,bs,.ready⟩:jM)) (.br (iE (Bl (⟨(List.length cs:Int),(0:Int),cs,os,ks,gs,bs,(0:Int),(0:Int),(0:Int),false,(0:Int),(DK cs gs am gs.length),cs,os,ks,gs,bs,.ready⟩:jM)) (.ret)) (.ok (.v (.tuple #[.agg #[.int .i64 (qm (⟨(List.length cs:Int),(0:Int),cs,os,ks,gs,bs,(0:Int),(0:Int),(0:Int),false,(0:Int),(DK cs gs am gs.length),cs,os,ks,gs,bs,.ready⟩:jM)).dW,.int .i64 (qm (⟨(List.length cs:Int),(0:Int),cs,os,ks,gs,bs,(0:Int),(0:Int),(0:Int),false,(0:Int),(DK cs gs am gs.length),cs,os,ks,gs,bs,.ready⟩:jM)).iF,.int .i64 (qm (⟨(List.length cs:Int),(0:Int),cs,os,ks,gs,bs,(0:Int),(0:Int),(0:Int),false,(0:Int),(DK cs gs am gs.length),cs,os,ks,gs,bs,.ready⟩:jM)).jF],.bool (qm (⟨(List.length cs:Int),(0:Int),cs,os,ks,gs,bs,(0:Int),(0:Int),(0:Int),false,(0:Int),(DK cs gs am gs.length),cs,os,ks,gs,bs,.ready⟩:jM)).b2,.int .i64 (qm (⟨(List.length cs:Int),(0:Int),cs,os,ks,gs,bs,(0:Int),(0:Int),(0:Int),false,(0:Int),(DK cs gs am gs.length),cs,os,ks,gs,bs,.ready⟩:jM)).b3]))) (.ok (.v (.tuple #[.agg #[.int .i64 0,.int .i64 0,.int .i64 0],.bool false,.int .i64 0])))))):=by kernel_rfl
theorem av5:Valid Tryz.prog aS 67 ZW:=aI Tryz.func67 rfl YW azb (aY (by kernel_rfl)) (fun args lv h=>by
 unfold aeu at h
 split at h
 ·simp only [canL,canX]
  rw [aqr]
  rename_i cs os ks gs bs am
  obtain ⟨hq,rfl⟩:=h
  have hv:=hq.1.1
  have hb:=(fG.1 hv).1
  have hE:afq ⟨(List.length cs:Int),(0:Int),cs,os,ks,gs,bs,(0:Int),(0:Int),(0:Int),false,(0:Int),(DK cs gs am gs.length),cs,os,ks,gs,bs,.ready⟩:=⟨rfl,rfl,rfl,by show (List.length cs:Int)≤1000;omega,Rf (Ac hv) (Ad hv) _ (Nat.le_refl _)⟩
  refine ⟨hq,fun c=>absurd c (by decide),fun _=>⟨⟨hE,rfl,rfl⟩,?_⟩⟩
  have e:Ri cs gs am=((List.range cs.length).drop (0:Int).toNat).all (fun o=>ckO (bV (dY cs o)) (Be (DK cs gs am gs.length) o)):=rfl
  rcases aso _ hE with ⟨q1,q2,q3,q4⟩ |⟨q1,q2⟩
  ·have q2:Ri cs gs am=false:=e.trans q2
   unfold vk1 vk2 vk3
   rw [q1,q3,q4,q2]
   exact ⟨fun _=>rfl,fun h=>by cases h⟩
  ·have q2:Ri cs gs am=true:=e.trans q2
   unfold vk1 vk2 vk3
   rw [q1,q2]
   exact ⟨fun h=>(by cases h),fun _=>rfl⟩
 ·cases h)
end Go.Proofs.YtlihnbimgclogaaGreatDoor
namespace Go.Proofs.YtlihnbimgclogaaGreatDoor
open Go.Sx
def amf:List LV→T LV
 | [.xl (.pair (.int .i64) (.pair (.int .i64) (.pair (.int .i64) (.pair (.int .i64) (.int .i64))))) l,.v (.agg ⟨[.int .i64 nu,.int .i64 co,.int .i64 am,.int .i64 fr,.int .i64 tk]⟩)]=> .ok (.gQ [.xl iV (Ru l (nu,co,am,fr,tk)),.v (.int .i64 (AV l (nu,co,am,fr,tk)))])
 |_=> .no
noncomputable def alW:List LV→T LV:=gZ Tryz.prog Tryz.f30.params.toList amf
noncomputable def auk:Specs:=bf [(62,vM),(63,Kr),(64,Wl)]
theorem aDD:∀g S,auk g=some S→Valid Tryz.prog aS g S:=aT (l:=[(62,vM),(63,Kr),(64,Wl)]) ⟨O5,agH,asR,trivial⟩
theorem ayF (l:List Le) (nu co am fr tk:Int):bW Tryz.prog aS (auk) fE aC Tryz.f30 [.xl iV l,.v (.agg #[.int .i64 nu,.int .i64 co,.int .i64 am,.int .i64 fr,.int .i64 tk])]=.br ((!(gJ l)) ||(!(Ls (nu,co,am,fr,tk)))) (.ok (.gQ [.xl iV ([]:List Le),.v (.int .i64 1)])) (.br (decide ((List.length l:Int)>0)) (.req (0≤(IntKind.i64.wrap ((List.length l:Int)-1))∧(IntKind.i64.wrap ((List.length l:Int)-1))<(List.length l:Int)) (.br (!(Bf (gU l (IntKind.i64.wrap ((List.length l:Int)-1))) (nu,co,am,fr,tk))) (.ok (.gQ [.xl iV ([]:List Le),.v (.int .i64 12)])) (.br ((List.length l:Int)==64) (.ok (.gQ [.xl iV ([]:List Le),.v (.int .i64 10)])) (.req (0≤(0:Int)∧(0:Int)≤(IntKind.i64.wrap ((List.length l:Int)+1))∧40*(IntKind.i64.wrap ((List.length l:Int)+1))≤2^48∧(IntKind.i64.wrap ((List.length l:Int)+1))<2^63) (.req (0+(0:Int).toNat=List.length (List.replicate (0:Int).toNat ((0:Int),((0:Int),((0:Int),((0:Int),(0:Int))))))∧(((0:Int).toNat+List.length l:Nat):Int)*40≤2^47∧(((0:Int).toNat+List.length l:Nat):Int)<2^62) (.req (0+((0:Int).toNat+List.length l)=List.length ((List.replicate (0:Int).toNat ((0:Int),((0:Int),((0:Int),((0:Int),(0:Int))))))++l)∧(((0:Int).toNat+List.length l+List.length ([(nu,(co,(am,(fr,tk))))]):Nat):Int)*40≤2^47∧(((0:Int).toNat+List.length l+List.length ([(nu,(co,(am,(fr,tk))))]):Nat):Int)<2^62) (.req (0+((0:Int).toNat+List.length l+List.length ([(nu,(co,(am,(fr,tk))))]))≤List.length (((List.replicate (0:Int).toNat ((0:Int),((0:Int),((0:Int),((0:Int),(0:Int))))))++l)++([(nu,(co,(am,(fr,tk))))]))) (.ok (.gQ [.xl iV (((((List.replicate (0:Int).toNat ((0:Int),((0:Int),((0:Int),((0:Int),(0:Int))))))++l)++([(nu,(co,(am,(fr,tk))))])).drop 0).take ((0:Int).toNat+List.length l+List.length ([(nu,(co,(am,(fr,tk))))]))),.v (.int .i64 0)]))))))))) (.br ((List.length l:Int)==64) (.ok (.gQ [.xl iV ([]:List Le),.v (.int .i64 10)])) (.req (0≤(0:Int)∧(0:Int)≤(IntKind.i64.wrap ((List.length l:Int)+1))∧40*(IntKind.i64.wrap ((List.length l:Int)+1))≤2^48∧(IntKind.i64.wrap ((List.length l:Int)+1))<2^63) (.req (0+(0:Int).toNat=List.length (List.replicate (0:Int).toNat ((0:Int),((0:Int),((0:Int),((0:Int),(0:Int))))))∧(((0:Int).toNat+List.length l:Nat):Int)*40≤2^47∧(((0:Int).toNat+List.length l:Nat):Int)<2^62) (.req (0+((0:Int).toNat+List.length l)=List.length ((List.replicate (0:Int).toNat ((0:Int),((0:Int),((0:Int),((0:Int),(0:Int))))))++l)∧(((0:Int).toNat+List.length l+List.length ([(nu,(co,(am,(fr,tk))))]):Nat):Int)*40≤2^47∧(((0:Int).toNat+List.length l+List.length ([(nu,(co,(am,(fr,tk))))]):Nat):Int)<2^62) (.req (0+((0:Int).toNat+List.length l+List.length ([(nu,(co,(am,(fr,tk))))]))≤List.length (((List.replicate (0:Int).toNat ((0:Int),((0:Int),((0:Int),((0:Int),(0:Int))))))++l)++([(nu,(co,(am,(fr,tk))))]))) (.ok (.gQ [.xl iV (((((List.replicate (0:Int).toNat ((0:Int),((0:Int),((0:Int),((0:Int),(0:Int))))))++l)++([(nu,(co,(am,(fr,tk))))])).drop 0).take ((0:Int).toNat+List.length l+List.length ([(nu,(co,(am,(fr,tk))))]))),.v (.int .i64 0)])))))))):=by kernel_rfl
theorem aBO:Valid Tryz.prog aS 30 alW:=aI Tryz.func30 rfl aDD aG (aY (by kernel_rfl)) (fun args lv h=>by
 unfold amf at h
 split at h
 ·simp only [canL,canX]
  rw [ayF]
  rename_i l nu co am fr tk
  obtain rfl:=h
  have bad:∀e:Int,e≠0→AV l (nu,co,am,fr,tk)=e→LV.gQ [.xl iV ([]:List Le),.v (.int .i64 e)]=LV.gQ [.xl iV (Ru l (nu,co,am,fr,tk)),.v (.int .i64 (AV l (nu,co,am,fr,tk)))]:=fun e h0 h1=>by
   unfold Ru
   rw [h1,if_neg h0]
  refine ⟨fun c=>bad 1 (by decide) ?_,fun c=>?_⟩
  ·unfold AV
   rw [if_neg (by revert c;cases gJ l<;>cases Ls (nu,co,am,fr,tk)<;>simp)]
  have hk:(gJ l&&Ls (nu,co,am,fr,tk))=true:=by revert c;cases gJ l<;>cases Ls (nu,co,am,fr,tk)<;>simp
  have hl:l.length≤64:=by rw [Bool.and_eq_true] at hk;exact (jI hk.1).1
  have w1:IntKind.i64.wrap ((List.length l:Int)+1)=(List.length l:Int)+1:=aN (by omega) (by omega)
  have fin:(decide (l.length>0)&&!Bf (gU l ((l.length:Int)-1)) (nu,co,am,fr,tk))=false→l.length≠64→LV.gQ [.xl iV ((l++[(nu,co,am,fr,tk)]).take (0+l.length+1)),.v (.int .i64 0)]=LV.gQ [.xl iV (Ru l (nu,co,am,fr,tk)),.v (.int .i64 (AV l (nu,co,am,fr,tk)))]:=fun h1 h2=>by
   have e:AV l (nu,co,am,fr,tk)=0:=by unfold AV;rw [if_pos hk,if_neg (by rw [h1];simp),if_neg h2]
   unfold Ru
   rw [e,if_pos rfl,List.take_of_length_le (by simp)]
  have rq:(0≤(0:Int)∧(0:Int)≤IntKind.i64.wrap ((List.length l:Int)+1)∧40*IntKind.i64.wrap ((List.length l:Int)+1)≤2^48∧IntKind.i64.wrap ((List.length l:Int)+1)<2^63):=by rw [w1];omega
  refine ⟨fun c2=>?_,fun c2=>?_⟩
  ·have c2:0<l.length:=by have:=of_decide_eq_true c2;omega
   have w2:IntKind.i64.wrap ((List.length l:Int)-1)=(List.length l:Int)-1:=aN (by omega) (by omega)
   rw [w2]
   refine ⟨by omega,fun c3=>bad 12 (by decide) ?_,fun c3=>⟨fun c4=>bad 10 (by decide) ?_,fun c4=>⟨rq,⟨rfl,by simp;omega,by simp;omega⟩,⟨by simp,by simp;omega,by simp;omega⟩,by simp,?_⟩⟩⟩
   ·unfold AV
    rw [if_pos hk,if_pos (by rw [c3,decide_eq_true c2];rfl)]
   ·unfold AV
    rw [if_pos hk,if_neg (by rw [c3];simp),if_pos (by simp at c4;omega)]
   ·exact fin (by rw [c3,Bool.and_false]) (by simp at c4;omega)
  ·have c2:¬l.length>0:=by have:=of_decide_eq_false c2;omega
   refine ⟨fun c4=>bad 10 (by decide) ?_,fun c4=>⟨rq,⟨rfl,by simp;omega,by simp;omega⟩,⟨by simp,by simp;omega,by simp;omega⟩,by simp,?_⟩⟩
   ·simp at c4;omega
   ·exact fin (by rw [decide_eq_false c2,Bool.false_and]) (by omega)
 ·cases h)
end Go.Proofs.YtlihnbimgclogaaGreatDoor
namespace Go.Proofs.YtlihnbimgclogaaGreatDoor
open Go.Sx
structure nY where
 out:List Le
 t22:List Le
 t23:Int
 t24:Int
def aGp (s:nY):List LV:=[.xl iV s.out,.xl iV s.t22,.v (.int .i64 s.t23),.v (.int .i64 s.t24)]
def aFm (_:nY):List aW:=[]
noncomputable def CW:Code:=((aB (Tryz.f31.body.getD .skip))[0]?).getD .skip
def Ui (s:nY):T (Rd nY):=
 .br (decide (s.t24<s.t23)) (.req (0≤s.t24∧s.t24<(List.length s.t22:Int)) (.br ((AV s.out (gU s.t22 s.t24))==0) (.ok (.next {s with out:=(Ru s.out (gU s.t22 s.t24)),t24:=(IntKind.i64.wrap (s.t24+1))})) (.ok (.next {s with t24:=(IntKind.i64.wrap (s.t24+1))})))) (.ok (.stop (.exit 0) s))
abbrev ac0 (s:nY):=(Ui s).rd s
def afc (s:nY):Prop:=s.t24=0∧s.t23=(List.length s.t22:Int)∧s.t23≤1000
def WV (s:nY):Prop:=(0≤s.t24∧s.t24≤s.t23)∧s.t23=(List.length s.t22:Int)∧s.t23≤1000
def QC (s:nY):Nat:=(s.t23-s.t24).toNat
def avs (_:Ex) (_ _:nY):Prop:=True
theorem aDy:∀s,afc s→WV s:=by
 intro s h
 obtain ⟨h0,h1⟩:=h
 exact ⟨by omega,h1⟩
theorem azi (s:nY) (hI:WV s):bP (fun s'=>WV s'∧QC s'<QC s) (fun x s'=>avs x s s') (ac0 s):=by
 unfold ac0 Ui
 dsimp only [T.rd,T.rl]
 obtain ⟨⟨h0,h1⟩,h2,h3⟩:=hI
 refine au (fun c1=>?_) (fun c1=>trivial)
 have c1:s.t24<s.t23:=by simpa using c1
 rw [aN (x:=s.t24+1) (by omega) (by omega)]
 refine au (fun c2=>?_) (fun c2=>?_)<;>exact ⟨⟨⟨by simp only;omega,by simp only;omega⟩,h2,h3⟩,by simp only [QC];omega⟩
def Gl:bQ nY:=⟨0,39,[7,22,23,24],[],aGp,aFm,fun v _=>⟨aQ iV (v.getD 0 .junk),aQ iV (v.getD 1 .junk),gI (v.getD 2 .junk),gI (v.getD 3 .junk)⟩,Ui,fun s r=> {r with t22:=s.t22,t23:=s.t23},fun s=>s,fun _ s=>s,[.exit 0],afc,WV,QC⟩
abbrev PG:=Gl.run
abbrev arT:=Gl.jU
abbrev aA4:=Gl.q
theorem axC (s:nY) (hI:WV s):(Ui s).all (fun _=>True):=by
 refine ⟨fun c1=>⟨?_,fun _=>trivial,fun _=>trivial⟩,fun _=>trivial⟩
 ·(obtain ⟨⟨h0,h1⟩,h2,h3⟩:=hI;simp only [decide_eq_true_eq] at c1;omega)
noncomputable def Y5:Specs:=bf [(30,alW),(65,aad)]
theorem akN:∀g S,Y5 g=some S→Valid Tryz.prog aS g S:=aT (l:=[(30,alW),(65,aad)]) ⟨aBO,awg,trivial⟩
theorem ai5:Gl.Ok:=⟨fun s=>by kernel_rfl,fun s=>by kernel_rfl,fun s=>rfl,fun s t r=>rfl,fun s=>rfl,fun s=>by kernel_rfl⟩
theorem ahX:Gl.Pf (avs):=⟨aDy,fun _ _=>rfl,azi,axC⟩
theorem aoC:bn Tryz.prog aS (AN 0) (.loop CW) Gl.lp:=bQ.snd ai5 ahX (aU (Γ:=Y5) (K:=fE) (L:=aC) akN aG CW (fun b hb=>by rw [show aB CW=[] by kernel_rfl] at hb;cases hb)) (fun s=>by kernel_rfl)
theorem arb (s:nY) (hE:afc s):(fun (x:Ex) (s':nY) (v:List Le)=>x=.exit 0∧s'.out=v) (arT s) (PG s) ((fun s:nY=>(s.t22.drop s.t24.toNat).foldl grS s.out) s):=by
 exact bQ.ul ai5 ahX (fun s:nY=>(s.t22.drop s.t24.toNat).foldl grS s.out) (fun x s' v=>x=.exit 0∧s'.out=v) (fun s hI=>by
  show bP _ _ (ac0 s)
  unfold ac0 Ui
  dsimp only [T.rd,T.rl]
  obtain ⟨⟨h0,h1⟩,h2,h3⟩:=hI
  refine au (fun c1=>?_) (fun c1=>?_)
  ·have c1:s.t24<s.t23:=by simpa using c1
   have e:=(wZ h0 (show s.t24<(List.length s.t22:Int) by omega)).1
   rw [aN (x:=s.t24+1) (by omega) (by omega)]
   refine au (fun c2=>?_) (fun c2=>?_)
   ·show List.foldl _ _ _=List.foldl _ _ _
    rw [e,List.foldl_cons]
    simp only
    unfold grS
    rw [if_pos (eq_of_beq c2)]
   ·show List.foldl _ _ _=List.foldl _ _ _
    rw [e,List.foldl_cons]
    simp only
    have c2:¬AV s.out (gU s.t22 s.t24)=0:=by simpa using c2
    conv=>rhs;arg 2;unfold grS;rw [if_neg c2]
  ·have c1:s.t23≤s.t24:=by simpa using c1
   refine ⟨rfl,?_⟩
   rw [List.drop_eq_nil_of_le (by omega)]
   rfl) s hE
def aeA:List LV→T LV
 | [.xl (.pair (.int .i64) (.pair (.int .i64) (.pair (.int .i64) (.pair (.int .i64) (.int .i64))))) l,.xl (.pair (.int .i64) (.pair (.int .i64) (.pair (.int .i64) (.pair (.int .i64) (.int .i64))))) m,.v (.int .i64 t)]=> .req (Bj l t=true∧(List.length m:Int)≤1000) (.ok (.xl iV (rD l m t)))
 |_=> .no
noncomputable def Z7:List LV→T LV:=gZ Tryz.prog Tryz.f31.params.toList aeA
theorem aqx (l m:List Le) (t:Int):bW Tryz.prog aS (Y5) fE (fun i=>if i=5 then Gl.lp else aC i) Tryz.f31 [.xl iV l,.xl iV m,.v (.int .i64 t)]=.br ((af0 l t) !=0) (.ok (.xl iV l)) (.req (aA4 (⟨(JJ l t),m,(List.length m:Int),(0:Int)⟩:nY)) (.ok (.xl iV (PG (⟨(JJ l t),m,(List.length m:Int),(0:Int)⟩:nY)).out))):=by kernel_rfl
theorem awc:Valid Tryz.prog aS 31 Z7:=aI Tryz.func31 rfl akN aG (L:=(fun i=>if i=5 then Gl.lp else aC i)) (fun b hb=>by
 rw [show aB _=[CW] by kernel_rfl] at hb
 simp only [List.mem_cons,List.not_mem_nil,or_false] at hb
 subst hb
 exact aoC) (fun args lv h=>by
 unfold aeA at h
 split at h
 ·simp only [canL,canX]
  rw [aqx]
  rename_i l m t
  obtain ⟨⟨ho,hm⟩,rfl⟩:=h
  have ee:af0 l t=0:=by unfold af0;rw [if_pos ho]
  rw [ee]
  have hE:afc ⟨JJ l t,m,(List.length m:Int),0⟩:=⟨rfl,rfl,hm⟩
  obtain ⟨q1,q2⟩:=arb _ hE
  have q2:(PG ⟨JJ l t,m,(List.length m:Int),0⟩).out=rD l m t:=q2.trans (by show List.foldl grS _ (List.drop (0:Int).toNat m)=_;rfl)
  refine ⟨fun c=>absurd c (by decide),fun _=>⟨⟨hE,rfl,rfl⟩,?_⟩⟩
  rw [q2]
  rfl
 ·cases h)
structure iP where
 t38:List Ch
 t39:Int
 t40:Int
 af:List Cd
 aA:List ByteArray
 ai:List Ko
 ak:List Ch
 aJ:List Ba
 most:List Int
def aGk (s:iP):List LV:=[.own 0 0,.os 1 1 0 (List.length s.most),.xl dK s.t38,.v (.int .i64 s.t39),.v (.int .i64 s.t40)]
def aFh (s:iP):List aW:=[⟨[.xl eu s.af,.xl .str s.aA,.xl eG s.ai,.xl dK s.ak,.xl eP s.aJ],28,.cl,false⟩,⟨[],3,.vec (.int .i64) s.most,false⟩]
noncomputable def CS:Code:=((aB (Tryz.f32.body.getD .skip))[0]?).getD .skip
def Ue (s:iP):T (Rd iP):=
 .br (decide (s.t40<s.t39)) (.req (0≤s.t40∧s.t40<(List.length s.t38:Int)) (.req (0≤s.t40∧s.t40<((List.length s.most:Nat):Int)) (.req (s.t40.toNat<List.length s.most) (.req (0≤s.t40∧s.t40<((List.length s.most:Nat):Int)) (.req (s.t40.toNat<List.length s.most) (.req (0=0∧(List.length s.most)=List.length (s.most.set s.t40.toNat (if (s.most.getD s.t40.toNat (Ty.dflt (.int .i64)))<(bD s.t38 s.t40).2.2.2.2.2.2.1 then (bD s.t38 s.t40).2.2.2.2.2.2.1 else (s.most.getD s.t40.toNat (Ty.dflt (.int .i64)))))) (.ok (.next {s with t40:=(IntKind.i64.wrap (s.t40+1)),most:=(s.most.set s.t40.toNat (if (s.most.getD s.t40.toNat (Ty.dflt (.int .i64)))<(bD s.t38 s.t40).2.2.2.2.2.2.1 then (bD s.t38 s.t40).2.2.2.2.2.2.1 else (s.most.getD s.t40.toNat (Ty.dflt (.int .i64)))))})))))))) (.rl s.most (.ok (.stop (.exit 0) s)))
abbrev acW (s:iP):=(Ue s).rd s
def ae9 (s:iP):Prop:=s.t40=0∧s.t39=(List.length s.t38:Int)∧s.most.length=s.t38.length∧s.t39≤1000
def WS (s:iP):Prop:=(0≤s.t40∧s.t40≤s.t39)∧s.t39=(List.length s.t38:Int)∧s.most.length=s.t38.length∧s.t39≤1000
def Qx (s:iP):Nat:=(s.t39-s.t40).toNat
def avo (_:Ex) (_ _:iP):Prop:=True
theorem aDa:∀s,ae9 s→WS s:=by
 intro s h
 obtain ⟨h0,h1⟩:=h
 exact ⟨by have:=h1.1;omega,h1⟩
theorem ayY (s:iP) (hI:WS s):bP (fun s'=>WS s'∧Qx s'<Qx s) (fun x s'=>avo x s s') (acW s):=by
 unfold acW Ue
 dsimp only [T.rd,T.rl]
 obtain ⟨⟨h0,h1⟩,h2,h3,h4⟩:=hI
 refine au (fun c1=>?_) (fun c1=>trivial)
 have c1:s.t40<s.t39:=by simpa using c1
 rw [aN (x:=s.t40+1) (by omega) (by omega)]
 exact ⟨⟨⟨by simp only;omega,by simp only;omega⟩,h2,by simp only [List.length_set];exact h3,h4⟩,by simp only [Qx];omega⟩
def Gg:bQ iP:=⟨0,69,[3,9,38,39,40],[.nl 9 3 (.int .i64)],aGk,aFh,fun v b=>⟨aQ dK (v.getD 2 .junk),gI (v.getD 3 .junk),gI (v.getD 4 .junk),aQ eu (aV (aO b 0) 0),aQ .str (aV (aO b 0) 1),aQ eG (aV (aO b 0) 2),aQ dK (aV (aO b 0) 3),aQ eP (aV (aO b 0) 4),jd (.int .i64) (aO b 1)⟩,Ue,fun s r=> {r with t38:=s.t38,t39:=s.t39,af:=s.af,aA:=s.aA,ai:=s.ai,ak:=s.ak,aJ:=s.aJ},fun s=>s,fun _ s=>s,[.exit 0],ae9,WS,Qx⟩
abbrev jT:=Gg.run
abbrev arQ:=Gg.jU
abbrev aA0:=Gg.q
theorem axx (s:iP) (hI:WS s):(Ue s).all (fun _=>True):=by
 refine ⟨fun c1=>⟨?_,?_,?_,?_,?_,?_,trivial⟩,fun c1=>⟨⟨rfl,rfl⟩,trivial⟩⟩
 all_goals ((obtain ⟨⟨h0,h1⟩,h2,h3,h4⟩:=hI;simp only [decide_eq_true_eq] at c1;first|omega|exact ⟨rfl,by simp⟩))
noncomputable def Y4:Specs:=bf [(66,Kv),(67,ZW)]
theorem akM:∀g S,Y4 g=some S→Valid Tryz.prog aS g S:=aT (l:=[(66,Kv),(67,ZW)]) ⟨agK,av5,trivial⟩
theorem ai0:Gg.Ok:=⟨fun s=>by kernel_rfl,fun s=>by kernel_rfl,fun s=>rfl,fun s t r=>rfl,fun s=>rfl,fun s=>by kernel_rfl⟩
theorem ahS:Gg.Pf (avo):=⟨aDa,fun _ _=>rfl,ayY,axx⟩
theorem aoy:bn Tryz.prog aS (AN 0) (.loop CS) Gg.lp:=bQ.snd ai0 ahS (aU (Γ:=Y4) (K:=fE) (L:=aC) akM aG CS (fun b hb=>by rw [show aB CS=[] by kernel_rfl] at hb;cases hb)) (fun s=>by kernel_rfl)
theorem aq4 (s:iP) (hE:ae9 s):(fun (x:Ex) (s':iP) (v:List Int)=>x=.exit 0∧s'.most=v) (arQ s) (jT s) ((fun s:iP=>uU s.most.length (fun j=>if j<s.t40 then gi s.most j else mx (gi s.most j) (zD (bD s.t38 j)))) s):=by
 exact bQ.ul ai0 ahS (fun s:iP=>uU s.most.length (fun j=>if j<s.t40 then gi s.most j else mx (gi s.most j) (zD (bD s.t38 j)))) (fun x s' v=>x=.exit 0∧s'.most=v) (fun s hI=>by
  show bP _ _ (acW s)
  unfold acW Ue
  dsimp only [T.rd,T.rl]
  obtain ⟨⟨h0,h1⟩,h2,h3,h4⟩:=hI
  refine au (fun c1=>?_) (fun c1=>?_)
  ·have c1:s.t40<s.t39:=by simpa using c1
   rw [aN (x:=s.t40+1) (by omega) (by omega)]
   show uU (List.length (s.most.set _ _)) _=uU _ _
   rw [List.length_set]
   refine wX (by rw [dZ,dZ]) fun j j0 j1=>?_
   rw [dZ] at j1
   rw [jE j0 j1,jE j0 j1]
   simp only
   rw [nG h0 (by omega) j0]
   by_cases e:j=s.t40
   ·subst e
    rw [if_pos (show s.t40<s.t40+1 by omega),if_pos rfl,if_neg (show ¬s.t40<s.t40 by omega)]
    rfl
   ·rw [if_neg e]
    by_cases q:j<s.t40
    ·rw [if_pos q,if_pos (show j<s.t40+1 by omega)]
    ·rw [if_neg q,if_neg (show ¬j<s.t40+1 by omega)]
  ·have c1:s.t39≤s.t40:=by simpa using c1
   refine ⟨rfl,wX dZ.symm fun j j0 j1=>?_⟩
   rw [dZ] at j1
   rw [jE j0 j1,if_pos (show j<s.t40 by omega)]) s hE
def aew:List LV→T LV
 | [.agg [.xl (.pair .str (.pair (.int .i64) (.pair (.int .i64) (.pair (.int .i64) (.pair (.pair (.int .i64) (.int .i64)) (.pair (.int .i64) (.pair (.int .i64) (.pair (.int .i64) (.pair (.int .i64) (.int .i64)))))))))) cs,.xl (.str) os,.xl (.pair .str (.pair (.int .i64) (.pair (.int .i64) (.int .i64)))) ks,.xl (.pair .str (.pair (.int .i64) (.pair (.int .i64) (.pair (.int .i64) (.pair (.int .i64) (.pair (.int .i64) (.pair (.int .i64) (.int .i64)))))))) gs,.xl (.pair .str (.int .i64)) bs],.xl (.pair (.int .i64) (.pair (.int .i64) (.pair (.int .i64) (.pair (.int .i64) (.int .i64))))) l,.v (.int .i64 t)]=> .req (dL cs os ks gs bs=true∧qR l (List.length gs:Int) t=true) (.ok (.v (.bool (Ri cs gs (kW gs l t)))))
 |_=> .no
noncomputable def ZY:List LV→T LV:=gZ Tryz.prog Tryz.f32.params.toList aew
theorem aqt (cs:List Cd) (os:List ByteArray) (ks:List Ko) (gs:List Ch) (bs:List Ba) (l:List Le) (t:Int):bW Tryz.prog aS (Y4) fE (fun i=>if i=6 then Gg.lp else aC i) Tryz.f32 [.agg [.xl eu cs,.xl .str os,.xl eG ks,.xl dK gs,.xl eP bs],.xl iV l,.v (.int .i64 t)]=.br (((JU l (List.length gs:Int) t) !=0) ||((List.length (iH l (List.length gs:Int) t):Int) !=(List.length gs:Int))) (.ok (.v (.bool false))) (.req (0+0=List.length ([]:List Int)∧((0+List.length (iH l (List.length gs:Int) t):Nat):Int)*8≤2^47∧((0+List.length (iH l (List.length gs:Int) t):Nat):Int)<2^62) (.req (0=0∧(0+List.length (iH l (List.length gs:Int) t))=List.length (([]:List Int)++(iH l (List.length gs:Int) t))) (.req (aA0 (⟨gs,(List.length gs:Int),(0:Int),cs,os,ks,gs,bs,(([]:List Int)++(iH l (List.length gs:Int) t))⟩:iP)) (.req (0+(List.length (jT (⟨gs,(List.length gs:Int),(0:Int),cs,os,ks,gs,bs,(([]:List Int)++(iH l (List.length gs:Int) t))⟩:iP)).most)≤List.length (jT (⟨gs,(List.length gs:Int),(0:Int),cs,os,ks,gs,bs,(([]:List Int)++(iH l (List.length gs:Int) t))⟩:iP)).most) (.req ((dL cs os ks gs bs=true∧(((jT (⟨gs,(List.length gs:Int),(0:Int),cs,os,ks,gs,bs,(([]:List Int)++(iH l (List.length gs:Int) t))⟩:iP)).most.drop 0).take (List.length (jT (⟨gs,(List.length gs:Int),(0:Int),cs,os,ks,gs,bs,(([]:List Int)++(iH l (List.length gs:Int) t))⟩:iP)).most)).length=gs.length)∧∀k:Nat,k<(((jT (⟨gs,(List.length gs:Int),(0:Int),cs,os,ks,gs,bs,(([]:List Int)++(iH l (List.length gs:Int) t))⟩:iP)).most.drop 0).take (List.length (jT (⟨gs,(List.length gs:Int),(0:Int),cs,os,ks,gs,bs,(([]:List Int)++(iH l (List.length gs:Int) t))⟩:iP)).most)).length→0≤gi (((jT (⟨gs,(List.length gs:Int),(0:Int),cs,os,ks,gs,bs,(([]:List Int)++(iH l (List.length gs:Int) t))⟩:iP)).most.drop 0).take (List.length (jT (⟨gs,(List.length gs:Int),(0:Int),cs,os,ks,gs,bs,(([]:List Int)++(iH l (List.length gs:Int) t))⟩:iP)).most)) k∧gi (((jT (⟨gs,(List.length gs:Int),(0:Int),cs,os,ks,gs,bs,(([]:List Int)++(iH l (List.length gs:Int) t))⟩:iP)).most.drop 0).take (List.length (jT (⟨gs,(List.length gs:Int),(0:Int),cs,os,ks,gs,bs,(([]:List Int)++(iH l (List.length gs:Int) t))⟩:iP)).most)) k≤80) (.ok (.v (.bool (((0:Int)==0)&&(!(!Ri cs gs (((jT (⟨gs,(List.length gs:Int),(0:Int),cs,os,ks,gs,bs,(([]:List Int)++(iH l (List.length gs:Int) t))⟩:iP)).most.drop 0).take (List.length (jT (⟨gs,(List.length gs:Int),(0:Int),cs,os,ks,gs,bs,(([]:List Int)++(iH l (List.length gs:Int) t))⟩:iP)).most))))))))))))):=by kernel_rfl
theorem av7:Valid Tryz.prog aS 32 ZY:=aI Tryz.func32 rfl akM aG (L:=(fun i=>if i=6 then Gg.lp else aC i)) (fun b hb=>by
 rw [show aB _=[CS] by kernel_rfl] at hb
 simp only [List.mem_cons,List.not_mem_nil,or_false] at hb
 subst hb
 exact aoy) (fun args lv h=>by
 unfold aew at h
 split at h
 ·simp only [canL,canX]
  rw [aqt]
  rename_i cs os ks gs bs l t
  obtain ⟨⟨hv,ho⟩,rfl⟩:=h
  have hb:=(fG.1 hv).1
  have hl:gJ l=true:=by
   have h:=ho
   unfold qR at h
   simp only [Bool.and_eq_true] at h
   exact h.1.1
  have ea:iH l (List.length gs:Int) t=vJ gs.length l t:=by unfold iH;rw [if_pos ho,Int.toNat_natCast]
  have ee:JU l (List.length gs:Int) t=0:=by unfold JU;rw [if_pos ho]
  have al:(vJ gs.length l t).length=gs.length:=xA
  rw [ee,ea,al]
  refine ⟨fun c=>absurd c (by simp),fun _=>⟨⟨rfl,by omega,by omega⟩,⟨rfl,by simp [al]⟩,?_⟩⟩
  have hE:ae9 ⟨gs,(List.length gs:Int),(0:Int),cs,os,ks,gs,bs,(([]:List Int)++(vJ gs.length l t))⟩:=⟨rfl,rfl,al,by show (List.length gs:Int)≤1000;omega⟩
  obtain ⟨q1,q2⟩:=aq4 _ hE
  have q2:(jT ⟨gs,(List.length gs:Int),(0:Int),cs,os,ks,gs,bs,(([]:List Int)++(vJ gs.length l t))⟩).most=kW gs l t:=q2.trans (by
   show uU (List.length (vJ gs.length l t)) _=_
   rw [al]
   refine wX (by unfold kW;rw [dZ,dZ]) fun j j0 j1=>?_
   unfold kW at j1⊢
   rw [dZ] at j1
   rw [jE j0 j1,jE j0 j1]
   simp only
   rw [if_neg (show ¬j<0 by omega)]
   show mx (gi (vJ gs.length l t) j) (zD (bD gs j))=_
   unfold mx
   split<;>split<;>omega)
  rw [q2,List.drop_zero,List.take_length]
  have gl:(kW gs l t).length=gs.length:=dZ
  refine ⟨⟨hE,rfl,rfl⟩,by omega,⟨⟨hv,gl⟩,fun k hk=>?_⟩,?_⟩
  ·rw [gl] at hk
   exact Wh hv hl (by omega) (by omega)
  ·exact congrArg (fun z=>LV.v (.bool z)) (by simp)
 ·cases h)
end Go.Proofs.YtlihnbimgclogaaGreatDoor
namespace Go.Proofs.YtlihnbimgclogaaGreatDoor
open Go.Sx
def avd:List LV→T LV
 | [.agg [.xl (.pair .str (.pair (.int .i64) (.pair (.int .i64) (.pair (.int .i64) (.pair (.pair (.int .i64) (.int .i64)) (.pair (.int .i64) (.pair (.int .i64) (.pair (.int .i64) (.pair (.int .i64) (.int .i64)))))))))) cs,.xl (.str) os,.xl (.pair .str (.pair (.int .i64) (.pair (.int .i64) (.int .i64)))) ks,.xl (.pair .str (.pair (.int .i64) (.pair (.int .i64) (.pair (.int .i64) (.pair (.int .i64) (.pair (.int .i64) (.pair (.int .i64) (.int .i64)))))))) gs,.xl (.pair .str (.int .i64)) bs],.xl (.pair (.int .i64) (.pair (.int .i64) (.pair (.int .i64) (.pair (.int .i64) (.int .i64))))) _,.xl (.pair (.int .i64) (.int .i64)) _,.xl (.pair .bool (.pair (.int .i64) (.pair (.int .i64) (.int .i64)))) _,.v (.int .i64 _),.v (.int .i64 _),.v (.int .u16 w)]=> .req (nmR (gY cs os ks gs bs)∧0≤w∧w≤65535) (.ok (.v (.bool true)))
 |_=> .no
noncomputable def aEt:List LV→T LV:=gZ Tryz.prog Tryz.f10.params.toList avd
noncomputable def ak5:Specs:=bf [(11,Z5),(12,ZL),(14,Ku),(22,ZK),(31,Z7),(32,ZY)]
theorem azn:∀g S,ak5 g=some S→Valid Tryz.prog aS g S:=aT (l:=[(11,Z5),(12,ZL),(14,Ku),(22,ZK),(31,Z7),(32,ZY)]) ⟨av9,avV,agJ,avU,awc,av7,trivial⟩
theorem aC0 (cs:List Cd) (os:List ByteArray) (ks:List Ko) (gs:List Ch) (bs:List Ba) (l:List Le) (rs:List Ra) (d:List Dm) (t n w:Int):bW Tryz.prog aS (ak5) fE aC Tryz.f10 [.agg [.xl eu cs,.xl .str os,.xl eG ks,.xl dK gs,.xl eP bs],.xl iV l,.xl oP rs,.xl tJ d,.v (.int .i64 t),.v (.int .i64 n),.v (.int .u16 w)]=.br (!(arp cs os ks gs bs l rs d)) (.ok (.v (.bool true))) (.req (nmR (gY cs os ks gs bs)∧(List.length l:Int)≤1000) (.br (!(Ie cs os ks gs bs l rs d t n)) (.ok (.v (.bool true))) (.br (decide ((List.length l:Int)>0)) (.req (0≤(IntKind.i64.wrap ((List.length l:Int)-1))∧(IntKind.i64.wrap ((List.length l:Int)-1))<(List.length l:Int)) (.br (decide ((gU l (IntKind.i64.wrap ((List.length l:Int)-1))).2.2.2.1>t)) (.ok (.v (.bool true))) (.req (dL cs os ks gs bs=true∧qR l (List.length gs:Int) t=true) (.br (!(Ri cs gs (kW gs l t))) (.ok (.v (.bool true))) (.req (yS d t∧d.length≤19) (.br ((deE cs os ks gs bs l rs d t n) !=0) (.ok (.v (.bool false))) (.req (Bj l t=true∧(List.length (Hu cs os ks gs bs l rs d t n):Int)≤1000) (.br true (.req (dL cs os ks gs bs=true∧qR (rD l (Hu cs os ks gs bs l rs d t n) t) (List.length gs:Int) t=true) (.br (Ri cs gs (kW gs (rD l (Hu cs os ks gs bs l rs d t n) t) t)) (.req ((2000:Int)≠0) (.req (dL cs os ks gs bs=true∧qR (rD l (Hu cs os ks gs bs l rs d t n) t) (List.length gs:Int) (IntKind.i64.wrap (t+((IntKind.i64.wrap w).tmod 2000)))=true) (.ok (.v (.bool (Ri cs gs (kW gs (rD l (Hu cs os ks gs bs l rs d t n) t) (IntKind.i64.wrap (t+((IntKind.i64.wrap w).tmod 2000)))))))))) (.ok (.v (.bool false))))) (.ok (.v (.bool false))))))))))) (.req (dL cs os ks gs bs=true∧qR l (List.length gs:Int) t=true) (.br (!(Ri cs gs (kW gs l t))) (.ok (.v (.bool true))) (.req (yS d t∧d.length≤19) (.br ((deE cs os ks gs bs l rs d t n) !=0) (.ok (.v (.bool false))) (.req (Bj l t=true∧(List.length (Hu cs os ks gs bs l rs d t n):Int)≤1000) (.br true (.req (dL cs os ks gs bs=true∧qR (rD l (Hu cs os ks gs bs l rs d t n) t) (List.length gs:Int) t=true) (.br (Ri cs gs (kW gs (rD l (Hu cs os ks gs bs l rs d t n) t) t)) (.req ((2000:Int)≠0) (.req (dL cs os ks gs bs=true∧qR (rD l (Hu cs os ks gs bs l rs d t n) t) (List.length gs:Int) (IntKind.i64.wrap (t+((IntKind.i64.wrap w).tmod 2000)))=true) (.ok (.v (.bool (Ri cs gs (kW gs (rD l (Hu cs os ks gs bs l rs d t n) t) (IntKind.i64.wrap (t+((IntKind.i64.wrap w).tmod 2000)))))))))) (.ok (.v (.bool false))))) (.ok (.v (.bool false)))))))))))):=by kernel_rfl
theorem aGR:Valid Tryz.prog aS 10 aEt:=aI Tryz.func10 rfl azn aG (aY (by kernel_rfl)) (fun args lv h=>by
 unfold avd at h
 split at h
 ·simp only [canL,canX]
  rw [aC0]
  rename_i cs os ks gs bs l rs d t n w
  obtain ⟨⟨hn,w0,w1⟩,rfl⟩:=h
  refine ⟨fun c=>rfl,fun c=>⟨⟨hn,aDW c⟩,fun c2=>rfl,fun c2=>?_⟩⟩
  have c2:=LJ c2
  have V:=asP c2
  have hw:=aBy V
  have gl:=V.gl
  have tb:=V.tb
  obtain ⟨ea,er,el,ee⟩:=azN c2
  have M:NwL gs (LU gs rs (MR cs os ks gs bs l d t) gs.length) t n (Hu cs os ks gs bs l rs d t n):=by rw [el];exact (alv (Nat.le_refl _)).1
  have ml:(Hu cs os ks gs bs l rs d t n).length≤gs.length:=by rw [el];exact Bo
  have ew:IntKind.i64.wrap w=w:=aN (by omega) (by omega)
  have hm:0≤w%2000∧w%2000<2000:=by omega
  have et:IntKind.i64.wrap (t+((IntKind.i64.wrap w).tmod 2000))=t+w%2000:=by
   rw [ew,Int.tmod_eq_emod_of_nonneg w0]
   exact aN (by omega) (by omega)
  have ho:Bj l t=true:=by
   unfold Bj
   rw [V.les,dV.2 (by omega)]
   rfl
  have a1:=V9 V M (t':=t) (by omega) (by omega)
  have a2:=V9 V M (t':=t+w%2000) (by omega) (by omega)
  rw [et,ee]
  generalize w%2000=u at hm a2⊢
  have key:l.length=0∨(gU l ((l.length:Int)-1)).2.2.2.1≤t→T.all (fun x=>x=LV.v (.bool true)) (.req (dL cs os ks gs bs=true∧qR l (List.length gs:Int) t=true) (.br (!(Ri cs gs (kW gs l t))) (.ok (.v (.bool true))) (.req (yS d t∧d.length≤19) (.br ((0:Int) !=0) (.ok (.v (.bool false))) (.req (Bj l t=true∧(List.length (Hu cs os ks gs bs l rs d t n):Int)≤1000) (.br true (.req (dL cs os ks gs bs=true∧qR (rD l (Hu cs os ks gs bs l rs d t n) t) (List.length gs:Int) t=true) (.br (Ri cs gs (kW gs (rD l (Hu cs os ks gs bs l rs d t n) t) t)) (.req ((2000:Int)≠0) (.req (dL cs os ks gs bs=true∧qR (rD l (Hu cs os ks gs bs l rs d t n) t) (List.length gs:Int) (t+u)=true) (.ok (.v (.bool (Ri cs gs (kW gs (rD l (Hu cs os ks gs bs l rs d t n) t) (t+u)))))))) (.ok (.v (.bool false))))) (.ok (.v (.bool false))))))))):=fun hl=>by
   have hf:=aj1 V.les hl
   refine ⟨⟨V.site,adN V⟩,fun c3=>rfl,fun c3=>?_⟩
   have k1:=Vb V hf (LJ c3) (Int.le_refl t) M
   have k2:=Vb V hf (LJ c3) (t':=t+u) (by omega) M
   rw [k1,k2]
   exact ⟨hw,fun c4=>absurd c4 (by decide),fun _=>⟨⟨ho,by omega⟩,⟨fun _=>⟨⟨V.site,a1⟩,⟨fun _=>⟨by decide,⟨V.site,a2⟩,rfl⟩,fun h=>by cases h⟩⟩,fun h=>by cases h⟩⟩⟩
  have lv:=(jI V.les).1
  have w2:IntKind.i64.wrap ((List.length l:Int)-1)=(List.length l:Int)-1:=aN (by omega) (by omega)
  rw [w2]
  refine ⟨fun c3=>⟨by have:=of_decide_eq_true c3;omega,fun c4=>rfl,fun c4=>key (.inr ?_)⟩,fun c3=>key (.inl ?_)⟩
  ·have:=of_decide_eq_false c4
   omega
  ·have:=of_decide_eq_false c3
   omega
 ·cases h)
end Go.Proofs.YtlihnbimgclogaaGreatDoor
namespace Go.Sx
open Go Go.RowKit Go.Proofs.YtlihnbimgclogaaGreatDoor
def mb:Ty→Nat
 | .int k=>k.bits / 8
 | .bool=>1
 | .str=>16
 | .sl _=>24
 | .pair a b=>mb a+mb b
def TA:(t:Ty)→t.D→Prop
 | .int k,n=>(Lit.int k n).wf=true
 | .bool,_=>True
 | .str,s=>s.size≤maxLen
 | .sl e,l=>(List.length l≤maxLen∧List.length l*mb e≤reachBytes)∧∀d,d∈l→TA e d
 | .pair a b,d=>TA a d.1∧TA b d.2
def D6 (P:Program):Nat→List Field→Bool
 |_,[]=>true
 |o,f::fs=>decide (f.offset=o)&&D6 P (o+P.cellsOf f.type) fs
def Iq (P:Program):Nat→TypeId→Bool
 |0,_=>false
 |m+1,t=>match P.underlying t with
  |some (.int _) |some .bool|some .string=>decide (P.cellsOf t=1)
  |some (.struct fs)=>D6 P 0 fs.toList&&decide (P.cellsOf t=((fs.toList.map (·.type)).map P.cellsOf).sum)&&fs.toList.all (fun f=>Iq P m f.type)
  |some (.array n e)=>decide (P.cellsOf t=((List.replicate n e).map P.cellsOf).sum)&&Iq P m e
  |some (.slice e)=>decide (P.cellsOf t=1)&&decide (1≤P.cellsOf e)&&(yO P m e).any (fun ty=>ty.n==P.cellsOf e&&decide (mb ty≤P.bytesOf e))&&Iq P m e
  |_=>false
variable {H : Type} {enc : TypeId × Value → H} {P : Program} {w : World} {base : Nat} {spare : Nat → Bool} {held : Bool} {β : Nat → Loc}
def Good (enc:TypeId×Value→H) (P:Program) (w:World) (base:Nat) (spare:Nat→Bool) (held:Bool) (t:TypeId) (cs:List Value):Prop:=∃n x,DataW.trod enc P w base spare held n t cs=some x∧∀k,k∈x.1.weights P t→k≤reachBytes
theorem Ic {e:TypeId}{d:DataW H}{k:Nat}(hk:k∈d.weights P e):∀ {l:List (DataW H)}{i:Nat},l[i]? =some d→k∈DataW.weightsAll P e l
 | [],_,h=>by cases h
 |x::l,0,h=>by
  simp only [List.getElem?_cons_zero,Option.some.injEq] at h
  subst h
  simp only [DataW.weightsAll,List.mem_append]
  exact .inl hk
 |x::l,i+1,h=>by
  simp only [List.getElem?_cons_succ] at h
  simp only [DataW.weightsAll,List.mem_append]
  exact .inr (Ic hk h)
theorem L8 {t:TypeId}{d:DataW H}{k:Nat}(hk:k∈d.weights P t):∀ {ts:List TypeId}{l:List (DataW H)}{i:Nat},ts[i]? =some t→l[i]? =some d→k∈DataW.weightsEach P ts l
 | [],_,_,h,_=>by cases h
 |_::_,[],_,_,h=>by cases h
 |u::ts,x::l,0,h1,h2=>by
  simp only [List.getElem?_cons_zero,Option.some.injEq] at h1 h2
  subst h1
  subst h2
  simp only [DataW.weightsEach,List.mem_append]
  exact .inl hk
 |u::ts,x::l,i+1,h1,h2=>by
  simp only [List.getElem?_cons_succ] at h1 h2
  simp only [DataW.weightsEach,List.mem_append]
  exact .inr (L8 hk h1 h2)
theorem L9:∀ {ts us:List TypeId}{ds gs:List (DataW H)},ds.length=ts.length→∀k,k∈DataW.weightsEach P ts ds→k∈DataW.weightsEach P (ts++us) (ds++gs)
 | [],_,[],_,_,_,h=>by simp [DataW.weightsEach] at h
 | [],_,_::_,_,h,_,_=>by cases h
 |_::_,_,[],_,h,_,_=>by cases h
 |t::ts,us,d::ds,gs,h,k,hk=>by
  simp only [DataW.weightsEach,List.mem_append,List.cons_append] at hk⊢
  rcases hk with hk|hk
  ·exact .inl hk
  ·exact .inr (L9 (by simpa using h) k hk)
theorem EF:∀ {ts:List TypeId}{vs:List Value}{ds:List (DataW H)}{ps:List MemPlace},DataW.TrodAll enc P w base spare held ts vs ds ps→ds.length=ts.length
 | [],[],[],_,_=>rfl
 | [],_::_,_,_,h=>by cases h
 | [],[],_::_,_,h=>by cases h
 |_::_,[],_,_,h=>by cases h
 |_::_,_::_,[],_,h=>by cases h
 |_::_,_::_,_::_,_,h=>by
  obtain ⟨_,_,_,h2,_⟩:=h
  simp [EF h2]
theorem RL.append' {Z:Nat→Prop}:∀ {l1 l2:List LV}{y1 y2:List Value},RL β Z w l1 y1→RL β Z w l2 y2→RL β Z w (l1++l2) (y1++y2)
 | [],l2,y1,y2,h1,h2=>by simp only [RL] at h1;subst h1;exact h2
 |x::xs,l2,y1,y2,h1,h2=>by
  simp only [RL,List.cons_append] at h1⊢
  obtain ⟨y,zs,rfl,h3,h4⟩:=h1
  exact ⟨y,zs++y2,rfl,h3,RL.append' h4 h2⟩
theorem Zb {Z:Nat→Prop}:∀(t:Ty) (d:t.D) (cs:List Value) (b o:Nat),RL β Z w (fO t d) cs→(∀(j:Nat) v,cs[j]? =some v→w.cell? ⟨b,o+j,none⟩=some v)→RD Z w t d b o
 | .int k,d,cs,b,o,h,hc=>by
  simp only [fO,RL,R] at h
  obtain ⟨y,zs,rfl,rfl,_⟩:=h
  simp only [RD];exact hc 0 _ rfl
 | .bool,d,cs,b,o,h,hc=>by
  simp only [fO,RL,R] at h
  obtain ⟨y,zs,rfl,rfl,_⟩:=h
  simp only [RD];exact hc 0 _ rfl
 | .str,d,cs,b,o,h,hc=>by
  simp only [fO,RL,R] at h
  obtain ⟨y,zs,rfl,rfl,_⟩:=h
  simp only [RD];exact hc 0 _ rfl
 | .sl e,d,cs,b,o,h,hc=>by
  simp only [fO,RL,R] at h
  obtain ⟨y,zs,rfl,⟨a,cap,rfl,h2,h3⟩,_⟩:=h
  simp only [RD];exact ⟨a,cap,hc 0 _ rfl,h2,h3⟩
 | .pair p q,d,cs,b,o,h,hc=>by
  simp only [fO] at h
  have hl:=RL.length h
  simp only [List.length_append,dh] at hl
  have h1:=h.take_drop 0 p.n
  have h2:RL β Z w ((fO p d.1++fO q d.2).drop p.n) (cs.drop p.n):=by
   refine RL.dw (by simp [hl,dh]) fun i z hz=>?_
   rw [List.getElem?_drop] at hz⊢
   exact RL.get _ _ h hz
  have t1:((fO p d.1++fO q d.2).drop 0).take p.n=fO p d.1:=by
   rw [List.drop_zero,List.take_append_of_le_length (by rw [dh];exact Nat.le_refl _),List.take_of_length_le (by rw [dh];exact Nat.le_refl _)]
  have t2:(fO p d.1++fO q d.2).drop p.n=fO q d.2:=by
   rw [List.drop_append_of_le_length (by rw [dh];exact Nat.le_refl _),List.drop_eq_nil_of_le (by rw [dh];exact Nat.le_refl _),List.nil_append]
  rw [t1,List.drop_zero] at h1
  rw [t2] at h2
  simp only [RD]
  refine ⟨Zb p d.1 _ b o h1 (fun j v hv=>?_),Zb q d.2 _ b (o+p.n) h2 (fun j v hv=>?_)⟩
  ·rw [List.getElem?_take] at hv
   split at hv
   ·exact hc j v hv
   ·cases hv
  ·rw [List.getElem?_drop] at hv
   have:=hc (p.n+j) v hv
   rwa [←Nat.add_assoc] at this
theorem IQ {Z:Nat→Prop}{r:TypeId→Option Ty}{sz:TypeId→Nat}{Gd:TypeId→List Value→Prop}:∀(ts:List TypeId) (ty:Ty) (cs:List Value),XB r ts=some ty→
  (∀t∈ts,∀ty c,r t=some ty→Gd t c→∃d:ty.D,RL β Z w (fO ty d) c∧TA ty d)→cs.length=(ts.map sz).sum→(∀pre t post,ts=pre++t::post→Gd t ((cs.drop (pre.map sz).sum).take (sz t)))→∃d:ty.D,RL β Z w (fO ty d) cs∧TA ty d
 | [],ty,cs,h,_,_,_=>by simp [XB] at h
 | [t],ty,cs,h,ih,hl,hg=>by
  simp only [XB] at h
  have:=ih t (by simp) ty _ h (hg [] t [] rfl)
  have e:(cs.drop (List.map sz []).sum).take (sz t)=cs:=by
   simp at hl⊢
   exact List.take_of_length_le (by omega)
  rw [e] at this
  exact this
 | t::u::ts,ty,cs,h,ih,hl,hg=>by
  simp only [XB] at h
  split at h
  ·rename_i a b ha hb
   simp only [Option.some.injEq] at h
   subst h
   obtain ⟨d1,a1,a2⟩:=ih t (by simp) a _ ha (hg [] t (u::ts) rfl)
   obtain ⟨d2,b1,b2⟩:=IQ (sz:=sz) (Gd:=Gd) (u::ts) b (cs.drop (sz t)) hb (fun t' ht=>ih t' (by simp at ht⊢;exact .inr ht)) (by simp at hl⊢;omega) (fun pre t' post e=>by
    have:=hg (t::pre) t' post (by rw [e];rfl)
    rw [List.drop_drop]
    simpa using this)
   refine ⟨(d1,d2),?_,by simp only [TA];exact ⟨a2,b2⟩⟩
   have:=RL.append' a1 b1
   simp only [fO]
   simpa using this
  ·cases h
theorem PS:∀(fs:List Field) (o:Nat),D6 P o fs=true→∀pre f post,fs=pre++f::post→f.offset=o+((pre.map (·.type)).map P.cellsOf).sum
 | [],o,_,pre,f,post,e=>by cases pre<;>cases e
 |g::fs,o,h,[],f,post,e=>by
  simp only [D6,Bool.and_eq_true,decide_eq_true_eq] at h
  simp only [List.nil_append,List.cons.injEq] at e
  rw [←e.1];simpa using h.1
 |g::fs,o,h,p::pre,f,post,e=>by
  simp only [D6,Bool.and_eq_true,decide_eq_true_eq] at h
  simp only [List.cons_append,List.cons.injEq] at e
  have:=PS fs _ h.2 pre f post e.2
  rw [this,←e.1];simp;omega
theorem G8 {Z:Nat→Prop}(hZ:∀b,b<w.heap.size→Z b):∀(m:Nat) (t:TypeId) (ty:Ty),Iq P m t=true→yO P m t=some ty→∀cs,Good enc P w base spare held t cs→∃d:ty.D,RL β Z w (fO ty d) cs∧TA ty d
 |0,t,_,h,_,_,_=>by cases h
 | m + 1,t,ty,h,hty,cs,⟨n,x,hx,hwt⟩=>by
  simp only [Iq] at h
  simp only [yO] at hty
  split at h
  ·rename_i k hu
   obtain ⟨z,rfl,_,hw⟩:=DataW.trod_int hu hx
   simp only [hu,Option.some.injEq] at hty
   subst hty
   exact ⟨z,by simp [fO,RL,R],hw⟩
  ·rename_i hu
   obtain ⟨z,rfl,_⟩:=DataW.trod_bool hu hx
   simp only [hu,Option.some.injEq] at hty
   subst hty
   exact ⟨z,by simp [fO,RL,R],trivial⟩
  ·rename_i hu
   obtain ⟨z,rfl,_,hs⟩:=DataW.trod_string hu hx
   simp only [hu,Option.some.injEq] at hty
   subst hty
   exact ⟨z,by simp [fO,RL,R],hs⟩
  ·rename_i fs hu
   simp only [Bool.and_eq_true,decide_eq_true_eq,List.all_eq_true] at h
   obtain ⟨⟨h1,h2⟩,h3⟩:=h
   obtain ⟨xs,n',_,rfl,hl,hxl,hf⟩:=DataW.trod_struct hu hx
   simp only [DataW.weights,hu] at hwt
   simp only [hu] at hty
   refine IQ (Gd:=Good enc P w base spare held) (sz:=P.cellsOf) (fs.toList.map (·.type)) ty cs hty (fun t' ht ty' c hty' hc=>?_) (by rw [hl,h2]) (fun pre t' post e=>?_)
   ·obtain ⟨f,hf1,rfl⟩:=List.mem_map.1 ht
    exact G8 hZ m f.type ty' (h3 f hf1) hty' c hc
   ·obtain ⟨fpre,frest,e1,e2,e3⟩:=List.map_eq_append_iff.1 e
    obtain ⟨f,fpost,rfl,e4,e5⟩:=List.map_eq_cons_iff.1 e3
    have ho:=PS fs.toList 0 h1 fpre f fpost e1
    have hi:fs[fpre.length]? =some f:=by
     have:fs.toList[fpre.length]? =some f:=by rw [e1];simp
     simpa using this
    have hg:=hf _ f hi
    have hlt:fpre.length<fs.size:=(Array.getElem?_eq_some_iff.1 hi).1
    rw [ho,Nat.zero_add] at hg
    refine ⟨n',xs[fpre.length]'(by omega),?_,fun k hk=>?_⟩
    ·rw [←e2,←e4,hg,List.getElem?_eq_getElem]
    ·rw [←e4] at hk
     exact hwt k (L8 hk (i:=fpre.length) (by rw [e1];simp) (by rw [List.getElem?_map,List.getElem?_eq_getElem (by omega)];rfl))
  ·rename_i n0 e hu
   simp only [Bool.and_eq_true,decide_eq_true_eq] at h
   obtain ⟨h2,h3⟩:=h
   obtain ⟨xs,n',_,rfl,hl,hxl,hf⟩:=DataW.trod_array hu hx
   simp only [DataW.weights,hu] at hwt
   simp only [hu] at hty
   refine IQ (Gd:=Good enc P w base spare held) (sz:=P.cellsOf) (List.replicate n0 e) ty cs hty (fun t' ht ty' c hty' hc=>?_) (by rw [hl,h2]) (fun pre t' post e'=>?_)
   ·rw [(List.mem_replicate.1 ht).2] at hc hty'
    exact G8 hZ m e ty' h3 hty' c hc
   ·obtain ⟨c1,c2,c3⟩:=List.replicate_eq_append_iff.1 e'
    have ht':t'=e:=by
     have:t'∈List.replicate n0 e:=by rw [e'];simp
     exact (List.mem_replicate.1 this).2
    have hlen:pre.length<n0:=by
     have:=congrArg List.length e'
     simp at this;omega
    have hg:=hf pre.length hlen
    refine ⟨n',xs[pre.length]'(by omega),?_,fun k hk=>?_⟩
    ·have hs:(pre.map P.cellsOf).sum=pre.length*P.cellsOf e:=by rw [c2];simp
     rw [hs,ht',hg,List.getElem?_eq_getElem]
    ·rw [ht'] at hk
     exact hwt k (Ic hk (i:=pre.length) (by rw [List.getElem?_map,List.getElem?_eq_getElem (by omega)];rfl))
  ·rename_i e hu
   simp only [Bool.and_eq_true,decide_eq_true_eq] at h
   obtain ⟨⟨⟨h1,h2⟩,h4⟩,h3⟩:=h
   simp only [hu,Option.map_eq_some_iff] at hty
   obtain ⟨te,hte,rfl⟩:=hty
   rw [hte] at h4
   simp only [Option.any_some,Bool.and_eq_true,decide_eq_true_eq,beq_iff_eq] at h4
   obtain ⟨h4,h5⟩:=h4
   rcases DataW.trod_slice hu hx with ⟨rfl,_⟩ |⟨a,len,cap,elems,rest,n',_,rfl,rfl,hb,hlc,hm,hlen,hel,_,_⟩
   ·refine ⟨([]:List te.D),?_,⟨Nat.zero_le _,by simp⟩,fun d hd=>by cases hd⟩
    simp only [fO,RL,R]
    exact ⟨_,[],rfl,⟨none,0,rfl,Nat.le_refl _,fun h=>absurd h (Nat.lt_irrefl 0)⟩,rfl⟩
   ·simp only [DataW.weights,hu] at hwt
    have hroom:=hwt _ (List.mem_cons_self ..)
    have each:∀i,∃d:te.D,i<len→∃c,w.cells? base (a.add (i*P.cellsOf e)) (P.cellsOf e)=some c∧RL β Z w (fO te d) c∧TA te d:=fun i=>by
     by_cases hi:i<len
     ·have he:=hel i hi
      rw [List.getElem?_eq_getElem (by omega)] at he
      obtain ⟨c,hc,ht⟩:=Option.bind_eq_some_iff.1 he
      obtain ⟨d,l1,l2⟩:=G8 hZ m e te h3 hte c ⟨n',_,ht,fun k hk=>hwt k (by
       simp only [List.mem_cons,List.mem_append]
       exact .inr (.inl (Ic hk (i:=i) (by rw [List.getElem?_map,List.getElem?_eq_getElem (by omega)];rfl))))⟩
      exact ⟨d,fun _=>⟨c,hc,l1,l2⟩⟩
     ·exact ⟨te.dflt,fun h=>absurd h hi⟩
    have ⟨g,hg⟩:=Classical.axiomOfChoice each
    have hlg:List.length ((List.range len).map g)=len:=by simp
    refine ⟨(List.range len).map g,?_,⟨by rw [hlg];omega,by rw [hlg];exact Nat.le_trans (Nat.mul_le_mul (by simp;omega) h5) hroom⟩,fun d hd=>?_⟩
    ·simp only [fO,RL,R]
     refine ⟨_,[],rfl,⟨some a,cap,by rw [hlg],by rw [hlg];omega,fun hn=>?_⟩,rfl⟩
     rw [hlg] at hn
     obtain ⟨c0,hc0,hr0,_⟩:=hg 0 hn
     obtain ⟨_,hcl0,hat0⟩:=World.cells?_some hc0
     have hcell0:∃z,w.cell? ((a.add (0*P.cellsOf e)).add 0)=some z:=by
      rw [hat0 0 (by omega)];exact ⟨_,List.getElem?_eq_getElem (by omega)⟩
     obtain ⟨z0,hz0⟩:=hcell0
     obtain ⟨b,off,spot⟩:=a
     have hsp:spot=none:=by
      cases spot with
      |none=>rfl
      |some q=>
       unfold World.cell? at hz0
       split at hz0
       ·simp [Addr.add] at hz0
       ·cases hz0
     subst hsp
     have hbl:b<w.heap.size:=by
      simp only [addr_add] at hz0
      unfold World.cell? at hz0
      split at hz0
      ·rename_i hh;exact (Array.getElem?_eq_some_iff.1 hh).1
      ·cases hz0
     refine ⟨b,off,rfl,hZ b hbl,fun i d hd=>?_⟩
     have hi:i<len:=by
      have:=(List.getElem?_eq_some_iff.1 hd).1
      rwa [hlg] at this
     have hdd:d=g i:=by
      rw [List.getElem?_map,List.getElem?_range hi] at hd
      simpa using hd.symm
     subst hdd
     obtain ⟨c,hc,hr,_⟩:=hg i hi
     obtain ⟨_,hcl,hat⟩:=World.cells?_some hc
     refine Zb te (g i) c b _ hr (fun j v hv=>?_)
     have hj:j<P.cellsOf e:=by
      have:=(List.getElem?_eq_some_iff.1 hv).1
      omega
     have:=hat j hj
     rw [hv] at this
     rw [h4]
     simpa [addr_add,Nat.add_assoc] using this
    ·obtain ⟨i,hi,rfl⟩:=List.mem_map.1 hd
     obtain ⟨_,_,_,hw⟩:=hg i (by simpa using hi)
     exact hw
  ·cases h
def Tm (P:Program) (m:Nat) (t:TypeId) (l:List LV):Prop:=∃(ty:Ty) (d:ty.D),yO P m t=some ty∧l=fO ty d∧TA ty d
theorem zo {P:Program}{m:Nat}{t:TypeId}{l:List LV}{ty:Ty}(ht:yO P m t=some ty) (h:Tm P m t l):∃d:ty.D,l=fO ty d∧TA ty d:=by
 obtain ⟨ty',d,h1,h2,h3⟩:=h
 obtain rfl:=Option.some.inj (ht.symm.trans h1)
 exact ⟨d,h2,h3⟩
theorem ait {Z:Nat→Prop}(hZ:∀b,b<w.heap.size→Z b) (m:Nat) (t:TypeId) (hs:Iq P m t=true) (ht:(yO P m t).isSome=true) (cs:List Value) (hg:Good enc P w base spare held t cs):∃l,RL β Z w l cs∧dG 0 l∧Tm P m t l:=by
 obtain ⟨ty,hty⟩:=Option.isSome_iff_exists.1 ht
 obtain ⟨d,h1,h2⟩:=G8 (β:=β) hZ m t ty hs hty cs hg
 exact ⟨fO ty d,h1,oL 0 ty d,ty,d,hty,rfl,h2⟩
end Go.Sx
namespace Go.Sx
open Go Go.RowKit Go.Proofs.YtlihnbimgclogaaGreatDoor Go.ChangeShapes Go.WideShapes
variable {H : Type} {enc : TypeId × Value → H} {P : Program} {β : Nat → Loc} {Z : Nat → Prop}
theorem yT (hl:laidOutB P=true) {W W':World}(hb:Below W.heap.size W W'):∀(ts:List TypeId) (vs:List Value) (ds:List (DataW H)) (ps:List MemPlace),ts.all (fun t=>P.readableRec t&&decide (t<P.types.size))=true→
  DataW.TrodAll enc P W 0 (fun _=>true) true ts vs ds ps→(∀x∈ps,x.block<W.heap.size)→DataW.TrodAll enc P W' 0 (fun b=>decide (b<W.heap.size)) true ts vs ds ps
 | [],vs,ds,ps,_,h,_=>by
  cases vs<;>cases ds<;>first|exact h|exact h.elim
 | t::ts,vs,ds,ps,hr,h,hlt=>by
  cases vs with
  |nil=>cases ds<;>exact h.elim
  | cons v vs=>
   cases ds with
   |nil=>exact h.elim
   |cons d ds=>
    obtain ⟨p,q,h1,h2,rfl⟩:=h
    simp only [List.all_cons,Bool.and_eq_true,decide_eq_true_eq] at hr
    refine ⟨p,q,Below.trod hl hr.1.1 hr.1.2 h1 hb (fun x hx=>hlt x (by simp [hx])),?_,rfl⟩
    exact yT hl hb ts vs ds q (by simpa using hr.2) h2 (fun x hx=>hlt x (by simp [hx]))
theorem aj9 {fn:Func}{s:ChangeSpec}{tb:TypeId}{apart:Bool}{W W':World}{args:Array Value}{ds gs:List (DataW H)}{before:List MemPlace}
  (hl:laidOutB P=true) (hr:fn.params.toList.all (fun t=>P.readableRec t&&decide (t<P.types.size))=true) (hres:fn.resultTypes=#[tb]) (hb:P.underlying tb=some .bool) (hvars:s.vars=[])
  (hfn:(s.fn H ds).results=[.lit (.bool true)]∧(s.fn H ds).args=ds∧(s.fn H ds).vars=[])
  (hW:DataW.Whole enc P fn.params.toList s.vars apart W args.toList ds gs before) (hB:Below W.heap.size W W'):s.post enc P fn apart true false false W args (.bool true) W':=by
 have hW':=hW
 obtain ⟨p,q,hA,hV,rfl,hfz,hnd⟩:=hW
 have hg:gs=[]∧q=[]:=by
  rw [hvars] at hV
  cases gs with
  |nil=>exact ⟨rfl,hV⟩
  |cons g r=>exact hV.elim
 obtain ⟨rfl,rfl⟩:=hg
 have hlt:∀x∈p,x.block<W.heap.size:=fun x hx=>hW'.lt x (by simp [hx])
 refine ⟨ds,[],p++[],[],p,[],hW',?_,?_,?_,hB.frame _,fun h=>by cases h⟩
 ·rw [List.append_nil,hfn.1,hres]
  exact trodAll_mk1 (shut_bool hb true)
 ·rw [List.append_nil,hfn.2.1]
  exact yT hl hB _ _ _ _ hr hA hlt
 ·rw [List.append_nil,hfn.2.2,hvars]
  rfl
def pLV (P:Program) (t:TypeId) (l:List LV):LV:=
 match P.underlying t with
 |some (.struct _)=>rY l
 |some (.array _ _)=> .junk
 |_=>match l with
  | [x]=>x
  |_=> .junk
theorem cell_of {w:World}{b0:Nat}{r:Reach}{m:Nat}{t:TypeId}(hs:Iq P m t=true) {v:Value}(hv:Value.okWide P w r b0 t v) (h1:∀fs,P.underlying t=some (.struct fs)→False) (h2:∀n e,P.underlying t=some (.array n e)→False):v.cells.toList=[v]:=by
 cases m with
 |zero=>cases hs
 | succ m=>
  simp only [Iq] at hs
  split at hs
  ·rename_i k hu
   obtain ⟨n,rfl⟩:=okWide_int hu hv
   rfl
  ·rename_i hu
   obtain ⟨n,rfl⟩:=okWide_bool hu hv
   rfl
  ·rename_i hu
   obtain ⟨n,rfl⟩:=okWide_string hu hv
   rfl
  ·rename_i fs hu
   exact (h1 fs hu).elim
  ·rename_i n e hu
   exact (h2 n e hu).elim
  ·rename_i e hu
   obtain ⟨a,l,c,rfl⟩:=okWide_slice hu hv
   rfl
  ·cases hs
theorem Ya {w:World}{base b0:Nat}{spare:Nat→Bool}{held:Bool}{r:Reach}(hZ:∀b,b<w.heap.size→Z b) {m:Nat}{t:TypeId}(hs:Iq P m t=true) (ht:(yO P m t).isSome=true) {v:Value}{d:DataW H}{p:List MemPlace}(hv:Value.okWide P w r b0 t v) (h:DataW.Trod enc P w base spare held t v d p) (hwt:∀k,k∈d.weights P t→k≤reachBytes):
  ∃l,okV 0 (pLV P t l)∧R β Z w (pLV P t l) v∧Tm P m t l:=by
 obtain ⟨fuel,hf⟩:=h
 obtain ⟨l,h1,h2,h3⟩:=ait (β:=β) hZ m t hs ht v.cells.toList ⟨fuel,_,hf,hwt⟩
 refine ⟨l,?_,?_,h3⟩
 ·unfold pLV
  split
  ·exact oW h2
  ·trivial
  ·split
   ·exact h2.1
   ·trivial
 ·unfold pLV
  split
  ·rename_i fs hu
   obtain ⟨cs,rfl,_⟩:=okWide_struct hu hv
   exact rX h1
  ·simp only [R]
  ·split
   ·rename_i x
    simp only [RL] at h1
    obtain ⟨y,zs,e1,e2,rfl⟩:=h1
    have hc:=cell_of hs hv (by assumption) (by assumption)
    have:v=y:=by rw [hc] at e1;simpa using e1
    rw [this];exact e2
   ·simp only [R]
def X7 (P:Program):List TypeId→List (List LV)→List LV
 |t::ts,l::ls=>pLV P t l::X7 P ts ls
 |_,_=>[]
def Iu (P:Program) (m:Nat):List TypeId→List (List LV)→Prop
 | [],ls=>ls=[]
 |t::ts,ls=>∃l r,ls=l::r∧Tm P m t l∧Iu P m ts r
theorem EJ {w:World}{base b0:Nat}{spare:Nat→Bool}{held:Bool}{r:Reach}(hZ:∀b,b<w.heap.size→Z b) {m:Nat}:∀(ts:List TypeId) (vs:List Value) (ds:List (DataW H)) (ps:List MemPlace),ts.all (fun t=>Iq P m t&&(yO P m t).isSome)=true→
  (∀(j:Nat) t v,ts[j]? =some t→vs[j]? =some v→Value.okWide P w r b0 t v)→DataW.TrodAll enc P w base spare held ts vs ds ps→(∀k,k∈DataW.weightsEach P ts ds→k≤reachBytes)→∃ls,dG 0 (X7 P ts ls)∧RL β Z w (X7 P ts ls) vs∧Iu P m ts ls
 | [],vs,ds,ps,_,_,h,_=>by
  cases vs with
  |nil=>exact ⟨[],trivial,by simp [X7,RL],rfl⟩
  |cons _ _=>cases ds<;>exact h.elim
 | t::ts,vs,ds,ps,hs,hv,h,hwt=>by
  cases vs with
  |nil=>cases ds<;>exact h.elim
  | cons v vs=>
   cases ds with
   |nil=>exact h.elim
   |cons d ds=>
    obtain ⟨p,q,h1,h2,rfl⟩:=h
    simp only [List.all_cons,Bool.and_eq_true] at hs
    simp only [DataW.weightsEach,List.mem_append] at hwt
    obtain ⟨l,a1,a2,a3⟩:=Ya (β:=β) hZ hs.1.1 hs.1.2 (hv 0 t v rfl rfl) h1 (fun k hk=>hwt k (.inl hk))
    obtain ⟨ls,b1,b2,b3⟩:=EJ hZ ts vs ds q hs.2 (fun j t' v' e1 e2=>hv (j+1) t' v' (by simpa using e1) (by simpa using e2)) h2 (fun k hk=>hwt k (.inr hk))
    exact ⟨l::ls,⟨a1,b1⟩,⟨v,vs,rfl,a2,b2⟩,l,ls,rfl,a3,b3⟩
theorem Rh {G:cO}{f:FuncId}{fn:Func}{S:List LV→T LV}{s:ChangeSpec}{tb:TypeId}{apart:Bool}{m:Nat}{W:World}{base:Nat}{args:Array Value}{ds gs:List (DataW H)}{before:List MemPlace}
  (hv:Valid P G f S) (hl:laidOutB P=true) (hr:fn.params.toList.all (fun t=>P.readableRec t&&decide (t<P.types.size))=true) (hres:fn.resultTypes=#[tb]) (hb:P.underlying tb=some .bool) (hvars:s.vars=[])
  (hfn:(s.fn H ds).results=[.lit (.bool true)]∧(s.fn H ds).args=ds∧(s.fn H ds).vars=[]) (hs:fn.params.toList.all (fun t=>Iq P m t&&(yO P m t).isSome)=true)
  (hS:∀ls,Iu P m fn.params.toList ls→(S (X7 P fn.params.toList ls)).all (fun x=>x=.v (.bool true)))
  (hg:W9 G (fun b=>b<W.heap.size) W)
  (hval:∀(j:Nat) t v,fn.params[j]? =some t→args[j]? =some v→Value.okWide P W .any base t v)
  (hW:DataW.Whole enc P fn.params.toList s.vars apart W args.toList ds gs before) {us:List TypeId} (hz:(DataW.weightsEach P (fn.params.toList++us) (ds++gs)).all (·≤reachBytes)=true):
  Calls P f args W fun e W'=>∃v,e=.returned v∧s.post enc P fn apart true false false W args v W':=by
 have hA:∃p,DataW.TrodAll enc P W 0 (fun _=>true) true fn.params.toList args.toList ds p:=by
  obtain ⟨p,q,hA,_⟩:=hW
  exact ⟨p,hA⟩
 obtain ⟨p,hA⟩:=hA
 obtain ⟨ls,h1,h2,h3⟩:=EJ (β:=β0) (Z:=fun b=>b<W.heap.size) (fun _ h=>h) fn.params.toList args.toList ds p hs (fun j t v e1 e2=>hval j t v (by simpa using e1) (by simpa using e2)) hA (fun k hk=>of_decide_eq_true (List.all_eq_true.1 hz k (L9 (EF hA) k hk)))
 refine (hv _ args W _ _ (fun _ h=>h) hg h1 h2 (hS ls h3)).mono fun e W' ⟨hB,v,he,_,hR⟩=>⟨v,he,?_⟩
 simp only [R] at hR
 rw [hR]
 exact aj9 hl hr hres hb hvars hfn hW hB
end Go.Sx
namespace Go.Sx
open Go Go.RowKit Go.Proofs.YtlihnbimgclogaaGreatDoor
variable {H : Type} {enc : TypeId × Value → H} {P : Program} {w : World} {base : Nat} {spare : Nat → Bool} {held : Bool}
def E8 {H:Type}:Nat→DataW H→List Value
 |0,_=>[]
 |_+1,.lit (.int k n)=>[.int k n]
 |_+1,.lit (.bool b)=>[.bool b]
 |m+1,.agg l=>l.flatMap (E8 m)
 |_,_=>[]
def IG (P:Program):Nat→TypeId→Bool
 |0,_=>false
 |m+1,t=>match P.underlying t with
  |some (.int _) |some .bool=>true
  |some (.struct fs)=>D6 P 0 fs.toList&&decide (P.cellsOf t=((fs.toList.map (·.type)).map P.cellsOf).sum)&&fs.toList.all (fun f=>IG P m f.type)
  |some (.array n e)=>decide (P.cellsOf t=((List.replicate n e).map P.cellsOf).sum)&&IG P m e
  |_=>false
theorem JG {sz:TypeId→Nat}{g:DataW H→List Value}{Tr:TypeId→List Value→DataW H→Prop}:∀(ts:List TypeId) (cs:List Value) (ds:List (DataW H)),
  (∀t∈ts,∀c d,Tr t c d→g d=c)→ds.length=ts.length→cs.length=(ts.map sz).sum→(∀pre t post,ts=pre++t::post→∃d,ds[pre.length]? =some d∧Tr t ((cs.drop (pre.map sz).sum).take (sz t)) d)→ds.flatMap g=cs
 | [],cs,ds,_,h0,hl,_=>by
  have:cs=[]:=by simpa using hl
  have h2:ds=[]:=by simpa using h0
  rw [this,h2];rfl
 |t::ts,cs,[],_,h0,_,_=>by simp at h0
 | t::ts,cs,d::ds,ih,h0,hl,hg=>by
  obtain ⟨d',e1,e2⟩:=hg [] t ts rfl
  simp at e1
  subst e1
  have r:=JG (sz:=sz) (g:=g) (Tr:=Tr) ts (cs.drop (sz t)) ds (fun t' ht=>ih t' (by simp [ht])) (by simpa using h0) (by simp at hl⊢;omega) (fun pre t' post e=>by
   obtain ⟨q,q1,q2⟩:=hg (t::pre) t' post (by rw [e];rfl)
   refine ⟨q,by simpa using q1,?_⟩
   rw [List.drop_drop]
   simpa using q2)
  rw [List.flatMap_cons,r,ih t (by simp) _ _ e2]
  simp
theorem RI:∀(m:Nat) (t:TypeId),IG P m t=true→∀(n:Nat) (cs:List Value) (x:DataW H×List MemPlace),DataW.trod enc P w base spare held n t cs=some x→E8 m x.1=cs
 |0,t,h,_,_,_,_=>by cases h
 | m +1,t,h,n,cs,x,hx=>by
  simp only [IG] at h
  split at h
  ·rename_i k hu
   obtain ⟨z,rfl,rfl,hw⟩:=DataW.trod_int hu hx
   rfl
  ·rename_i hu
   obtain ⟨z,rfl,rfl⟩:=DataW.trod_bool hu hx
   rfl
  ·rename_i fs hu
   simp only [Bool.and_eq_true,decide_eq_true_eq,List.all_eq_true] at h
   obtain ⟨⟨h1,h2⟩,h3⟩:=h
   obtain ⟨xs,n',_,rfl,hl,hxl,hf⟩:=DataW.trod_struct hu hx
   simp only [E8]
   refine JG (sz:=P.cellsOf) (Tr:=fun t c d=>∃y,DataW.trod enc P w base spare held n' t c=some y∧y.1=d) (fs.toList.map (·.type)) cs _ (fun t' ht c d hc=>?_) (by simp [hxl]) (by rw [hl,h2]) (fun pre t' post e=>?_)
   ·obtain ⟨f,hf1,rfl⟩:=List.mem_map.1 ht
    obtain ⟨y,hy,rfl⟩:=hc
    exact RI m f.type (h3 f hf1) n' c y hy
   ·obtain ⟨fpre,frest,e1,e2,e3⟩:=List.map_eq_append_iff.1 e
    obtain ⟨f,fpost,rfl,e4,e5⟩:=List.map_eq_cons_iff.1 e3
    have ho:=PS fs.toList 0 h1 fpre f fpost e1
    have hi:fs[fpre.length]? =some f:=by
     have:fs.toList[fpre.length]? =some f:=by rw [e1];simp
     simpa using this
    have hg:=hf _ f hi
    have hlt:fpre.length<fs.size:=(Array.getElem?_eq_some_iff.1 hi).1
    rw [ho,Nat.zero_add] at hg
    refine ⟨(xs[fpre.length]'(by omega)).1,?_,xs[fpre.length]'(by omega),?_,rfl⟩
    ·rw [←e2,List.length_map,List.getElem?_map,List.getElem?_eq_getElem (by omega)];rfl
    ·rw [←e2,←e4,hg,List.getElem?_eq_getElem]
  ·rename_i n0 e hu
   simp only [Bool.and_eq_true,decide_eq_true_eq] at h
   obtain ⟨h2,h3⟩:=h
   obtain ⟨xs,n',_,rfl,hl,hxl,hf⟩:=DataW.trod_array hu hx
   simp only [E8]
   refine JG (sz:=P.cellsOf) (Tr:=fun t c d=>∃y,DataW.trod enc P w base spare held n' t c=some y∧y.1=d) (List.replicate n0 e) cs _ (fun t' ht c d hc=>?_) (by simp [hxl]) (by rw [hl,h2]) (fun pre t' post e'=>?_)
   ·rw [(List.mem_replicate.1 ht).2] at hc
    obtain ⟨y,hy,rfl⟩:=hc
    exact RI m e h3 n' c y hy
   ·obtain ⟨c1,c2,c3⟩:=List.replicate_eq_append_iff.1 e'
    have ht':t'=e:=by
     have:t'∈List.replicate n0 e:=by rw [e'];simp
     exact (List.mem_replicate.1 this).2
    have hlen:pre.length<n0:=by
     have:=congrArg List.length e'
     simp at this;omega
    have hg:=hf pre.length hlen
    have hs:(pre.map P.cellsOf).sum=pre.length*P.cellsOf e:=by rw [c2];simp
    refine ⟨(xs[pre.length]'(by omega)).1,?_,xs[pre.length]'(by omega),?_,rfl⟩
    ·rw [List.getElem?_map,List.getElem?_eq_getElem (by omega)];rfl
    ·rw [hs,ht',hg,List.getElem?_eq_getElem]
  ·cases h
theorem LW {W:World}{name:String}{d:DataW Unit}{rest:List (String×DataW Unit)}{g:Nat}{t:TypeId}{m:Nat}(hg:P.globalNamed name=some g) (hty:(P.globals[g]?).map (·.type)=some t) (hp:IG P m t=true)
  (h:laidMet P ((name,d)::rest) W):(∀i,W.cell? ⟨g,i,none⟩=(E8 m d)[i]?)∧((E8 m d)≠ []→g<W.heap.size):=by
 obtain ⟨ps,⟨g',t',cs,fuel,p,q,hg',ht',hvar,hd,_,_⟩,_⟩:=h
 obtain rfl:=Option.some.inj (hg.symm.trans hg')
 obtain rfl:=Option.some.inj (hty.symm.trans ht')
 have hf:=RI m t hp fuel _ _ hd
 simp only at hf
 have hcell:∀i,W.cell? ⟨g,i,none⟩=(E8 m d)[i]? :=fun i=>by
  rw [World.var?_cell hg hvar i,hf];simp
 refine ⟨hcell,fun hne=>?_⟩
 have h0:=hcell 0
 cases hh:(E8 m d)[0]? with
 |none=>exact absurd (List.getElem?_eq_none_iff.1 hh) (by have:=List.length_pos_iff.2 hne;omega)
 |some z=>
  rw [hh] at h0
  unfold World.cell? at h0
  split at h0
  ·rename_i hb;exact (Array.getElem?_eq_some_iff.1 hb).1
  ·cases h0
end Go.Sx
namespace Go.Proofs.YtlihnbimgclogaaGreatDoor
open Go.Sx Go.ChangeShapes Go.WideShapes Go.ChangeAt Go.RowKit
theorem own:ownKnob Tryz.prog.godebug=none:=by kernel_rfl
theorem laidOut:laidOutB Tryz.prog=true:=by kernel_rfl
theorem aHb:Tryz.prog.globalNamed "chargepark/ramp.happens"=some 0:=by kernel_rfl
theorem aDU:(Tryz.prog.globals[0]?).map (·.type)=some 130:=by kernel_rfl
theorem akQ {W:World}(h:laidMetH Tryz.prog [("chargepark/ramp.happens",Rows.laid_chargepark_ramp_happens)] W):W9 aS (fun b=>b<W.heap.size) W:=by
 obtain ⟨h1,h2⟩:=LW (m:=4) aHb aDU (by kernel_rfl) (show laidMet Tryz.prog [("chargepark/ramp.happens",Rows.laid_chargepark_ramp_happens)] W from h)
 intro g n f hg
 unfold aS at hg
 split at hg
 ·simp only [Option.some.injEq,Prod.mk.injEq] at hg
  obtain ⟨rfl,rfl⟩:=hg
  refine ⟨h2 (by decide),fun j hj=>?_⟩
  rw [h1 j]
  match j,hj with
  |0,_=>rfl
  |1,_=>rfl
  |2,_=>rfl
  |3,_=>rfl
  |4,_=>rfl
  |5,_=>rfl
  |6,_=>rfl
  |7,_=>rfl
 ·cases hg
theorem Nz {H:Type}{enc:TypeId×Value→H}{P:Program}{w:World}{base:Nat}{spare:Nat→Bool}{held:Bool}:∀ {ts:List TypeId}{vs:List Value}{ds:List (DataW H)}{ps:List MemPlace},DataW.TrodAll enc P w base spare held ts vs ds ps→ds.length=ts.length
 | [],[],[],_,_=>rfl
 | [],_::_,_,_,h=>by cases h
 | [],[],_::_,_,h=>by cases h
 |_::_,[],_,_,h=>by cases h
 |_::_,_::_,[],_,h=>by cases h
 |_::_,_::_,_::_,_,h=>by
  obtain ⟨_,_,_,h2,_⟩:=h
  simp [Nz h2]
noncomputable def laidWorld (os:Os):World:=
 { World.holding Tryz.prog os ⟨#[],#[],[]⟩ with heap:=(World.holding Tryz.prog os ⟨#[],#[],[]⟩).heap.modify 0 fun
   | .cells _ t frozen=> .cells #[.int .i64 1,.int .i64 1,.int .i64 1,.int .i64 0,.int .i64 2,.int .i64 2,.int .i64 3,.int .i64 3] t frozen
   |o=>o}
theorem wf_u16 {d:(Ty.int .u16).D}(h:TA (.int .u16) d):(0:Int)≤d∧d≤(65535:Int):=by
 simp only [TA,Lit.wf] at h
 simp only [Bool.and_eq_true] at h
 exact ⟨of_decide_eq_true h.1,of_decide_eq_true h.2⟩
theorem anz {cs:List Cd}{os:List ByteArray}{ks:List Ko}{gs:List Ch}{bs:List Ba}(h1:TA (.sl eu) cs) (h2:TA (.sl .str) os) (h3:TA (.sl eG) ks) (h4:TA (.sl dK) gs) (h5:TA (.sl eP) bs):nmR (gY cs os ks gs bs):=by
 intro w hw
 have key:∀n:Nat,n≤maxLen→(n:Int)≤9223372036854775807:=fun n h=>by
  unfold maxLen at h
  omega
 refine key _ ?_
 unfold gY at hw
 simp only [List.mem_append,List.mem_map] at hw
 rcases hw with (((⟨x,hx,rfl⟩ |hx) |⟨x,hx,rfl⟩) |⟨x,hx,rfl⟩) |⟨x,hx,rfl⟩
 ·exact (h1.2 x hx).1
 ·exact h2.2 w hx
 ·exact (h3.2 x hx).1
 ·exact (h4.2 x hx).1
 ·exact (h5.2 x hx).1
end Go.Proofs.YtlihnbimgclogaaGreatDoor
namespace Go.Proofs.YtlihnbimgclogaaGreatDoor
open Go.Sx Go.ChangeShapes Go.WideShapes Go.ChangeAt Go.RowKit
namespace ControlSafe
set_option maxRecDepth 100000 in
theorem opened (ls:List (List LV)) (h:Iu Tryz.prog 8 Tryz.f10.params.toList ls):(aEt (X7 Tryz.prog Tryz.f10.params.toList ls)).all (fun x=>x=.v (.bool true)):=by
 rw [Tryz.params10] at h⊢
 simp only [Iu] at h
 obtain ⟨l0,_,rfl,h0,l1,_,rfl,h1,l2,_,rfl,h2,l3,_,rfl,h3,l4,_,rfl,h4,l5,_,rfl,h5,l6,_,rfl,h6,rfl⟩:=h
 obtain ⟨d0,rfl,w0⟩:=zo (ty:=(.pair (.sl eu) (.pair (.sl .str) (.pair (.sl eG) (.pair (.sl dK) (.sl eP)))))) (by kernel_rfl) h0
 obtain ⟨d1,rfl,w1⟩:=zo (ty:=(.sl iV)) (by kernel_rfl) h1
 obtain ⟨d2,rfl,w2⟩:=zo (ty:=(.sl oP)) (by kernel_rfl) h2
 obtain ⟨d3,rfl,w3⟩:=zo (ty:=(.sl tJ)) (by kernel_rfl) h3
 obtain ⟨d4,rfl,w4⟩:=zo (ty:=(.int .i64)) (by kernel_rfl) h4
 obtain ⟨d5,rfl,w5⟩:=zo (ty:=(.int .i64)) (by kernel_rfl) h5
 obtain ⟨d6,rfl,w6⟩:=zo (ty:=(.int .u16)) (by kernel_rfl) h6
 simp only [X7,pLV,Tryz.underlying31,Tryz.underlying29,Tryz.underlying30,Tryz.underlying28,Tryz.underlying3,Tryz.underlying68]
 refine af8 (t':=T.req (nmR (gY d0.1 d0.2.1 d0.2.2.1 d0.2.2.2.1 d0.2.2.2.2)∧0≤d6∧d6≤65535) (T.ok (LV.v (Value.bool true)))) (by kernel_rfl) ?_
 exact ⟨⟨(anz w0.1 w0.2.1 w0.2.2.1 w0.2.2.2.1 w0.2.2.2.2),wf_u16 w6⟩,rfl⟩
set_option maxRecDepth 100000 in
theorem contract (H:Type) (enc:TypeId×Value→H) (W:World) (base:Nat) (args:Array Value) (ds gs:List (DataW H)) (before:List MemPlace)
  (hval:∀(j:Nat) t v,Tryz.f10.params[j]? =some t→args[j]? =some v→Value.okWide Tryz.prog W .any base t v)
  (hW:DataW.Whole enc Tryz.prog Tryz.f10.params.toList Rows.controlSafeSpec.vars false W args.toList ds gs before) (hL:laidMetH Tryz.prog Rows.controlSafeRow.laid W) {us:List TypeId} (hz:(DataW.weightsEach Tryz.prog (Tryz.f10.params.toList++us) (ds++gs)).all (·≤reachBytes)=true):
  Calls Tryz.prog 10 args W fun e W'=>∃v,e=.returned v∧Rows.controlSafeSpec.post enc Tryz.prog Tryz.f10 false true false false W args v W':=by
 refine Rh (m:=8) (tb:=4) aGR laidOut (by kernel_rfl) (by kernel_rfl) Tryz.underlying4 rfl ?_ (by kernel_rfl) opened (akQ hL) hval hW hz
 obtain ⟨p,q,hA,_⟩:=hW
 have hl:=Nz hA
 rw [Tryz.params10] at hl
 match ds,hl with
 | [_,_,_,_,_,_,_],_=>exact ⟨rfl,rfl,rfl⟩
theorem laid_met (os:Os):laidMet Tryz.prog Rows.controlSafeRow.laid ((laidWorld os).forCall (fun _ _=>0) ⟨#[],#[.agg #[.slice none 0 0,.slice none 0 0,.slice none 0 0,.slice none 0 0,.slice none 0 0],.slice none 0 0,.slice none 0 0,.slice none 0 0,.int .i64 0,.int .i64 0,.int .u16 0],[]⟩).memory:=
 laidMet_of_run' 8 (by kernel_rfl) (by kernel_rfl)
theorem reads (os:Os) {H:Type}(enc:TypeId×Value→H):∃places,DataW.whole enc Tryz.prog ((laidWorld os).forCall (fun _ _=>0) ⟨#[],#[.agg #[.slice none 0 0,.slice none 0 0,.slice none 0 0,.slice none 0 0,.slice none 0 0],.slice none 0 0,.slice none 0 0,.slice none 0 0,.int .i64 0,.int .i64 0,.int .u16 0],[]⟩).memory Tryz.f10.params.toList Rows.controlSafeSpec.vars false #[.agg #[.slice none 0 0,.slice none 0 0,.slice none 0 0,.slice none 0 0,.slice none 0 0],.slice none 0 0,.slice none 0 0,.slice none 0 0,.int .i64 0,.int .i64 0,.int .u16 0].toList 8=some ([.agg [.nil,.nil,.nil,.nil,.nil],.nil,.nil,.nil,.lit (.int .i64 0),.lit (.int .i64 0),.lit (.int .u16 0)],[],places):=
 ⟨[],by kernel_rfl⟩
set_option maxRecDepth 100000 in
theorem lifted (os:Os) (started:os.Started) (H:Type) (enc:TypeId×Value→H) (F:Stop.Interp):
  ReturnsInHanded {} Tryz.checked os 10 .any ((OpenSpec.ofChange Rows.controlSafeSpec).preRow enc Tryz.prog Tryz.f10 Rows.controlSafeRow.domain false Rows.controlSafeRow.laid) (((OpenSpec.ofChange Rows.controlSafeSpec).at F).post enc Tryz.prog Tryz.f10 false true false false):=by
 obtain ⟨places,hx⟩:=reads os enc
 refine returnsInHanded_of_row (C:=Tryz.checked) (s:=OpenSpec.ofChange Rows.controlSafeSpec) own started (by kernel_rfl) Tryz.func10
  (witness_row_at (enc:=enc) (C:=Tryz.checked) false (laidWorld os) #[.agg #[.slice none 0 0,.slice none 0 0,.slice none 0 0,.slice none 0 0,.slice none 0 0],.slice none 0 0,.slice none 0 0,.slice none 0 0,.int .i64 0,.int .i64 0,.int .u16 0] rfl (by kernel_rfl) (by kernel_rfl) (by kernel_rfl)
   (OpenSpec.preRow_of_cond 8 hx (by kernel_rfl) (fun k hk=>by cases hk) (by kernel_rfl) (laid_met os))) ?_
 intro W base args ds gs before hval hW _ _ hz hL _ _
 exact contract H enc W base args ds gs before hval hW hL hz
theorem said:Rows.ControlSafeSaid:=
 OpenClaim.holds_of_cond 10 Tryz.f10 rfl rfl rfl rfl rfl rfl rfl ⟨rfl,rfl,rfl,rfl,rfl⟩ rfl rfl rfl rfl rfl (by kernel_rfl) Tryz.func10 (by kernel_rfl)
  (of_decide_eq_true (by kernel_rfl)) (by unfold Func.isWrapper;first|(rw [if_pos (by decide+kernel)];kernel_rfl) |(rw [if_neg (by decide+kernel)];exact ⟨rfl,rfl⟩))
  (fun os started H enc _ F=>by rw [OpenClaim.pre_eq_preRow];exact lifted os started H enc F)
end ControlSafe
end Go.Proofs.YtlihnbimgclogaaGreatDoor
