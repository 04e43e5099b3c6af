/- ControlSettles returns true for all arguments: if the demands remain as they are, after 200 ticks the currents are the targets. Conditions: none; the table ramp.happens holds what its text says. -/
import Derived.Test.YtlihnbimgclogaaGreatDoorQh4
namespace Go.Proofs.YtlihnbimgclogaaGreatDoor
open Go.Sx
theorem aou (cs:List Cd) (os:List ByteArray) (ks:List Ko) (gs:List Ch) (bs:List Ba) (al mo od:List Int):bV Tryz.prog aS (abm) arT (fun i=>if i=11 then J9.lp else if i=21 then EK.lp else aC i) Tryz.f52 [.agg [.xl dU cs,.xl .str os,.xl dV ks,.xl dP gs,.xl dW bs],.xl (.int .i64) al,.xl (.int .i64) mo,.xl (.int .i64) od]=.br ((OI cs os ks gs bs) !=0) (.ok (.gq [.xl (.int .i64) ([]:List Int),.v (.int .i64 1)])) (.br ((List.length al:Int) !=(List.length gs:Int)) (.ok (.gq [.xl (.int .i64) ([]:List Int),.v (.int .i64 1)])) (.br ((List.length mo:Int) !=(List.length gs:Int)) (.ok (.gq [.xl (.int .i64) ([]:List Int),.v (.int .i64 1)])) (.req (Zc (⟨false,al,(List.length al:Int),(0:Int),cs,os,ks,gs,bs⟩:jG)) (.br (iG (xQ (⟨false,al,(List.length al:Int),(0:Int),cs,os,ks,gs,bs⟩:jG)) (.ret)) (.br (!(ug (⟨false,al,(List.length al:Int),(0:Int),cs,os,ks,gs,bs⟩:jG)).r) (.ok (.gq [.xl (.int .i64) ([]:List Int),.v (.int .i64 1)])) (.req (Zc (⟨false,mo,(List.length mo:Int),(0:Int),cs,os,ks,gs,bs⟩:jG)) (.br (iG (xQ (⟨false,mo,(List.length mo:Int),(0:Int),cs,os,ks,gs,bs⟩:jG)) (.ret)) (.br (!(ug (⟨false,mo,(List.length mo:Int),(0:Int),cs,os,ks,gs,bs⟩:jG)).r) (.ok (.gq [.xl (.int .i64) ([]:List Int),.v (.int .i64 1)])) (.req ((List.length gs:Int)≤1000) (.br (!(mJ od (List.length gs:Int))) (.ok (.gq [.xl (.int .i64) ([]:List Int),.v (.int .i64 1)])) (.req (0≤(List.length (iy cs os ks gs bs):Int)∧(List.length (iy cs os ks gs bs):Int)≤(List.length (iy cs os ks gs bs):Int)∧8*(List.length (iy cs os ks gs bs):Int)≤2^48∧(List.length (iy cs os ks gs bs):Int)<2^63) (.req (0≤(List.length al:Int)∧(List.length al:Int)≤(List.length al:Int)∧8*(List.length al:Int)≤2^48∧(List.length al:Int)<2^63) (.req (0=0∧0=List.length ([]:List Int)) (.req (0=0∧0=List.length ([]:List Int)) (.req (0=0∧0=List.length ([]:List Int)) (.req (0=0∧0=List.length ([]:List Int)) (.req (0=0∧0=List.length ([]:List Int)) (.req (0=0∧0=List.length ([]:List Int)) (.req (0=0∧0=List.length ([]:List Int)) (.req (0=0∧0=List.length ([]:List Int)) (.req (0=0∧0=List.length ([]:List Int)) (.req (0=0∧0=List.length ([]:List Int)) (.req (0=0∧0=List.length ([]:List Int)) (.req (0=0∧0=List.length ([]:List Int)) (.req (0=0∧0=List.length ([]:List Int)) (.req (0=0∧0=List.length ([]:List Int)) (.req (0=0∧0=List.length ([]:List Int)) (.req (0=0∧0=List.length ([]:List Int)) (.req (0=0∧(List.length (iy cs os ks gs bs):Int).toNat=List.length (List.replicate (List.length (iy cs os ks gs bs):Int).toNat (0:Int))) (.req (0=0∧(List.length al:Int).toNat=List.length (List.replicate (List.length al:Int).toNat (0:Int))) (.req (Rh (ay cs os ks gs bs al mo od)) (.req (0+(List.length (ax (ay cs os ks gs bs al mo od)).jm)≤List.length (ax (ay cs os ks gs bs al mo od)).jm) (.req (0+(List.length (ax (ay cs os ks gs bs al mo od)).jl)≤List.length (ax (ay cs os ks gs bs al mo od)).jl) (.req (0+(List.length (ax (ay cs os ks gs bs al mo od)).jk)≤List.length (ax (ay cs os ks gs bs al mo od)).jk) (.req (0+(List.length (ax (ay cs os ks gs bs al mo od)).ji)≤List.length (ax (ay cs os ks gs bs al mo od)).ji) (.req (0+(List.length (ax (ay cs os ks gs bs al mo od)).jh)≤List.length (ax (ay cs os ks gs bs al mo od)).jh) (.req (0+(List.length (ax (ay cs os ks gs bs al mo od)).jg)≤List.length (ax (ay cs os ks gs bs al mo od)).jg) (.req (0+(List.length (ax (ay cs os ks gs bs al mo od)).jf)≤List.length (ax (ay cs os ks gs bs al mo od)).jf) (.req (0+(List.length (ax (ay cs os ks gs bs al mo od)).je)≤List.length (ax (ay cs os ks gs bs al mo od)).je) (.req (0+(List.length (ax (ay cs os ks gs bs al mo od)).jd)≤List.length (ax (ay cs os ks gs bs al mo od)).jd) (.req (0+(List.length (ax (ay cs os ks gs bs al mo od)).jc)≤List.length (ax (ay cs os ks gs bs al mo od)).jc) (.req (0+(List.length (ax (ay cs os ks gs bs al mo od)).dL)≤List.length (ax (ay cs os ks gs bs al mo od)).dL) (.req (0+(List.length (ax (ay cs os ks gs bs al mo od)).dK)≤List.length (ax (ay cs os ks gs bs al mo od)).dK) (.req (0+(List.length (ax (ay cs os ks gs bs al mo od)).dJ)≤List.length (ax (ay cs os ks gs bs al mo od)).dJ) (.req (0+(List.length (ax (ay cs os ks gs bs al mo od)).dI)≤List.length (ax (ay cs os ks gs bs al mo od)).dI) (.req (0+(List.length (ax (ay cs os ks gs bs al mo od)).dH)≤List.length (ax (ay cs os ks gs bs al mo od)).dH) (.req (0+(List.length (ax (ay cs os ks gs bs al mo od)).dG)≤List.length (ax (ay cs os ks gs bs al mo od)).dG) (.rl (ax (ay cs os ks gs bs al mo od)).sums (.rl (List.replicate (List.length al:Int).toNat (0:Int)) (.req (Rf (eY cs os ks gs bs al mo od)) (.req (0≤(List.length gs:Int)∧(List.length gs:Int)≤(List.length gs:Int)∧8*(List.length gs:Int)≤2^48∧(List.length gs:Int)<2^63) (.req (0=0∧(List.length gs:Int).toNat=List.length (List.replicate (List.length gs:Int).toNat (0:Int))) (.rl (iJ (eY cs os ks gs bs al mo od)).sums (.rl (iJ (eY cs os ks gs bs al mo od)).levels (.req (Q9 (fM cs os ks gs bs al mo od)) (.req (0+(List.length (gY (fM cs os ks gs bs al mo od)).out)≤List.length (gY (fM cs os ks gs bs al mo od)).out) (.ok (.gq [.xl (.int .i64) (((gY (fM cs os ks gs bs al mo od)).out.drop 0).take (List.length (gY (fM cs os ks gs bs al mo od)).out)),.v (.int .i64 0)]))))))))))))))))))))))))))))))))))))))))))))))))))) (.br (!true) (.ok (.gq [.xl (.int .i64) ([]:List Int),.v (.int .i64 1)])) (.req ((List.length gs:Int)≤1000) (.br (!(mJ od (List.length gs:Int))) (.ok (.gq [.xl (.int .i64) ([]:List Int),.v (.int .i64 1)])) (.req (0≤(List.length (iy cs os ks gs bs):Int)∧(List.length (iy cs os ks gs bs):Int)≤(List.length (iy cs os ks gs bs):Int)∧8*(List.length (iy cs os ks gs bs):Int)≤2^48∧(List.length (iy cs os ks gs bs):Int)<2^63) (.req (0≤(List.length al:Int)∧(List.length al:Int)≤(List.length al:Int)∧8*(List.length al:Int)≤2^48∧(List.length al:Int)<2^63) (.req (0=0∧0=List.length ([]:List Int)) (.req (0=0∧0=List.length ([]:List Int)) (.req (0=0∧0=List.length ([]:List Int)) (.req (0=0∧0=List.length ([]:List Int)) (.req (0=0∧0=List.length ([]:List Int)) (.req (0=0∧0=List.length ([]:List Int)) (.req (0=0∧0=List.length ([]:List Int)) (.req (0=0∧0=List.length ([]:List Int)) (.req (0=0∧0=List.length ([]:List Int)) (.req (0=0∧0=List.length ([]:List Int)) (.req (0=0∧0=List.length ([]:List Int)) (.req (0=0∧0=List.length ([]:List Int)) (.req (0=0∧0=List.length ([]:List Int)) (.req (0=0∧0=List.length ([]:List Int)) (.req (0=0∧0=List.length ([]:List Int)) (.req (0=0∧0=List.length ([]:List Int)) (.req (0=0∧(List.length (iy cs os ks gs bs):Int).toNat=List.length (List.replicate (List.length (iy cs os ks gs bs):Int).toNat (0:Int))) (.req (0=0∧(List.length al:Int).toNat=List.length (List.replicate (List.length al:Int).toNat (0:Int))) (.req (Rh (ay cs os ks gs bs al mo od)) (.req (0+(List.length (ax (ay cs os ks gs bs al mo od)).jm)≤List.length (ax (ay cs os ks gs bs al mo od)).jm) (.req (0+(List.length (ax (ay cs os ks gs bs al mo od)).jl)≤List.length (ax (ay cs os ks gs bs al mo od)).jl) (.req (0+(List.length (ax (ay cs os ks gs bs al mo od)).jk)≤List.length (ax (ay cs os ks gs bs al mo od)).jk) (.req (0+(List.length (ax (ay cs os ks gs bs al mo od)).ji)≤List.length (ax (ay cs os ks gs bs al mo od)).ji) (.req (0+(List.length (ax (ay cs os ks gs bs al mo od)).jh)≤List.length (ax (ay cs os ks gs bs al mo od)).jh) (.req (0+(List.length (ax (ay cs os ks gs bs al mo od)).jg)≤List.length (ax (ay cs os ks gs bs al mo od)).jg) (.req (0+(List.length (ax (ay cs os ks gs bs al mo od)).jf)≤List.length (ax (ay cs os ks gs bs al mo od)).jf) (.req (0+(List.length (ax (ay cs os ks gs bs al mo od)).je)≤List.length (ax (ay cs os ks gs bs al mo od)).je) (.req (0+(List.length (ax (ay cs os ks gs bs al mo od)).jd)≤List.length (ax (ay cs os ks gs bs al mo od)).jd) (.req (0+(List.length (ax (ay cs os ks gs bs al mo od)).jc)≤List.length (ax (ay cs os ks gs bs al mo od)).jc) (.req (0+(List.length (ax (ay cs os ks gs bs al mo od)).dL)≤List.length (ax (ay cs os ks gs bs al mo od)).dL) (.req (0+(List.length (ax (ay cs os ks gs bs al mo od)).dK)≤List.length (ax (ay cs os ks gs bs al mo od)).dK) (.req (0+(List.length (ax (ay cs os ks gs bs al mo od)).dJ)≤List.length (ax (ay cs os ks gs bs al mo od)).dJ) (.req (0+(List.length (ax (ay cs os ks gs bs al mo od)).dI)≤List.length (ax (ay cs os ks gs bs al mo od)).dI) (.req (0+(List.length (ax (ay cs os ks gs bs al mo od)).dH)≤List.length (ax (ay cs os ks gs bs al mo od)).dH) (.req (0+(List.length (ax (ay cs os ks gs bs al mo od)).dG)≤List.length (ax (ay cs os ks gs bs al mo od)).dG) (.rl (ax (ay cs os ks gs bs al mo od)).sums (.rl (List.replicate (List.length al:Int).toNat (0:Int)) (.req (Rf (eY cs os ks gs bs al mo od)) (.req (0≤(List.length gs:Int)∧(List.length gs:Int)≤(List.length gs:Int)∧8*(List.length gs:Int)≤2^48∧(List.length gs:Int)<2^63) (.req (0=0∧(List.length gs:Int).toNat=List.length (List.replicate (List.length gs:Int).toNat (0:Int))) (.rl (iJ (eY cs os ks gs bs al mo od)).sums (.rl (iJ (eY cs os ks gs bs al mo od)).levels (.req (Q9 (fM cs os ks gs bs al mo od)) (.req (0+(List.length (gY (fM cs os ks gs bs al mo od)).out)≤List.length (gY (fM cs os ks gs bs al mo od)).out) (.ok (.gq [.xl (.int .i64) (((gY (fM cs os ks gs bs al mo od)).out.drop 0).take (List.length (gY (fM cs os ks gs bs al mo od)).out)),.v (.int .i64 0)])))))))))))))))))))))))))))))))))))))))))))))))))))))) (.br (!true) (.ok (.gq [.xl (.int .i64) ([]:List Int),.v (.int .i64 1)])) (.req (Zc (⟨false,mo,(List.length mo:Int),(0:Int),cs,os,ks,gs,bs⟩:jG)) (.br (iG (xQ (⟨false,mo,(List.length mo:Int),(0:Int),cs,os,ks,gs,bs⟩:jG)) (.ret)) (.br (!(ug (⟨false,mo,(List.length mo:Int),(0:Int),cs,os,ks,gs,bs⟩:jG)).r) (.ok (.gq [.xl (.int .i64) ([]:List Int),.v (.int .i64 1)])) (.req ((List.length gs:Int)≤1000) (.br (!(mJ od (List.length gs:Int))) (.ok (.gq [.xl (.int .i64) ([]:List Int),.v (.int .i64 1)])) (.req (0≤(List.length (iy cs os ks gs bs):Int)∧(List.length (iy cs os ks gs bs):Int)≤(List.length (iy cs os ks gs bs):Int)∧8*(List.length (iy cs os ks gs bs):Int)≤2^48∧(List.length (iy cs os ks gs bs):Int)<2^63) (.req (0≤(List.length al:Int)∧(List.length al:Int)≤(List.length al:Int)∧8*(List.length al:Int)≤2^48∧(List.length al:Int)<2^63) (.req (0=0∧0=List.length ([]:List Int)) (.req (0=0∧0=List.length ([]:List Int)) (.req (0=0∧0=List.length ([]:List Int)) (.req (0=0∧0=List.length ([]:List Int)) (.req (0=0∧0=List.length ([]:List Int)) (.req (0=0∧0=List.length ([]:List Int)) (.req (0=0∧0=List.length ([]:List Int)) (.req (0=0∧0=List.length ([]:List Int)) (.req (0=0∧0=List.length ([]:List Int)) (.req (0=0∧0=List.length ([]:List Int)) (.req (0=0∧0=List.length ([]:List Int)) (.req (0=0∧0=List.length ([]:List Int)) (.req (0=0∧0=List.length ([]:List Int)) (.req (0=0∧0=List.length ([]:List Int)) (.req (0=0∧0=List.length ([]:List Int)) (.req (0=0∧0=List.length ([]:List Int)) (.req (0=0∧(List.length (iy cs os ks gs bs):Int).toNat=List.length (List.replicate (List.length (iy cs os ks gs bs):Int).toNat (0:Int))) (.req (0=0∧(List.length al:Int).toNat=List.length (List.replicate (List.length al:Int).toNat (0:Int))) (.req (Rh (ay cs os ks gs bs al mo od)) (.req (0+(List.length (ax (ay cs os ks gs bs al mo od)).jm)≤List.length (ax (ay cs os ks gs bs al mo od)).jm) (.req (0+(List.length (ax (ay cs os ks gs bs al mo od)).jl)≤List.length (ax (ay cs os ks gs bs al mo od)).jl) (.req (0+(List.length (ax (ay cs os ks gs bs al mo od)).jk)≤List.length (ax (ay cs os ks gs bs al mo od)).jk) (.req (0+(List.length (ax (ay cs os ks gs bs al mo od)).ji)≤List.length (ax (ay cs os ks gs bs al mo od)).ji) (.req (0+(List.length (ax (ay cs os ks gs bs al mo od)).jh)≤List.length (ax (ay cs os ks gs bs al mo od)).jh) (.req (0+(List.length (ax (ay cs os ks gs bs al mo od)).jg)≤List.length (ax (ay cs os ks gs bs al mo od)).jg) (.req (0+(List.length (ax (ay cs os ks gs bs al mo od)).jf)≤List.length (ax (ay cs os ks gs bs al mo od)).jf) (.req (0+(List.length (ax (ay cs os ks gs bs al mo od)).je)≤List.length (ax (ay cs os ks gs bs al mo od)).je) (.req (0+(List.length (ax (ay cs os ks gs bs al mo od)).jd)≤List.length (ax (ay cs os ks gs bs al mo od)).jd) (.req (0+(List.length (ax (ay cs os ks gs bs al mo od)).jc)≤List.length (ax (ay cs os ks gs bs al mo od)).jc) (.req (0+(List.length (ax (ay cs os ks gs bs al mo od)).dL)≤List.length (ax (ay cs os ks gs bs al mo od)).dL) (.req (0+(List.length (ax (ay cs os ks gs bs al mo od)).dK)≤List.length (ax (ay cs os ks gs bs al mo od)).dK) (.req (0+(List.length (ax (ay cs os ks gs bs al mo od)).dJ)≤List.length (ax (ay cs os ks gs bs al mo od)).dJ) (.req (0+(List.length (ax (ay cs os ks gs bs al mo od)).dI)≤List.length (ax (ay cs os ks gs bs al mo od)).dI) (.req (0+(List.length (ax (ay cs os ks gs bs al mo od)).dH)≤List.length (ax (ay cs os ks gs bs al mo od)).dH) (.req (0+(List.length (ax (ay cs os ks gs bs al mo od)).dG)≤List.length (ax (ay cs os ks gs bs al mo od)).dG) (.rl (ax (ay cs os ks gs bs al mo od)).sums (.rl (List.replicate (List.length al:Int).toNat (0:Int)) (.req (Rf (eY cs os ks gs bs al mo od)) (.req (0≤(List.length gs:Int)∧(List.length gs:Int)≤(List.length gs:Int)∧8*(List.length gs:Int)≤2^48∧(List.length gs:Int)<2^63) (.req (0=0∧(List.length gs:Int).toNat=List.length (List.replicate (List.length gs:Int).toNat (0:Int))) (.rl (iJ (eY cs os ks gs bs al mo od)).sums (.rl (iJ (eY cs os ks gs bs al mo od)).levels (.req (Q9 (fM cs os ks gs bs al mo od)) (.req (0+(List.length (gY (fM cs os ks gs bs al mo od)).out)≤List.length (gY (fM cs os ks gs bs al mo od)).out) (.ok (.gq [.xl (.int .i64) (((gY (fM cs os ks gs bs al mo od)).out.drop 0).take (List.length (gY (fM cs os ks gs bs al mo od)).out)),.v (.int .i64 0)]))))))))))))))))))))))))))))))))))))))))))))))))))) (.br (!true) (.ok (.gq [.xl (.int .i64) ([]:List Int),.v (.int .i64 1)])) (.req ((List.length gs:Int)≤1000) (.br (!(mJ od (List.length gs:Int))) (.ok (.gq [.xl (.int .i64) ([]:List Int),.v (.int .i64 1)])) (.req (0≤(List.length (iy cs os ks gs bs):Int)∧(List.length (iy cs os ks gs bs):Int)≤(List.length (iy cs os ks gs bs):Int)∧8*(List.length (iy cs os ks gs bs):Int)≤2^48∧(List.length (iy cs os ks gs bs):Int)<2^63) (.req (0≤(List.length al:Int)∧(List.length al:Int)≤(List.length al:Int)∧8*(List.length al:Int)≤2^48∧(List.length al:Int)<2^63) (.req (0=0∧0=List.length ([]:List Int)) (.req (0=0∧0=List.length ([]:List Int)) (.req (0=0∧0=List.length ([]:List Int)) (.req (0=0∧0=List.length ([]:List Int)) (.req (0=0∧0=List.length ([]:List Int)) (.req (0=0∧0=List.length ([]:List Int)) (.req (0=0∧0=List.length ([]:List Int)) (.req (0=0∧0=List.length ([]:List Int)) (.req (0=0∧0=List.length ([]:List Int)) (.req (0=0∧0=List.length ([]:List Int)) (.req (0=0∧0=List.length ([]:List Int)) (.req (0=0∧0=List.length ([]:List Int)) (.req (0=0∧0=List.length ([]:List Int)) (.req (0=0∧0=List.length ([]:List Int)) (.req (0=0∧0=List.length ([]:List Int)) (.req (0=0∧0=List.length ([]:List Int)) (.req (0=0∧(List.length (iy cs os ks gs bs):Int).toNat=List.length (List.replicate (List.length (iy cs os ks gs bs):Int).toNat (0:Int))) (.req (0=0∧(List.length al:Int).toNat=List.length (List.replicate (List.length al:Int).toNat (0:Int))) (.req (Rh (ay cs os ks gs bs al mo od)) (.req (0+(List.length (ax (ay cs os ks gs bs al mo od)).jm)≤List.length (ax (ay cs os ks gs bs al mo od)).jm) (.req (0+(List.length (ax (ay cs os ks gs bs al mo od)).jl)≤List.length (ax (ay cs os ks gs bs al mo od)).jl) (.req (0+(List.length (ax (ay cs os ks gs bs al mo od)).jk)≤List.length (ax (ay cs os ks gs bs al mo od)).jk) (.req (0+(List.length (ax (ay cs os ks gs bs al mo od)).ji)≤List.length (ax (ay cs os ks gs bs al mo od)).ji) (.req (0+(List.length (ax (ay cs os ks gs bs al mo od)).jh)≤List.length (ax (ay cs os ks gs bs al mo od)).jh) (.req (0+(List.length (ax (ay cs os ks gs bs al mo od)).jg)≤List.length (ax (ay cs os ks gs bs al mo od)).jg) (.req (0+(List.length (ax (ay cs os ks gs bs al mo od)).jf)≤List.length (ax (ay cs os ks gs bs al mo od)).jf) (.req (0+(List.length (ax (ay cs os ks gs bs al mo od)).je)≤List.length (ax (ay cs os ks gs bs al mo od)).je) (.req (0+(List.length (ax (ay cs os ks gs bs al mo od)).jd)≤List.length (ax (ay cs os ks gs bs al mo od)).jd) (.req (0+(List.length (ax (ay cs os ks gs bs al mo od)).jc)≤List.length (ax (ay cs os ks gs bs al mo od)).jc) (.req (0+(List.length (ax (ay cs os ks gs bs al mo od)).dL)≤List.length (ax (ay cs os ks gs bs al mo od)).dL) (.req (0+(List.length (ax (ay cs os ks gs bs al mo od)).dK)≤List.length (ax (ay cs os ks gs bs al mo od)).dK) (.req (0+(List.length (ax (ay cs os ks gs bs al mo od)).dJ)≤List.length (ax (ay cs os ks gs bs al mo od)).dJ) (.req (0+(List.length (ax (ay cs os ks gs bs al mo od)).dI)≤List.length (ax (ay cs os ks gs bs al mo od)).dI) (.req (0+(List.length (ax (ay cs os ks gs bs al mo od)).dH)≤List.length (ax (ay cs os ks gs bs al mo od)).dH) (.req (0+(List.length (ax (ay cs os ks gs bs al mo od)).dG)≤List.length (ax (ay cs os ks gs bs al mo od)).dG) (.rl (ax (ay cs os ks gs bs al mo od)).sums (.rl (List.replicate (List.length al:Int).toNat (0:Int)) (.req (Rf (eY cs os ks gs bs al mo od)) (.req (0≤(List.length gs:Int)∧(List.length gs:Int)≤(List.length gs:Int)∧8*(List.length gs:Int)≤2^48∧(List.length gs:Int)<2^63) (.req (0=0∧(List.length gs:Int).toNat=List.length (List.replicate (List.length gs:Int).toNat (0:Int))) (.rl (iJ (eY cs os ks gs bs al mo od)).sums (.rl (iJ (eY cs os ks gs bs al mo od)).levels (.req (Q9 (fM cs os ks gs bs al mo od)) (.req (0+(List.length (gY (fM cs os ks gs bs al mo od)).out)≤List.length (gY (fM cs os ks gs bs al mo od)).out) (.ok (.gq [.xl (.int .i64) (((gY (fM cs os ks gs bs al mo od)).out.drop 0).take (List.length (gY (fM cs os ks gs bs al mo od)).out)),.v (.int .i64 0)])))))))))))))))))))))))))))))))))))))))))))))))))))))))))):=by kernel_rfl
theorem V9:Valid Tryz.prog aS 52 y9:=aH Tryz.func52 rfl aji aBe (L:=(fun i=>if i=11 then J9.lp else if i=21 then EK.lp else aC i)) (fun b hb=>by
 rw [show aB _=[Jl,AV] by kernel_rfl] at hb
 simp only [List.mem_cons,List.not_mem_nil,or_false] at hb
 rcases hb with rfl|rfl
 ·exact amx
 ·exact amw) (fun args lv h=>by
 unfold acN at h
 split at h
 ·simp only [canL,canX]
  rw [aou]
  rename_i cs os ks gs bs al mo od
  obtain rfl:=h
  have err:rP cs os ks gs bs al mo od=false→LV.gq [.xl (.int .i64) ([]:List Int),.v (.int .i64 1)]=LV.gq [.xl (.int .i64) (vI cs os ks gs bs al mo od),.v (.int .i64 (shE cs os ks gs bs al mo od))]:=fun h=>by
   unfold vI shE
   rw [h]
   rfl
  have no_:∀ {p:Prop},¬p→(rP cs os ks gs bs al mo od=true→p)→rP cs os ks gs bs al mo od=false:=fun h1 h2=>by
   rw [Bool.eq_false_iff];exact fun h=>h1 (h2 h)
  refine ⟨fun c=>err (no_ (p:=fO cs os ks gs bs=true) (fun h=>?_) (fun h=>(jr.1 h).1)),fun c=>?_⟩
  ·unfold OI at c
   rw [h] at c
   simp at c
  have hv:fO cs os ks gs bs=true:=by
   cases e:fO cs os ks gs bs with
   |true=>rfl
   |false=>unfold OI at c;rw [e] at c;simp at c
  have hl:=(gW.1 hv).1
  refine ⟨fun c2=>err (no_ (p:=al.length=gs.length) (by simp at c2;omega) (fun h=>(jr.1 h).2.1)),fun c2=>?_⟩
  refine ⟨fun c3=>err (no_ (p:=mo.length=gs.length) (by simp at c3;omega) (fun h=>(jr.1 h).2.2.1)),fun c3=>?_⟩
  have c2:al.length=gs.length:=by simp at c2;omega
  have c3:mo.length=gs.length:=by simp at c3;omega
  refine nV ⟨⟨rfl,by simp only;omega,by simp only;omega,rfl⟩,rfl,rfl⟩ (fun hE1=>?_)
  rcases acj _ hE1.1 with ⟨q1,q2⟩ |⟨q1,q2,q3⟩
  rotate_left
  ·rw [q1,q2]
   refine ⟨fun _=>⟨fun _=>err (no_ (p:=al.all uJ=true) (by have q3:al.all uJ=false:=q3;rw [q3];simp) (fun h=>(jr.1 h).2.2.2.1)),fun h=>by cases h⟩,fun h=>by cases h⟩
  rw [q1]
  refine ⟨fun h=>(by cases h),fun _=>⟨fun h=>(by cases h),fun _=>?_⟩⟩
  have q2:al.all uJ=true:=q2
  refine nV ⟨⟨rfl,by simp only;omega,by simp only;omega,rfl⟩,rfl,rfl⟩ (fun hE2=>?_)
  rcases acj _ hE2.1 with ⟨p1,p2⟩ |⟨p1,p2,p3⟩
  rotate_left
  ·rw [p1,p2]
   refine ⟨fun _=>⟨fun _=>err (no_ (p:=mo.all uJ=true) (by have p3:mo.all uJ=false:=p3;rw [p3];simp) (fun h=>(jr.1 h).2.2.2.2.1)),fun h=>by cases h⟩,fun h=>by cases h⟩
  rw [p1]
  refine ⟨fun h=>(by cases h),fun _=>⟨fun h=>(by cases h),fun _=>?_⟩⟩
  have p2:mo.all uJ=true:=p2
  refine ⟨by omega,fun c4=>err (no_ (p:=mJ od (gs.length:Int)=true) (by simp at c4;rw [c4];simp) (fun h=>(jr.1 h).2.2.2.2.2)),fun c4=>?_⟩
  have c4:mJ od (gs.length:Int)=true:=by simpa using c4
  have hok:rP cs os ks gs bs al mo od=true:=jr.2 ⟨hv,c2,c3,q2,p2,c4⟩
  obtain ⟨hT,hS⟩:=aAI hok
  have er:iy cs os ks gs bs=jC cs gs cs.length:=by unfold iy;rw [if_pos hv]
  have hrl:=zJ (cs:=cs) (gs:=gs) (k:=cs.length)
  have hod:od.length=gs.length:=by
   unfold mJ at c4
   simp only [Bool.and_eq_true,decide_eq_true_eq] at c4
   omega
  have hrn:(List.length (iy cs os ks gs bs):Int)≤1000:=by rw [er];omega
  refine ⟨by omega,by omega,⟨rfl,rfl⟩,⟨rfl,rfl⟩,⟨rfl,rfl⟩,⟨rfl,rfl⟩,⟨rfl,rfl⟩,⟨rfl,rfl⟩,⟨rfl,rfl⟩,⟨rfl,rfl⟩,⟨rfl,rfl⟩,⟨rfl,rfl⟩,⟨rfl,rfl⟩,⟨rfl,rfl⟩,⟨rfl,rfl⟩,⟨rfl,rfl⟩,⟨rfl,rfl⟩,⟨rfl,rfl⟩,⟨rfl,by simp⟩,⟨rfl,by simp⟩,?_⟩
  have hN:Oc (ay cs os ks gs bs al mo od):=by
   refine ⟨rfl,fun o ho=>?_,rfl,rfl,hrn,fun r hr=>?_,hT.al,by show List.length (List.replicate _ _)=List.length (iy cs os ks gs bs);simp⟩
   ·simpa [kL,ay] using ho
   ·have hr:r∈jC cs gs cs.length:=by rw [←er];exact hr
    obtain ⟨m1,m2,m3,m4⟩:=row_mem hr
    refine ⟨by omega,fun m hm=>?_⟩
    have:=m2 m hm
    show 0≤m∧m<16∧m<(al.length:Int)
    omega
  obtain ⟨nr1,nr2⟩:=an7 _ hN
  have nr1:kL (ax (ay cs os ks gs bs al mo od))=OL (jC cs gs cs.length):=by rw [nr1,←er];rfl
  have nr2:(ax (ay cs os ks gs bs al mo od)).sums=SM al (jC cs gs cs.length):=by rw [nr2,←er];rfl
  refine ⟨⟨hN,rfl,rfl⟩,by omega,by omega,by omega,by omega,by omega,by omega,by omega,by omega,by omega,by omega,by omega,by omega,by omega,by omega,by omega,by omega,⟨rfl,rfl⟩,⟨rfl,rfl⟩,?_⟩
  have eO:tq (eY cs os ks gs bs al mo od)=kL (ax (ay cs os ks gs bs al mo od)):=by
   unfold tq kL eY
   simp only [List.drop_zero,List.take_length]
  have hSh:adP (eY cs os ks gs bs al mo od):=by
   refine ⟨rfl,by show (od.length:Int)≤1000;omega,rfl,?_,?_⟩
   ·show OkT (tq (eY cs os ks gs bs al mo od)) (iy cs os ks gs bs) gs al mo od
    rw [eO,nr1,er]
    exact hT
   ·show OkS (iy cs os ks gs bs) od (ax (ay cs os ks gs bs al mo od)).sums _
    rw [nr2,er]
    exact hS
  have sr:=anq _ hSh
  have sr:(iJ (eY cs os ks gs bs al mo od)).levels=shV (jC cs gs cs.length) gs al mo od:=by
   rw [sr]
   show shl (tq (eY cs os ks gs bs al mo od)) (iy cs os ks gs bs) gs al mo od 81 1 (ax (ay cs os ks gs bs al mo od)).sums _=_
   rw [eO,nr1,nr2,er]
   rfl
  obtain ⟨sl,sb⟩:=afL hT 81 1 _ _ (by omega) (by omega) hS
  refine ⟨⟨hSh,rfl,rfl⟩,by omega,⟨rfl,by simp⟩,⟨rfl,rfl⟩,⟨rfl,rfl⟩,?_⟩
  have hX:adO (fM cs os ks gs bs al mo od):=by
   refine ⟨rfl,rfl,⟨rfl,by show (gs.length:Int)≤1000;omega,?_⟩,fun k h0 h1=>?_,?_⟩
   ·show (iJ (eY cs os ks gs bs al mo od)).levels.length=gs.length
    rw [sr]
    exact sl.trans (by rw [List.length_replicate];exact c2)
   ·have:=sH hv h0 h1
    unfold Gt chW at this
    simp only [Bool.and_eq_true,dB] at this
    show lU (bn gs k).2.2.2.1 (bn gs k).2.2.2.2.1 (bn gs k).2.2.2.2.2.1=true
    exact eX.2 (by omega)
   ·show ∀k:Nat,0≤(iJ (eY cs os ks gs bs al mo od)).levels.getD k 0∧(iJ (eY cs os ks gs bs al mo od)).levels.getD k 0≤80
    rw [sr]
    exact sb
  refine ⟨⟨hX,rfl,rfl⟩,by omega,?_⟩
  obtain ⟨s',_,_,x2⟩:=anp _ hX
  have x2:(gY (fM cs os ks gs bs al mo od)).out=lV gs (iJ (eY cs os ks gs bs al mo od)).levels:=x2
  show LV.gq [LV.xl _ _,_]=_
  rw [List.drop_zero,List.take_length,x2,sr]
  unfold vI shE
  rw [if_pos hok,if_pos hok]
 ·cases h)
end Go.Proofs.YtlihnbimgclogaaGreatDoor
namespace Go.Proofs.YtlihnbimgclogaaGreatDoor
open Go.Sx
structure nK where
 m:List Ch
 k:Int
 i:Int
 out:List Int
def aEj (s:nK):List LV:=[.os 0 1 0 (List.length s.out),.xl dP s.m,.v (.int .i64 s.k),.v (.int .i64 s.i)]
def aDj (s:nK):List aU:=[⟨[],3,.vec (.int .i64) s.out,false⟩]
noncomputable def BZ:Code:=((aB (Tryz.f72.body.getD .skip))[0]?).getD .skip
def Z9 (s:nK):T (Rd nK):=
 .br (decide (s.i<s.k)) (.req (0≤s.i∧s.i<(List.length s.m:Int)) (.req (0≤s.i∧s.i<((List.length s.out:Nat):Int)) (.req (s.i.toNat<List.length s.out) (.req (0=0∧(List.length s.out)=List.length (s.out.set s.i.toNat (bn s.m s.i).2.2.2.2.2.2.1)) (.ok (.next {s with i:=(IntKind.i64.wrap (s.i+1)),out:=(s.out.set s.i.toNat (bn s.m s.i).2.2.2.2.2.2.1)})))))) (.rl s.out (.ok (.stop (.exit 0) s)))
abbrev atb (s:nK):=(Z9 s).rd s
def aeb (s:nK):Prop:=s.i=0∧s.k=(List.length s.m:Int)∧s.k≤1000∧s.out.length=s.m.length∧(∀j,0≤j→j<s.k→gi s.out j=0)∧True
def NZ (s:nK):Prop:=(0≤s.i∧s.i≤s.k)∧s.k=(List.length s.m:Int)∧s.k≤1000∧s.out.length=s.m.length∧(∀j,0≤j→j<s.k→gi s.out j=if j<s.i then yg (bn s.m j) else 0)∧True
def Qe (s:nK):Nat:=(s.k-s.i).toNat
def aln (x:Ex) (_ s':nK):Prop:=x=.exit 0∧s'.out=rW s'.m.length (fun j=>yg (bn s'.m j))
theorem aB4:∀s,aeb s→NZ s:=by
 intro s h
 obtain ⟨h0,h2,h3,h4,h5,h6⟩:=h
 exact ⟨by omega,h2,h3,h4,fun j j0 j1=>by rw [h5 j j0 j1,if_neg (by omega)],h6⟩
theorem axT (s:nK) (hI:NZ s):bJ (fun s'=>NZ s'∧Qe s'<Qe s) (fun x s'=>aln x s s') (atb s):=by
 unfold atb Z9
 dsimp only [T.rd,T.rl]
 obtain ⟨⟨h0,h1⟩,h2,h3,h4,h5,h6⟩:=hI
 refine au (fun c1=>?_) (fun c1=>?_)
 ·have c1:s.i<s.k:=by simpa using c1
  rw [aK (x:=s.i+1) (by omega) (by omega)]
  refine ⟨⟨⟨by simp only;omega,by simp only;omega⟩,h2,h3,by simp only [List.length_set];exact h4,fun j j0 j1=>?_,h6⟩,by simp only [Qe];omega⟩
  simp only
  have hi:=h5 s.i h0 c1
  rw [if_neg (show ¬s.i<s.i by omega)] at hi
  rw [lg h0 (by rw [h4];omega) j0]
  by_cases e:j=s.i
  ·subst e
   rw [if_pos rfl,if_pos (show s.i<s.i+1 by omega)]
   rfl
  ·rw [if_neg e,h5 j j0 j1]
   by_cases q:j<s.i
   ·rw [if_pos q,if_pos (show j<s.i+1 by omega)]
   ·rw [if_neg q,if_neg (show ¬j<s.i+1 by omega)]
 ·have c1:s.k≤s.i:=by simpa using c1
  refine ⟨rfl,?_⟩
  refine wo (by rw [eU];exact h4) fun j j0 j1=>?_
  rw [eU] at j1
  rw [mF j0 j1,h5 j j0 (by omega),if_pos (show j<s.i by omega)]
def FN:bM nK:=⟨0,31,[3,17,18,19],[],aEj,aDj,fun v b=>⟨aQ dP (v.getD 1 .junk),gI (v.getD 2 .junk),gI (v.getD 3 .junk),iR (.int .i64) (aO b 0)⟩,Z9,fun s r=> {r with m:=s.m,k:=s.k},fun s=>s,fun _ s=>s,[.exit 0],aeb,NZ,Qe⟩
abbrev xh:=FN.run
abbrev aqj:=FN.jJ
abbrev aze:=FN.q
theorem avW (s:nK) (hI:NZ s):(Z9 s).all (fun _=>True):=by
 refine ⟨fun c1=>⟨?_,?_,?_,?_,trivial⟩,fun c1=>⟨⟨rfl,rfl⟩,trivial⟩⟩
 all_goals ((obtain ⟨⟨h0,h1⟩,h2,h3,h4,h5,h6⟩:=hI;(try simp only [decide_eq_true_eq] at c1);first|omega|exact ⟨rfl,by simp⟩ |(omega)))
noncomputable def ajt:Specs:=aZ []
theorem ar5:∀g S,ajt g=some S→Valid Tryz.prog aS g S:=aT (l:=[]) trivial
theorem ah3:FN.Ok:=⟨fun s=>by kernel_rfl,fun s=>by kernel_rfl,fun s=>rfl,fun s t r=>rfl,fun s=>rfl,fun s=>by kernel_rfl⟩
theorem ag0:FN.Pf (aln):=⟨aB4,fun _ _=>rfl,axT,avW⟩
theorem ank:bg Tryz.prog aS (AN 0) (.loop BZ) FN.lp:=bM.snd ah3 ag0 (aP (Γ:=ajt) (K:=dZ) (L:=aC) ar5 aF BZ (fun b hb=>by rw [show aB BZ=[] by kernel_rfl] at hb;cases hb)) (fun s=>by kernel_rfl)
theorem aqB (s:nK) (hE:aeb s):∃s',NZ s'∧aln (aqj s) s' (xh s):=bM.fin ah3 ag0 s hE
def adx:List LV→T LV
 | [.xq 9 q0]=>(match ([q0 0,q0 1,q0 2,q0 3,q0 4,q0 5,q0 6,q0 7,q0 8]:List LV) with
  | [.xl (.pair .str (.pair (.int .i64) (.pair (.int .i64) (.pair (.int .i64) (.pair (.pair (.int .i64) (.int .i64)) (.pair (.int .i64) (.pair (.int .i64) (.pair (.int .i64) (.pair (.int .i64) (.int .i64)))))))))) _,.xl (.str) _,.xl (.pair .str (.pair (.int .i64) (.pair (.int .i64) (.int .i64)))) _,.xl (.pair .str (.pair (.int .i64) (.pair (.int .i64) (.pair (.int .i64) (.pair (.int .i64) (.pair (.int .i64) (.pair (.int .i64) (.int .i64)))))))) gs,.xl (.pair .str (.int .i64)) _,.xl (.pair (.int .i64) (.pair (.int .i64) (.pair (.int .i64) (.pair (.int .i64) (.int .i64))))) _,.xl (.pair .bool (.pair (.int .i64) (.pair (.int .i64) (.int .i64)))) _,.v (.int .i64 _),.xl (.int .i64) _]=> .req ((List.length gs:Int)≤1000) (.ok (.xl (.int .i64) (lu gs)))
  |_=> .no)
 |_=> .no
noncomputable def Y1:List LV→T LV:=gQ Tryz.prog Tryz.f72.params.toList adx
theorem apb (cs:List Cd) (os:List ByteArray) (ks:List Ko) (gs:List Ch) (bs:List Ba) (l:List Le) (d:List Dm) (t:Int) (od:List Int):bV Tryz.prog aS (ajt) dZ (fun i=>if i=3 then FN.lp else aC i) Tryz.f72 [.xq 9 (fun j=>([.xl dU cs,.xl .str os,.xl dV ks,.xl dP gs,.xl dW bs,.xl ig l,.xl pR d,.v (.int .i64 t),.xl (.int .i64) od]:List LV).getD j .junk)]=.req (0≤(List.length gs:Int)∧(List.length gs:Int)≤(List.length gs:Int)∧8*(List.length gs:Int)≤2^48∧(List.length gs:Int)<2^63) (.req (0=0∧(List.length gs:Int).toNat=List.length (List.replicate (List.length gs:Int).toNat (0:Int))) (.req (aze (⟨gs,(List.length gs:Int),(0:Int),(List.replicate (List.length gs:Int).toNat (0:Int))⟩:nK)) (.req (0+(List.length (xh (⟨gs,(List.length gs:Int),(0:Int),(List.replicate (List.length gs:Int).toNat (0:Int))⟩:nK)).out)≤List.length (xh (⟨gs,(List.length gs:Int),(0:Int),(List.replicate (List.length gs:Int).toNat (0:Int))⟩:nK)).out) (.ok (.xl (.int .i64) (((xh (⟨gs,(List.length gs:Int),(0:Int),(List.replicate (List.length gs:Int).toNat (0:Int))⟩:nK)).out.drop 0).take (List.length (xh (⟨gs,(List.length gs:Int),(0:Int),(List.replicate (List.length gs:Int).toNat (0:Int))⟩:nK)).out))))))):=by kernel_rfl
theorem aus:Valid Tryz.prog aS 72 Y1:=aH Tryz.func72 rfl ar5 aF (L:=(fun i=>if i=3 then FN.lp else aC i)) (fun b hb=>by
 rw [show aB _=[BZ] by kernel_rfl] at hb
 simp only [List.mem_cons,List.not_mem_nil,or_false] at hb
 subst hb
 exact ank) (fun args lv h=>by
 unfold adx at h
 split at h
 ·split at h
  case h_2=>cases h
  rename_i heq0
  simp only [canL,canX]
  rw [pq (n:=9) heq0]
  simp only [canL,canX]
  rw [apb]
  rename_i cs os ks gs bs l d t od
  obtain ⟨hn,rfl⟩:=h
  have hE:aeb ⟨gs,(List.length gs:Int),0,List.replicate (List.length gs:Int).toNat 0⟩:=⟨rfl,rfl,hn,by simp,fun j _ _=>qo,trivial⟩
  obtain ⟨_,_,q1,q2⟩:=aqB _ hE
  have q2:(xh ⟨gs,(List.length gs:Int),0,List.replicate (List.length gs:Int).toNat 0⟩).out=lu gs:=q2
  refine ⟨by omega,⟨rfl,by simp⟩,⟨hE,rfl,rfl⟩,by omega,?_⟩
  show LV.xl _ _=_
  rw [List.drop_zero,List.take_length,q2]
 ·cases h)
structure lN where
 cs:List Cd
 os:List ByteArray
 ks:List Ko
 gs:List Ch
 bs:List Ba
 l:List Le
 d:List Dm
 t:Int
 od:List Int
 m:List Ch
 k:Int
 i:Int
 wanted:List Int
def aEe (s:lN):List LV:=[.xq 9 (fun j=>([.xl dU s.cs,.xl .str s.os,.xl dV s.ks,.xl dP s.gs,.xl dW s.bs,.xl ig s.l,.xl pR s.d,.v (.int .i64 s.t),.xl (.int .i64) s.od]:List LV).getD j .junk),.os 0 1 0 (List.length s.wanted),.xl dP s.m,.v (.int .i64 s.k),.v (.int .i64 s.i)]
def aDe (s:lN):List aU:=[⟨[],3,.vec (.int .i64) s.wanted,false⟩]
noncomputable def BU:Code:=((aB (Tryz.f71.body.getD .skip))[0]?).getD .skip
def Z4 (s:lN):T (Rd lN):=
 .br (decide (s.i<s.k)) (.req (0≤s.i∧s.i<(List.length s.m:Int)) (.req (0≤s.i∧s.i<(List.length s.d:Int)) (.br (o8 s.d s.i).1 (.req (0≤s.i∧s.i<((List.length s.wanted:Nat):Int)) (.req (s.i.toNat<List.length s.wanted) (.req (0=0∧(List.length s.wanted)=List.length (s.wanted.set s.i.toNat (bn s.m s.i).2.2.2.2.1)) (.ok (.next {s with i:=(IntKind.i64.wrap (s.i+1)),wanted:=(s.wanted.set s.i.toNat (bn s.m s.i).2.2.2.2.1)}))))) (.rl s.wanted (.ok (.next {s with i:=(IntKind.i64.wrap (s.i+1))})))))) (.rl s.wanted (.ok (.stop (.exit 0) s)))
abbrev as8 (s:lN):=(Z4 s).rd s
def ad7 (s:lN):Prop:=s.i=0∧s.k=(List.length s.m:Int)∧s.k≤1000∧s.wanted.length=s.m.length∧(∀j,0≤j→j<s.k→gi s.wanted j=0)∧s.d.length=s.m.length
def NV (s:lN):Prop:=(0≤s.i∧s.i≤s.k)∧s.k=(List.length s.m:Int)∧s.k≤1000∧s.wanted.length=s.m.length∧(∀j,0≤j→j<s.k→gi s.wanted j=if j<s.i then if (o8 s.d j).1=true then (bn s.m j).2.2.2.2.1 else 0 else 0)∧s.d.length=s.m.length
def Ik (s:lN):Nat:=(s.k-s.i).toNat
def alj (x:Ex) (_ s':lN):Prop:=x=.exit 0∧s'.wanted=rW s'.m.length (fun j=>if (o8 s'.d j).1=true then (bn s'.m j).2.2.2.2.1 else 0)
theorem aBX:∀s,ad7 s→NV s:=by
 intro s h
 obtain ⟨h0,h2,h3,h4,h5,h6⟩:=h
 exact ⟨by omega,h2,h3,h4,fun j j0 j1=>by rw [h5 j j0 j1,if_neg (by omega)],h6⟩
theorem axK (s:lN) (hI:NV s):bJ (fun s'=>NV s'∧Ik s'<Ik s) (fun x s'=>alj x s s') (as8 s):=by
 unfold as8 Z4
 dsimp only [T.rd,T.rl]
 obtain ⟨⟨h0,h1⟩,h2,h3,h4,h5,h6⟩:=hI
 refine au (fun c1=>?_) (fun c1=>?_)
 ·refine au (fun c2=>?_) (fun c2=>?_)
  ·have c1:s.i<s.k:=by simpa using c1
   rw [aK (x:=s.i+1) (by omega) (by omega)]
   refine ⟨⟨⟨by simp only;omega,by simp only;omega⟩,h2,h3,by simp only [List.length_set];exact h4,fun j j0 j1=>?_,h6⟩,by simp only [Ik];omega⟩
   simp only
   have hi:=h5 s.i h0 c1
   rw [if_neg (show ¬s.i<s.i by omega)] at hi
   rw [lg h0 (by rw [h4];omega) j0]
   by_cases e:j=s.i
   ·subst e
    rw [if_pos rfl,if_pos (show s.i<s.i+1 by omega)]
    first|(rw [if_pos (by simpa using c2)]) |(rw [if_neg (by simpa using c2)])
   ·rw [if_neg e,h5 j j0 j1]
    by_cases q:j<s.i
    ·rw [if_pos q,if_pos (show j<s.i+1 by omega)]
    ·rw [if_neg q,if_neg (show ¬j<s.i+1 by omega)]
  ·have c1:s.i<s.k:=by simpa using c1
   rw [aK (x:=s.i+1) (by omega) (by omega)]
   refine ⟨⟨⟨by simp only;omega,by simp only;omega⟩,h2,h3,h4,fun j j0 j1=>?_,h6⟩,by simp only [Ik];omega⟩
   simp only
   have hi:=h5 s.i h0 c1
   rw [if_neg (show ¬s.i<s.i by omega)] at hi
   rw [h5 j j0 j1]
   by_cases e:j=s.i
   ·subst e
    rw [if_neg (show ¬s.i<s.i by omega),if_pos (show s.i<s.i+1 by omega)]
    first|(rw [if_pos (by simpa using c2)]) |(rw [if_neg (by simpa using c2)])
   ·by_cases q:j<s.i
    ·rw [if_pos q,if_pos (show j<s.i+1 by omega)]
    ·rw [if_neg q,if_neg (show ¬j<s.i+1 by omega)]
 ·have c1:s.k≤s.i:=by simpa using c1
  refine ⟨rfl,?_⟩
  refine wo (by rw [eU];exact h4) fun j j0 j1=>?_
  rw [eU] at j1
  rw [mF j0 j1,h5 j j0 (by omega),if_pos (show j<s.i by omega)]
def FI:bM lN:=⟨0,53,[0,4,18,19,20],[],aEe,aDe,fun v b=>⟨aQ dU (ng (v.getD 0 .junk) 0),aQ .str (ng (v.getD 0 .junk) 1),aQ dV (ng (v.getD 0 .junk) 2),aQ dP (ng (v.getD 0 .junk) 3),aQ dW (ng (v.getD 0 .junk) 4),aQ ig (ng (v.getD 0 .junk) 5),aQ pR (ng (v.getD 0 .junk) 6),gI (ng (v.getD 0 .junk) 7),aQ (.int .i64) (ng (v.getD 0 .junk) 8),aQ dP (v.getD 2 .junk),gI (v.getD 3 .junk),gI (v.getD 4 .junk),iR (.int .i64) (aO b 0)⟩,Z4,fun s r=> {r with cs:=s.cs,os:=s.os,ks:=s.ks,gs:=s.gs,bs:=s.bs,l:=s.l,d:=s.d,t:=s.t,od:=s.od,m:=s.m,k:=s.k},fun s=>s,fun _ s=>s,[.exit 0],ad7,NV,Ik⟩
abbrev qU:=FI.run
abbrev aqg:=FI.jJ
abbrev ay9:=FI.q
theorem avR (s:lN) (hI:NV s):(Z4 s).all (fun _=>True):=by
 refine ⟨fun c1=>⟨?_,?_,fun c2=>⟨?_,?_,?_,trivial⟩,fun c2=>⟨⟨rfl,rfl⟩,trivial⟩⟩,fun c1=>⟨⟨rfl,rfl⟩,trivial⟩⟩
 all_goals ((obtain ⟨⟨h0,h1⟩,h2,h3,h4,h5,h6⟩:=hI;(try simp only [decide_eq_true_eq] at c1);first|omega|exact ⟨rfl,by simp⟩ |(omega)))
noncomputable def ajs:Specs:=aZ [(52,y9),(72,Y1)]
theorem ar4:∀g S,ajs g=some S→Valid Tryz.prog aS g S:=aT (l:=[(52,y9),(72,Y1)]) ⟨V9,aus,trivial⟩
theorem ahZ:FI.Ok:=⟨fun s=>by kernel_rfl,fun s=>by kernel_rfl,fun s=>rfl,fun s t r=>rfl,fun s=>rfl,fun s=>by kernel_rfl⟩
theorem agW:FI.Pf (alj):=⟨aBX,fun _ _=>rfl,axK,avR⟩
theorem anf:bg Tryz.prog aS (AN 0) (.loop BU) FI.lp:=bM.snd ahZ agW (aP (Γ:=ajs) (K:=dZ) (L:=aC) ar4 aF BU (fun b hb=>by rw [show aB BU=[] by kernel_rfl] at hb;cases hb)) (fun s=>by kernel_rfl)
theorem aqu (s:lN) (hE:ad7 s):∃s',NV s'∧alj (aqg s) s' (qU s):=bM.fin ahZ agW s hE
def adt:List LV→T LV
 | [.xq 9 q0]=>(match ([q0 0,q0 1,q0 2,q0 3,q0 4,q0 5,q0 6,q0 7,q0 8]:List LV) with
  | [.xl (.pair .str (.pair (.int .i64) (.pair (.int .i64) (.pair (.int .i64) (.pair (.pair (.int .i64) (.int .i64)) (.pair (.int .i64) (.pair (.int .i64) (.pair (.int .i64) (.pair (.int .i64) (.int .i64)))))))))) cs,.xl (.str) os,.xl (.pair .str (.pair (.int .i64) (.pair (.int .i64) (.int .i64)))) ks,.xl (.pair .str (.pair (.int .i64) (.pair (.int .i64) (.pair (.int .i64) (.pair (.int .i64) (.pair (.int .i64) (.pair (.int .i64) (.int .i64)))))))) gs,.xl (.pair .str (.int .i64)) bs,.xl (.pair (.int .i64) (.pair (.int .i64) (.pair (.int .i64) (.pair (.int .i64) (.int .i64))))) _,.xl (.pair .bool (.pair (.int .i64) (.pair (.int .i64) (.int .i64)))) d,.v (.int .i64 _),.xl (.int .i64) od]=> .req ((List.length gs:Int)≤1000∧d.length=gs.length) (.ok (.gq [.xl (.int .i64) (vI cs os ks gs bs (lu gs) (oC gs d) od),.v (.int .i64 (shE cs os ks gs bs (lu gs) (oC gs d) od))]))
  |_=> .no)
 |_=> .no
noncomputable def YX:List LV→T LV:=gQ Tryz.prog Tryz.f71.params.toList adt
theorem ao7 (cs:List Cd) (os:List ByteArray) (ks:List Ko) (gs:List Ch) (bs:List Ba) (l:List Le) (d:List Dm) (t:Int) (od:List Int):bV Tryz.prog aS (ajs) dZ (fun i=>if i=3 then FI.lp else aC i) Tryz.f71 [.xq 9 (fun j=>([.xl dU cs,.xl .str os,.xl dV ks,.xl dP gs,.xl dW bs,.xl ig l,.xl pR d,.v (.int .i64 t),.xl (.int .i64) od]:List LV).getD j .junk)]=.req (0≤(List.length gs:Int)∧(List.length gs:Int)≤(List.length gs:Int)∧8*(List.length gs:Int)≤2^48∧(List.length gs:Int)<2^63) (.req (0=0∧(List.length gs:Int).toNat=List.length (List.replicate (List.length gs:Int).toNat (0:Int))) (.req (ay9 (⟨cs,os,ks,gs,bs,l,d,t,od,gs,(List.length gs:Int),(0:Int),(List.replicate (List.length gs:Int).toNat (0:Int))⟩:lN)) (.req ((List.length gs:Int)≤1000) (.req (0+(List.length (qU (⟨cs,os,ks,gs,bs,l,d,t,od,gs,(List.length gs:Int),(0:Int),(List.replicate (List.length gs:Int).toNat (0:Int))⟩:lN)).wanted)≤List.length (qU (⟨cs,os,ks,gs,bs,l,d,t,od,gs,(List.length gs:Int),(0:Int),(List.replicate (List.length gs:Int).toNat (0:Int))⟩:lN)).wanted) (.ok (.gq [.xl (.int .i64) (vI cs os ks gs bs (lu gs) (((qU (⟨cs,os,ks,gs,bs,l,d,t,od,gs,(List.length gs:Int),(0:Int),(List.replicate (List.length gs:Int).toNat (0:Int))⟩:lN)).wanted.drop 0).take (List.length (qU (⟨cs,os,ks,gs,bs,l,d,t,od,gs,(List.length gs:Int),(0:Int),(List.replicate (List.length gs:Int).toNat (0:Int))⟩:lN)).wanted)) od),.v (.int .i64 (shE cs os ks gs bs (lu gs) (((qU (⟨cs,os,ks,gs,bs,l,d,t,od,gs,(List.length gs:Int),(0:Int),(List.replicate (List.length gs:Int).toNat (0:Int))⟩:lN)).wanted.drop 0).take (List.length (qU (⟨cs,os,ks,gs,bs,l,d,t,od,gs,(List.length gs:Int),(0:Int),(List.replicate (List.length gs:Int).toNat (0:Int))⟩:lN)).wanted)) od))])))))):=by kernel_rfl
theorem aup:Valid Tryz.prog aS 71 YX:=aH Tryz.func71 rfl ar4 aF (L:=(fun i=>if i=3 then FI.lp else aC i)) (fun b hb=>by
 rw [show aB _=[BU] by kernel_rfl] at hb
 simp only [List.mem_cons,List.not_mem_nil,or_false] at hb
 subst hb
 exact anf) (fun args lv h=>by
 unfold adt at h
 split at h
 ·split at h
  case h_2=>cases h
  rename_i heq0
  simp only [canL,canX]
  rw [pq (n:=9) heq0]
  simp only [canL,canX]
  rw [ao7]
  rename_i cs os ks gs bs l d t od
  obtain ⟨⟨hn,hd⟩,rfl⟩:=h
  have hE:ad7 ⟨cs,os,ks,gs,bs,l,d,t,od,gs,(List.length gs:Int),0,List.replicate (List.length gs:Int).toNat 0⟩:=⟨rfl,rfl,hn,by simp,fun j _ _=>qo,hd⟩
  obtain ⟨_,_,q1,q2⟩:=aqu _ hE
  have q2:(qU ⟨cs,os,ks,gs,bs,l,d,t,od,gs,(List.length gs:Int),0,List.replicate (List.length gs:Int).toNat 0⟩).wanted=oC gs d:=q2
  refine ⟨by omega,⟨rfl,by simp⟩,⟨hE,rfl,rfl⟩,hn,by omega,?_⟩
  show LV.gq [LV.xl _ _,_]=_
  rw [List.drop_zero,List.take_length,q2]
 ·cases h)
structure kz where
 m:List Ch
 k:Int
 i:Int
 out:List Int
def aEh (s:kz):List LV:=[.os 0 1 0 (List.length s.out),.xl dP s.m,.v (.int .i64 s.k),.v (.int .i64 s.i)]
def aDh (s:kz):List aU:=[⟨[],3,.vec (.int .i64) s.out,false⟩]
noncomputable def UW:Code:=((aB (Tryz.f72.body.getD .skip))[0]?).getD .skip
def Z7 (s:kz):T (Rd kz):=
 .br (decide (s.i<s.k)) (.req (0≤s.i∧s.i<(List.length s.m:Int)) (.req (0≤s.i∧s.i<((List.length s.out:Nat):Int)) (.req (s.i.toNat<List.length s.out) (.req (0=0∧(List.length s.out)=List.length (s.out.set s.i.toNat (bn s.m s.i).2.2.2.2.2.2.1)) (.ok (.next {s with i:=(IntKind.i64.wrap (s.i+1)),out:=(s.out.set s.i.toNat (bn s.m s.i).2.2.2.2.2.2.1)})))))) (.rl s.out (.ok (.stop (.exit 0) s)))
abbrev ata (s:kz):=(Z7 s).rd s
def aea (s:kz):Prop:=s.i=0∧s.k=(List.length s.m:Int)∧s.k≤1000∧s.out.length=s.m.length∧(∀j,0≤j→j<s.k→gi s.out j=0)∧True
def NY (s:kz):Prop:=(0≤s.i∧s.i≤s.k)∧s.k=(List.length s.m:Int)∧s.k≤1000∧s.out.length=s.m.length∧(∀j,0≤j→j<s.k→gi s.out j=if j<s.i then yg (bn s.m j) else 0)∧True
def Qd (s:kz):Nat:=(s.k-s.i).toNat
def alm (x:Ex) (_ s':kz):Prop:=x=.exit 0∧s'.out=rW s'.m.length (fun j=>yg (bn s'.m j))
theorem aB0:∀s,aea s→NY s:=by
 intro s h
 obtain ⟨h0,h2,h3,h4,h5,h6⟩:=h
 exact ⟨by omega,h2,h3,h4,fun j j0 j1=>by rw [h5 j j0 j1,if_neg (by omega)],h6⟩
theorem axN (s:kz) (hI:NY s):bJ (fun s'=>NY s'∧Qd s'<Qd s) (fun x s'=>alm x s s') (ata s):=by
 unfold ata Z7
 dsimp only [T.rd,T.rl]
 obtain ⟨⟨h0,h1⟩,h2,h3,h4,h5,h6⟩:=hI
 refine au (fun c1=>?_) (fun c1=>?_)
 ·have c1:s.i<s.k:=by simpa using c1
  rw [aK (x:=s.i+1) (by omega) (by omega)]
  refine ⟨⟨⟨by simp only;omega,by simp only;omega⟩,h2,h3,by simp only [List.length_set];exact h4,fun j j0 j1=>?_,h6⟩,by simp only [Qd];omega⟩
  simp only
  have hi:=h5 s.i h0 c1
  rw [if_neg (show ¬s.i<s.i by omega)] at hi
  rw [lg h0 (by rw [h4];omega) j0]
  by_cases e:j=s.i
  ·subst e
   rw [if_pos rfl,if_pos (show s.i<s.i+1 by omega)]
   rfl
  ·rw [if_neg e,h5 j j0 j1]
   by_cases q:j<s.i
   ·rw [if_pos q,if_pos (show j<s.i+1 by omega)]
   ·rw [if_neg q,if_neg (show ¬j<s.i+1 by omega)]
 ·have c1:s.k≤s.i:=by simpa using c1
  refine ⟨rfl,?_⟩
  refine wo (by rw [eU];exact h4) fun j j0 j1=>?_
  rw [eU] at j1
  rw [mF j0 j1,h5 j j0 (by omega),if_pos (show j<s.i by omega)]
def Ky:bM kz:=⟨0,31,[3,17,18,19],[],aEh,aDh,fun v b=>⟨aQ dP (v.getD 1 .junk),gI (v.getD 2 .junk),gI (v.getD 3 .junk),iR (.int .i64) (aO b 0)⟩,Z7,fun s r=> {r with m:=s.m,k:=s.k},fun s=>s,fun _ s=>s,[.exit 0],aea,NY,Qd⟩
abbrev kT:=Ky.run
abbrev aqi:=Ky.jJ
abbrev azc:=Ky.q
noncomputable def Af:Specs:=aZ [(52,y9),(66,Y6),(71,YX)]
theorem Ed:∀g S,Af g=some S→Valid Tryz.prog aS g S:=aT (l:=[(52,y9),(66,Y6),(71,YX)]) ⟨V9,auy,aup,trivial⟩
noncomputable def ai3:Hand:=inl Tryz.prog aS Af (lX Tryz.prog aS (Af) 20 2) 9
theorem arF:dF Tryz.prog aS ai3:=bQ Ed (dQ Ed) 9
theorem avU (s:kz) (hI:NY s):(Z7 s).all (fun _=>True):=by
 refine ⟨fun c1=>⟨?_,?_,?_,?_,trivial⟩,fun c1=>⟨⟨rfl,rfl⟩,trivial⟩⟩
 all_goals ((obtain ⟨⟨h0,h1⟩,h2,h3,h4,h5,h6⟩:=hI;(try simp only [decide_eq_true_eq] at c1);first|omega|exact ⟨rfl,by simp⟩ |(omega)))
theorem ah2:Ky.Ok:=⟨fun s=>by kernel_rfl,fun s=>by kernel_rfl,fun s=>rfl,fun s t r=>rfl,fun s=>rfl,fun s=>by kernel_rfl⟩
theorem agZ:Ky.Pf (alm):=⟨aB0,fun _ _=>rfl,axN,avU⟩
theorem ani:bg Tryz.prog aS (AN 0) (.loop UW) Ky.lp:=bM.snd ah2 agZ (bF (Γ:=Af) (K:=ai3) (L:=(tN Tryz.prog aS Af ai3 20 2)) Ed arF UW (fun b _=>dR Ed arF 20 2 b)) (fun s=>by kernel_rfl)
theorem aqx (s:kz) (hE:aea s):∃s',NY s'∧alm (aqi s) s' (kT s):=bM.fin ah2 agZ s hE
structure lQ where
 cs:List Cd
 os:List ByteArray
 ks:List Ko
 gs:List Ch
 bs:List Ba
 l:List Le
 d:List Dm
 t:Int
 od:List Int
 targets:List Int
 m:List Int
 k:Int
 i:Int
 alive:List Int
def aEf (s:lQ):List LV:=[.xq 9 (fun j=>([.xl dU s.cs,.xl .str s.os,.xl dV s.ks,.xl dP s.gs,.xl dW s.bs,.xl ig s.l,.xl pR s.d,.v (.int .i64 s.t),.xl (.int .i64) s.od]:List LV).getD j .junk),.xl (.int .i64) s.targets,.os 0 1 0 (List.length s.alive),.xl (.int .i64) s.m,.v (.int .i64 s.k),.v (.int .i64 s.i)]
def aDf (s:lQ):List aU:=[⟨[],3,.vec (.int .i64) s.alive,false⟩]
noncomputable def BV:Code:=((aB (Tryz.f36.body.getD .skip))[0]?).getD .skip
def Z5 (s:lQ):T (Rd lQ):=
 .br (decide (s.i<s.k)) (.req (0≤s.i∧s.i<(List.length s.m:Int)) (.req (0≤s.i∧s.i<((List.length s.alive:Nat):Int)) (.req (s.i.toNat<List.length s.alive) (.req (0≤s.i∧s.i<((List.length s.alive:Nat):Int)) (.req (s.i.toNat<List.length s.alive) (.req (0=0∧(List.length s.alive)=List.length (s.alive.set s.i.toNat (if (s.alive.getD s.i.toNat (Ty.dflt (.int .i64)))<(gi s.m s.i) then (gi s.m s.i) else (s.alive.getD s.i.toNat (Ty.dflt (.int .i64)))))) (.ok (.next {s with i:=(IntKind.i64.wrap (s.i+1)),alive:=(s.alive.set s.i.toNat (if (s.alive.getD s.i.toNat (Ty.dflt (.int .i64)))<(gi s.m s.i) then (gi s.m s.i) else (s.alive.getD s.i.toNat (Ty.dflt (.int .i64)))))})))))))) (.rl s.alive (.ok (.stop (.exit 0) s)))
abbrev as9 (s:lQ):=(Z5 s).rd s
def ad8 (s:lQ):Prop:=s.i=0∧s.k=(List.length s.m:Int)∧s.k≤1000∧s.alive.length=s.m.length∧(∀j,0≤j→j<s.k→gi s.alive j=yg (bn s.gs j))∧True
def NW (s:lQ):Prop:=(0≤s.i∧s.i≤s.k)∧s.k=(List.length s.m:Int)∧s.k≤1000∧s.alive.length=s.m.length∧(∀j,0≤j→j<s.k→gi s.alive j=if j<s.i then mx (yg (bn s.gs j)) (gi s.m j) else yg (bn s.gs j))∧True
def Qb (s:lQ):Nat:=(s.k-s.i).toNat
def alk (x:Ex) (_ s':lQ):Prop:=x=.exit 0∧s'.alive=rW s'.m.length (fun j=>mx (yg (bn s'.gs j)) (gi s'.m j))
theorem aBY:∀s,ad8 s→NW s:=by
 intro s h
 obtain ⟨h0,h2,h3,h4,h5,h6⟩:=h
 exact ⟨by omega,h2,h3,h4,fun j j0 j1=>by rw [h5 j j0 j1,if_neg (by omega)],h6⟩
theorem axL (s:lQ) (hI:NW s):bJ (fun s'=>NW s'∧Qb s'<Qb s) (fun x s'=>alk x s s') (as9 s):=by
 unfold as9 Z5
 dsimp only [T.rd,T.rl]
 obtain ⟨⟨h0,h1⟩,h2,h3,h4,h5,h6⟩:=hI
 refine au (fun c1=>?_) (fun c1=>?_)
 ·have c1:s.i<s.k:=by simpa using c1
  rw [aK (x:=s.i+1) (by omega) (by omega)]
  refine ⟨⟨⟨by simp only;omega,by simp only;omega⟩,h2,h3,by simp only [List.length_set];exact h4,fun j j0 j1=>?_,h6⟩,by simp only [Qb];omega⟩
  simp only
  have hi:=h5 s.i h0 c1
  rw [if_neg (show ¬s.i<s.i by omega)] at hi
  rw [lg h0 (by rw [h4];omega) j0]
  by_cases e:j=s.i
  ·subst e
   rw [if_pos rfl,if_pos (show s.i<s.i+1 by omega)]
   show mx (gi s.alive s.i) (gi s.m s.i)=_
   rw [hi]
  ·rw [if_neg e,h5 j j0 j1]
   by_cases q:j<s.i
   ·rw [if_pos q,if_pos (show j<s.i+1 by omega)]
   ·rw [if_neg q,if_neg (show ¬j<s.i+1 by omega)]
 ·have c1:s.k≤s.i:=by simpa using c1
  refine ⟨rfl,?_⟩
  refine wo (by rw [eU];exact h4) fun j j0 j1=>?_
  rw [eU] at j1
  rw [mF j0 j1,h5 j j0 (by omega),if_pos (show j<s.i by omega)]
def FK:bM lQ:=⟨0,71,[0,4,7,41,42,43],[],aEf,aDf,fun v b=>⟨aQ dU (ng (v.getD 0 .junk) 0),aQ .str (ng (v.getD 0 .junk) 1),aQ dV (ng (v.getD 0 .junk) 2),aQ dP (ng (v.getD 0 .junk) 3),aQ dW (ng (v.getD 0 .junk) 4),aQ ig (ng (v.getD 0 .junk) 5),aQ pR (ng (v.getD 0 .junk) 6),gI (ng (v.getD 0 .junk) 7),aQ (.int .i64) (ng (v.getD 0 .junk) 8),aQ (.int .i64) (v.getD 1 .junk),aQ (.int .i64) (v.getD 3 .junk),gI (v.getD 4 .junk),gI (v.getD 5 .junk),iR (.int .i64) (aO b 0)⟩,Z5,fun s r=> {r with cs:=s.cs,os:=s.os,ks:=s.ks,gs:=s.gs,bs:=s.bs,l:=s.l,d:=s.d,t:=s.t,od:=s.od,targets:=s.targets,m:=s.m,k:=s.k},fun s=>s,fun _ s=>s,[.exit 0],ad8,NW,Qb⟩
abbrev qV:=FK.run
abbrev aqh:=FK.jJ
abbrev aza:=FK.q
theorem avS (s:lQ) (hI:NW s):(Z5 s).all (fun _=>True):=by
 refine ⟨fun c1=>⟨?_,?_,?_,?_,?_,?_,trivial⟩,fun c1=>⟨⟨rfl,rfl⟩,trivial⟩⟩
 all_goals ((obtain ⟨⟨h0,h1⟩,h2,h3,h4,h5,h6⟩:=hI;(try simp only [decide_eq_true_eq] at c1);first|omega|exact ⟨rfl,by simp⟩ |(omega)))
noncomputable def ai2:Hand:=inl Tryz.prog aS Af (kD 72 0 3 (Ky.lp) (lX Tryz.prog aS (Af) 20 2)) 9
theorem arE:dF Tryz.prog aS ai2:=bQ Ed (dM Tryz.func72 rfl (by kernel_rfl) ani (dQ Ed)) 9
theorem ah0:FK.Ok:=⟨fun s=>by kernel_rfl,fun s=>by kernel_rfl,fun s=>rfl,fun s t r=>rfl,fun s=>rfl,fun s=>by kernel_rfl⟩
theorem agX:FK.Pf (alk):=⟨aBY,fun _ _=>rfl,axL,avS⟩
theorem ang:bg Tryz.prog aS (AN 0) (.loop BV) FK.lp:=bM.snd ah0 agX (aP (Γ:=Af) (K:=ai2) (L:=aC) Ed arE BV (fun b hb=>by rw [show aB BV=[] by kernel_rfl] at hb;cases hb)) (fun s=>by kernel_rfl)
theorem aqv (s:lQ) (hE:ad8 s):∃s',NW s'∧alk (aqh s) s' (qV s):=bM.fin ah0 agX s hE
def adu:List LV→T LV
 | [.xq 9 q0]=>(match ([q0 0,q0 1,q0 2,q0 3,q0 4,q0 5,q0 6,q0 7,q0 8]:List LV) with
  | [.xl (.pair .str (.pair (.int .i64) (.pair (.int .i64) (.pair (.int .i64) (.pair (.pair (.int .i64) (.int .i64)) (.pair (.int .i64) (.pair (.int .i64) (.pair (.int .i64) (.pair (.int .i64) (.int .i64)))))))))) cs,.xl (.str) os,.xl (.pair .str (.pair (.int .i64) (.pair (.int .i64) (.int .i64)))) ks,.xl (.pair .str (.pair (.int .i64) (.pair (.int .i64) (.pair (.int .i64) (.pair (.int .i64) (.pair (.int .i64) (.pair (.int .i64) (.int .i64)))))))) gs,.xl (.pair .str (.int .i64)) bs,.xl (.pair (.int .i64) (.pair (.int .i64) (.pair (.int .i64) (.pair (.int .i64) (.int .i64))))) l,.xl (.pair .bool (.pair (.int .i64) (.pair (.int .i64) (.int .i64)))) d,.v (.int .i64 t),.xl (.int .i64) od]=> .req (d.length=gs.length∧rP cs os ks gs bs (lu gs) (oC gs d) od=true∧DT l (List.length gs:Int) t=true∧rP cs os ks gs bs (F5 gs l t) (vI cs os ks gs bs (lu gs) (oC gs d) od) od=true) (.ok (.gq [.xl (.int .i64) (OV cs os ks gs bs l d t od),.v (.int .i64 0)]))
  |_=> .no)
 |_=> .no
noncomputable def YZ:List LV→T LV:=gQ Tryz.prog Tryz.f36.params.toList adu
theorem ao8 (cs:List Cd) (os:List ByteArray) (ks:List Ko) (gs:List Ch) (bs:List Ba) (l:List Le) (d:List Dm) (t:Int) (od:List Int):bV Tryz.prog aS (Af) ai2 (fun i=>if i=9 then FK.lp else aC i) Tryz.f36 [.xq 9 (fun j=>([.xl dU cs,.xl .str os,.xl dV ks,.xl dP gs,.xl dW bs,.xl ig l,.xl pR d,.v (.int .i64 t),.xl (.int .i64) od]:List LV).getD j .junk)]=.req ((List.length gs:Int)≤1000∧d.length=gs.length) (.br ((shE cs os ks gs bs (lu gs) (oC gs d) od) !=0) (.ok (.gq [.xl (.int .i64) ([]:List Int),.v (.int .i64 (shE cs os ks gs bs (lu gs) (oC gs d) od))])) (.br ((U2 l (List.length gs:Int) t) !=0) (.ok (.gq [.xl (.int .i64) ([]:List Int),.v (.int .i64 (U2 l (List.length gs:Int) t))])) (.req (0≤(List.length gs:Int)∧(List.length gs:Int)≤(List.length gs:Int)∧8*(List.length gs:Int)≤2^48∧(List.length gs:Int)<2^63) (.req (0=0∧(List.length gs:Int).toNat=List.length (List.replicate (List.length gs:Int).toNat (0:Int))) (.req (azc (⟨gs,(List.length gs:Int),(0:Int),(List.replicate (List.length gs:Int).toNat (0:Int))⟩:kz)) (.rl (kT (⟨gs,(List.length gs:Int),(0:Int),(List.replicate (List.length gs:Int).toNat (0:Int))⟩:kz)).out (.req (aza (⟨cs,os,ks,gs,bs,l,d,t,od,(vI cs os ks gs bs (lu gs) (oC gs d) od),(oO l (List.length gs:Int) t),(List.length (oO l (List.length gs:Int) t):Int),(0:Int),(kT (⟨gs,(List.length gs:Int),(0:Int),(List.replicate (List.length gs:Int).toNat (0:Int))⟩:kz)).out⟩:lQ)) (.req (0+(List.length (qV (⟨cs,os,ks,gs,bs,l,d,t,od,(vI cs os ks gs bs (lu gs) (oC gs d) od),(oO l (List.length gs:Int) t),(List.length (oO l (List.length gs:Int) t):Int),(0:Int),(kT (⟨gs,(List.length gs:Int),(0:Int),(List.replicate (List.length gs:Int).toNat (0:Int))⟩:kz)).out⟩:lQ)).alive)≤List.length (qV (⟨cs,os,ks,gs,bs,l,d,t,od,(vI cs os ks gs bs (lu gs) (oC gs d) od),(oO l (List.length gs:Int) t),(List.length (oO l (List.length gs:Int) t):Int),(0:Int),(kT (⟨gs,(List.length gs:Int),(0:Int),(List.replicate (List.length gs:Int).toNat (0:Int))⟩:kz)).out⟩:lQ)).alive) (.ok (.gq [.xl (.int .i64) (vI cs os ks gs bs (((qV (⟨cs,os,ks,gs,bs,l,d,t,od,(vI cs os ks gs bs (lu gs) (oC gs d) od),(oO l (List.length gs:Int) t),(List.length (oO l (List.length gs:Int) t):Int),(0:Int),(kT (⟨gs,(List.length gs:Int),(0:Int),(List.replicate (List.length gs:Int).toNat (0:Int))⟩:kz)).out⟩:lQ)).alive.drop 0).take (List.length (qV (⟨cs,os,ks,gs,bs,l,d,t,od,(vI cs os ks gs bs (lu gs) (oC gs d) od),(oO l (List.length gs:Int) t),(List.length (oO l (List.length gs:Int) t):Int),(0:Int),(kT (⟨gs,(List.length gs:Int),(0:Int),(List.replicate (List.length gs:Int).toNat (0:Int))⟩:kz)).out⟩:lQ)).alive)) (vI cs os ks gs bs (lu gs) (oC gs d) od) od),.v (.int .i64 (shE cs os ks gs bs (((qV (⟨cs,os,ks,gs,bs,l,d,t,od,(vI cs os ks gs bs (lu gs) (oC gs d) od),(oO l (List.length gs:Int) t),(List.length (oO l (List.length gs:Int) t):Int),(0:Int),(kT (⟨gs,(List.length gs:Int),(0:Int),(List.replicate (List.length gs:Int).toNat (0:Int))⟩:kz)).out⟩:lQ)).alive.drop 0).take (List.length (qV (⟨cs,os,ks,gs,bs,l,d,t,od,(vI cs os ks gs bs (lu gs) (oC gs d) od),(oO l (List.length gs:Int) t),(List.length (oO l (List.length gs:Int) t):Int),(0:Int),(kT (⟨gs,(List.length gs:Int),(0:Int),(List.replicate (List.length gs:Int).toNat (0:Int))⟩:kz)).out⟩:lQ)).alive)) (vI cs os ks gs bs (lu gs) (oC gs d) od) od))])))))))))):=by kernel_rfl
theorem auq:Valid Tryz.prog aS 36 YZ:=aH Tryz.func36 rfl Ed arE (L:=(fun i=>if i=9 then FK.lp else aC i)) (fun b hb=>by
 rw [show aB _=[BV] by kernel_rfl] at hb
 simp only [List.mem_cons,List.not_mem_nil,or_false] at hb
 subst hb
 exact ang) (fun args lv h=>by
 unfold adu at h
 split at h
 ·split at h
  case h_2=>cases h
  rename_i heq0
  simp only [canL,canX]
  rw [pq (n:=9) heq0]
  simp only [canL,canX]
  rw [ao8]
  rename_i cs os ks gs bs l d t od
  obtain ⟨⟨hd,hk,hv,hk2⟩,rfl⟩:=h
  have gl:=(gW.1 (jr.1 hk).1).1.2.2.2.2.1
  have ea:oO l (List.length gs:Int) t=QV gs.length l t:=by unfold oO;rw [if_pos hv,Int.toNat_natCast]
  rw [afQ hk,show U2 l (List.length gs:Int) t=0 by unfold U2;rw [if_pos hv]]
  refine ⟨⟨by omega,hd⟩,fun c=>absurd c (by decide),fun _=>⟨fun c=>absurd c (by decide),fun _=>?_⟩⟩
  have hE:aea ⟨gs,(List.length gs:Int),0,List.replicate (List.length gs:Int).toNat 0⟩:=⟨rfl,rfl,by simp only;omega,by simp,fun j _ _=>qo,trivial⟩
  obtain ⟨_,_,q1,q2⟩:=aqx _ hE
  have q2:(kT ⟨gs,(List.length gs:Int),0,List.replicate (List.length gs:Int).toNat 0⟩).out=lu gs:=q2
  have hE2:ad8 ⟨cs,os,ks,gs,bs,l,d,t,od,vI cs os ks gs bs (lu gs) (oC gs d) od,oO l (List.length gs:Int) t,(List.length (oO l (List.length gs:Int) t):Int),0,(kT ⟨gs,(List.length gs:Int),0,List.replicate (List.length gs:Int).toNat 0⟩).out⟩:=⟨rfl,rfl,by simp only;rw [ea,Cm];omega,by simp only;rw [q2,ea,Cm];exact eU,fun j j0 j1=>by
   simp only at j1⊢
   rw [ea,Cm] at j1
   rw [q2]
   exact mF j0 j1,trivial⟩
  obtain ⟨_,_,q3,q4⟩:=aqv _ hE2
  have q4:(qV ⟨cs,os,ks,gs,bs,l,d,t,od,vI cs os ks gs bs (lu gs) (oC gs d) od,oO l (List.length gs:Int) t,(List.length (oO l (List.length gs:Int) t):Int),0,(kT ⟨gs,(List.length gs:Int),0,List.replicate (List.length gs:Int).toNat 0⟩).out⟩).alive=F5 gs l t:=q4.trans (by
   show rW (oO l (List.length gs:Int) t).length (fun j=>mx (yg (bn gs j)) (gi (oO l (List.length gs:Int) t) j))=_
   rw [ea,Cm]
   rfl)
  refine ⟨by omega,⟨rfl,by simp⟩,⟨hE,rfl,rfl⟩,⟨rfl,rfl⟩,⟨hE2,rfl,rfl⟩,by omega,?_⟩
  show LV.gq [LV.xl _ _,_]=_
  rw [List.drop_zero,List.take_length,q4,afQ hk2]
  rfl
 ·cases h)
end Go.Proofs.YtlihnbimgclogaaGreatDoor
namespace Go.Proofs.YtlihnbimgclogaaGreatDoor
open Go.Sx
noncomputable def afZ:Array Tmp×Code×Code:=((jI (Tryz.f38.body.getD .skip))[0]?).getD (#[],.skip,.skip)
noncomputable def aAg:Array Tmp:=afZ.1
noncomputable def aAA:Code:=afZ.2.1
noncomputable def aAv:Code:=afZ.2.2
structure mX where
 i:Int
 cs:List Cd
 os:List ByteArray
 ks:List Ko
 gs:List Ch
 bs:List Ba
 l:List Le
 d:List Dm
 t:Int
 od:List Int
 c:Int
 a:Int
 r:Bool
 m:List Le
 st:LS
def aEg (s:mX):List LV:=[.uP 5,.own 4 0,.v (.int .i64 s.i)]
noncomputable def aDg (s:mX):List aU:=[⟨[.xq 9 (fun j=>([.xl dU s.cs,.xl .str s.os,.xl dV s.ks,.xl dP s.gs,.xl dW s.bs,.xl ig s.l,.xl pR s.d,.v (.int .i64 s.t),.xl (.int .i64) s.od]:List LV).getD j .junk)],73,.cl,false⟩,⟨[.v (.int .i64 s.c)],3,.cl,false⟩,⟨[.v (.int .i64 s.a)],3,.cl,false⟩,⟨[.v (.bool s.r)],4,.cl,false⟩,⟨[.xl ig s.m],29,.cl,false⟩,⟨[.junk,.junk,.junk,.own 0 0,.own 1 0,.own 2 0,.own 3 0,.junk,.v (.tuple #[]),.junk,.junk,.junk,.junk,.junk,.junk,.junk,.junk,.junk,.junk,.junk,.junk,.junk,.junk,.junk,.junk,.junk,.v (.tuple #[]),.v (.tuple #[]),.v (.tuple #[]),.v (.tuple #[]),.v (.tuple #[]),.v (.tuple #[]),.v (.tuple #[]),.v (.tuple #[]),.v (.tuple #[]),.v (.tuple #[]),.v (.tuple #[]),.v (.tuple #[]),.v (.tuple #[]),.v (.tuple #[]),.v (.tuple #[]),.v (.tuple #[]),.v (.tuple #[]),.v (.tuple #[]),.v (.tuple #[])],0,.kG aAg aAA aAv s.st,false⟩]
noncomputable def UU:Code:=((aB (Tryz.f115.body.getD .skip))[0]?).getD .skip
def SH (s:mX):T (Rd mX):=
 .br (decide (s.i≥0)) (.req (0≤s.i∧s.i<(List.length s.m:Int)) (.br ((fQ s.m s.i).2.1==s.c) (.ok (.stop (.ret) {s with r:=(((fQ s.m s.i).2.2.1 !=s.a) ||(decide ((fQ s.m s.i).2.2.2.1≤(IntKind.i64.wrap (s.t-6))))),st:=(.done (.ret))})) (.ok (.next {s with i:=(IntKind.i64.wrap (s.i-1))})))) (.ok (.stop (.exit 0) s))
abbrev abO (s:mX):=(SH s).rd s
def ad9 (s:mX):Prop:=s.st=.ready∧s.i=(List.length s.m:Int)-1∧(List.length s.m:Int)≤1000∧0≤s.t∧s.t≤1000000
def VB (s:mX):Prop:=s.st=.ready∧(-1≤s.i∧s.i<(List.length s.m:Int))∧(List.length s.m:Int)≤1000∧0≤s.t∧s.t≤1000000
def Qc (s:mX):Nat:=(s.i+1).toNat
def atw (_:Ex) (_ _:mX):Prop:=True
theorem aBZ:∀s,ad9 s→VB s:=by
 intro s h
 obtain ⟨h0,h1,h2⟩:=h
 exact ⟨h0,by omega,h2⟩
theorem axM (s:mX) (hI:VB s):bJ (fun s'=>VB s'∧Qc s'<Qc s) (fun x s'=>atw x s s') (abO s):=by
 unfold abO SH
 dsimp only [T.rd,T.rl]
 obtain ⟨hs,⟨h0,h1⟩,h2⟩:=hI
 refine au (fun c1=>au (fun c2=>trivial) (fun c2=>?_)) (fun c1=>trivial)
 have c1:0≤s.i:=by simpa using c1
 rw [aK (x:=s.i-1) (by omega) (by omega)]
 exact ⟨⟨hs,⟨by simp only;omega,by simp only;omega⟩,h2⟩,by simp only [Qc];omega⟩
noncomputable def Kw:bM mX:=⟨6,19,[0,1,3],[],aEg,aDg,fun v b=>⟨gI (v.getD 2 .junk),aQ dU (ng (aY (aO b 0) 0) 0),aQ .str (ng (aY (aO b 0) 0) 1),aQ dV (ng (aY (aO b 0) 0) 2),aQ dP (ng (aY (aO b 0) 0) 3),aQ dW (ng (aY (aO b 0) 0) 4),aQ ig (ng (aY (aO b 0) 0) 5),aQ pR (ng (aY (aO b 0) 0) 6),gI (ng (aY (aO b 0) 0) 7),aQ (.int .i64) (ng (aY (aO b 0) 0) 8),gI (aY (aO b 1) 0),gI (aY (aO b 2) 0),vF (aY (aO b 3) 0),aQ ig (aY (aO b 4) 0),.ready⟩,SH,fun s r=> {r with cs:=s.cs,os:=s.os,ks:=s.ks,gs:=s.gs,bs:=s.bs,l:=s.l,d:=s.d,t:=s.t,od:=s.od,c:=s.c,a:=s.a,m:=s.m},fun s=> {s with st:=.ready},fun x s=> {s with st:=(match x with| .ret=>(.done (.ret)) | .exit 0=> .ready|_=> .ready)},[.ret,.exit 0],ad9,VB,Qc⟩
noncomputable abbrev aax:=Kw.run
noncomputable abbrev acg:=Kw.jJ
abbrev azb:=Kw.q
noncomputable def Ei:Specs:=aZ []
theorem IV:∀g S,Ei g=some S→Valid Tryz.prog aS g S:=aT (l:=[]) trivial
noncomputable def ai1:Hand:=inl Tryz.prog aS Ei (lX Tryz.prog aS (Ei) 20 2) 9
theorem arD:dF Tryz.prog aS ai1:=bQ IV (dQ IV) 9
theorem avT (s:mX) (hI:VB s):(SH s).all (fun _=>True):=by
 refine ⟨fun c1=>⟨?_,fun _=>trivial,fun _=>trivial⟩,fun _=>trivial⟩
 ·(obtain ⟨hs,⟨h0,h1⟩,h2⟩:=hI;simp only [decide_eq_true_eq] at c1;omega)
theorem ah1:Kw.Ok:=⟨fun s=>by kernel_rfl,fun s=>by kernel_rfl,fun s=>rfl,fun s t r=>rfl,fun s=>rfl,fun s=>by kernel_rfl⟩
theorem agY:Kw.Pf (atw):=⟨aBZ,fun s h=>by
 obtain ⟨i,cs,os,ks,gs,bs,l,d,t,od,c,a,r,m,st⟩:=s
 have e:st=.ready:=h.1
 subst e
 rfl,axM,avT⟩
theorem anh:bg Tryz.prog aS (AN 6) (.loop UU) Kw.lp:=bM.snd ah1 agY (bF (Γ:=Ei) (K:=ai1) (L:=(tN Tryz.prog aS Ei ai1 20 2)) IV arD UU (fun b _=>dR IV arD 20 2 b)) (fun s=>by kernel_rfl)
theorem aqw (s:mX) (hE:ad9 s):(fun (x:Ex) (s':mX) (v:Bool)=>(x=.ret∧s'.r=v)∨(x=.exit 0∧v=true)) (acg s) (aax s) ((fun s:mX=>nwO s.a s.t ((s.m.take (s.i+1).toNat).reverse.find? (fun x=>x.2.1==s.c))) s):=by
 exact bM.wC ah1 agY (fun s:mX=>nwO s.a s.t ((s.m.take (s.i+1).toNat).reverse.find? (fun x=>x.2.1==s.c))) (fun x s' v=>(x=.ret∧s'.r=v)∨(x=.exit 0∧v=true)) (fun s hI=>by
  show bJ _ _ (abO s)
  unfold abO SH
  dsimp only [T.rd,T.rl]
  obtain ⟨hs,⟨h0,h1⟩,h2⟩:=hI
  refine au (fun c1=>?_) (fun c1=>?_)
  ·have c1:0≤s.i:=by simpa using c1
   have e:=(wz c1 (show s.i<(List.length s.m:Int) by omega)).2
   refine au (fun c2=> .inl ⟨rfl,?_⟩) (fun c2=>?_)
   ·rw [e,List.reverse_append]
    show _=nwO s.a s.t (List.find? _ (fQ s.m s.i::_))
    rw [List.find?_cons_of_pos (by exact c2)]
    simp only [nwO]
    rw [aK (x:=s.t-6) (by omega) (by omega)]
   ·show nwO _ _ _=nwO _ _ _
    simp only
    rw [aK (x:=s.i-1) (by omega) (by omega),e,List.reverse_append]
    show _=nwO s.a s.t (List.find? _ (fQ s.m s.i::_))
    rw [List.find?_cons_of_neg (by rw [c2];decide),show (s.i-1+1).toNat=s.i.toNat by omega]
    rfl
  ·have c1:s.i<0:=by simpa using c1
   refine .inr ⟨rfl,?_⟩
   rw [show (s.i+1).toNat=0 by omega]
   rfl) s hE
def adv:List LV→T LV
 | [.xq 9 q0,.v (.int .i64 i),.v (.int .i64 a)]=>(match ([q0 0,q0 1,q0 2,q0 3,q0 4,q0 5,q0 6,q0 7,q0 8]:List LV) with
  | [.xl (.pair .str (.pair (.int .i64) (.pair (.int .i64) (.pair (.int .i64) (.pair (.pair (.int .i64) (.int .i64)) (.pair (.int .i64) (.pair (.int .i64) (.pair (.int .i64) (.pair (.int .i64) (.int .i64)))))))))) _,.xl (.str) _,.xl (.pair .str (.pair (.int .i64) (.pair (.int .i64) (.int .i64)))) _,.xl (.pair .str (.pair (.int .i64) (.pair (.int .i64) (.pair (.int .i64) (.pair (.int .i64) (.pair (.int .i64) (.pair (.int .i64) (.int .i64)))))))) gs,.xl (.pair .str (.int .i64)) _,.xl (.pair (.int .i64) (.pair (.int .i64) (.pair (.int .i64) (.pair (.int .i64) (.int .i64))))) l,.xl (.pair .bool (.pair (.int .i64) (.pair (.int .i64) (.int .i64)))) _,.v (.int .i64 t),.xl (.int .i64) _]=> .req ((0≤i∧i<(List.length gs:Int))∧(List.length l:Int)≤1000∧0≤t∧t≤1000000) (.ok (.v (.bool (nwB gs l t i a))))
  |_=> .no)
 |_=> .no
noncomputable def Y0:List LV→T LV:=gQ Tryz.prog Tryz.f38.params.toList adv
noncomputable def arP:Hand:=inl Tryz.prog aS Ei (kD 115 6 1 (Kw.lp) (lX Tryz.prog aS (Ei) 20 2)) 9
theorem aA9:dF Tryz.prog aS arP:=bQ IV (dM Tryz.func115 rfl (by kernel_rfl) anh (dQ IV)) 9
theorem ao9 (cs:List Cd) (os:List ByteArray) (ks:List Ko) (gs:List Ch) (bs:List Ba) (l:List Le) (d:List Dm) (t:Int) (od:List Int) (i a:Int):bV Tryz.prog aS (Ei) arP aC Tryz.f38 [.xq 9 (fun j=>([.xl dU cs,.xl .str os,.xl dV ks,.xl dP gs,.xl dW bs,.xl ig l,.xl pR d,.v (.int .i64 t),.xl (.int .i64) od]:List LV).getD j .junk),.v (.int .i64 i),.v (.int .i64 a)]=.req (0≤i∧i<(List.length gs:Int)) (.br (decide (a≤(bn gs i).2.2.2.2.2.2.1)) (.ok (.v (.bool false))) (.req (azb (⟨(IntKind.i64.wrap ((List.length l:Int)-1)),cs,os,ks,gs,bs,l,d,t,od,i,a,false,l,.ready⟩:mX)) (.br (iG (acg (⟨(IntKind.i64.wrap ((List.length l:Int)-1)),cs,os,ks,gs,bs,l,d,t,od,i,a,false,l,.ready⟩:mX)) (.ret)) (.ok (.v (.bool (aax (⟨(IntKind.i64.wrap ((List.length l:Int)-1)),cs,os,ks,gs,bs,l,d,t,od,i,a,false,l,.ready⟩:mX)).r))) (.ok (.v (.bool true)))))):=by kernel_rfl
theorem aur:Valid Tryz.prog aS 38 Y0:=aH Tryz.func38 rfl IV aA9 (aX (by kernel_rfl)) (fun args lv h=>by
 unfold adv at h
 split at h
 ·split at h
  case h_2=>cases h
  rename_i heq0
  simp only [canL,canX]
  rw [pq (n:=9) heq0]
  simp only [canL,canX]
  rw [ao9]
  rename_i i a _ cs os ks gs bs l d t od
  obtain ⟨⟨hi,hl,ht⟩,rfl⟩:=h
  refine ⟨hi,fun c=>congrArg (fun z=>LV.v (.bool z)) ?_,fun c=>?_⟩
  ·have c:a≤yg (bn gs i):=of_decide_eq_true c
   unfold nwB
   rw [decide_eq_true c]
   rfl
  have c:¬a≤yg (bn gs i):=of_decide_eq_false c
  have hE:ad9 ⟨IntKind.i64.wrap ((List.length l:Int)-1),cs,os,ks,gs,bs,l,d,t,od,i,a,false,l,.ready⟩:=⟨rfl,by show IntKind.i64.wrap ((List.length l:Int)-1)=_;rw [aK (by omega) (by omega)],hl,ht⟩
  have ev:nwB gs l t i a=nwO a t ((l.take (IntKind.i64.wrap ((List.length l:Int)-1)+1).toNat).reverse.find? (fun x=>x.2.1==i)):=by
   unfold nwB
   rw [decide_eq_false c,aK (x:=(List.length l:Int)-1) (by omega) (by omega),show ((List.length l:Int)-1+1).toNat=l.length by omega,List.take_length]
   rfl
  refine ⟨⟨hE,rfl,rfl⟩,?_⟩
  rcases aqw _ hE with ⟨q1,q2⟩ |⟨q1,q2⟩<;>rw [q1]
  ·exact ⟨fun _=>congrArg (fun z=>LV.v (.bool z)) (q2.trans ev.symm),fun h=>by cases h⟩
  ·exact ⟨fun h=>(by cases h),fun _=>congrArg (fun z=>LV.v (.bool z)) (q2.symm.trans ev.symm)⟩
 ·cases h)
end Go.Proofs.YtlihnbimgclogaaGreatDoor
namespace Go.Proofs.YtlihnbimgclogaaGreatDoor
open Go.Sx
def Vb:List LV→T LV
 | [.v (.int .i64 _)]=> .ok (.v (.bool false))
 |_=> .no
noncomputable def QX:List LV→T LV:=gQ Tryz.prog Tryz.f85.params.toList Vb
noncomputable def Uk:Specs:=aZ []
theorem abe:∀g S,Uk g=some S→Valid Tryz.prog aS g S:=aT (l:=[]) trivial
theorem aio (x:Int):bV Tryz.prog aS (Uk) dZ aC Tryz.f85 [.v (.int .i64 x)]=.ok (.v (.bool (x !=x))):=by kernel_rfl
theorem al1:Valid Tryz.prog aS 85 QX:=aH Tryz.func85 rfl abe aF (aX (by kernel_rfl)) (fun args lv h=>by
 unfold Vb at h
 split at h
 ·simp only [canL,canX]
  rw [aio]
  obtain rfl:=h
  exact congrArg (fun z=>LV.v (.bool z)) (by simp)
 ·cases h)
def adz:List LV→T LV
 | [.v (.int .i64 x),.v (.int .i64 y)]=> .ok (.v (.int .i64 (cm x y)))
 |_=> .no
noncomputable def Y3:List LV→T LV:=gQ Tryz.prog Tryz.f47.params.toList adz
noncomputable def asw:Specs:=aZ [(85,QX)]
theorem aBA:∀g S,asw g=some S→Valid Tryz.prog aS g S:=aT (l:=[(85,QX)]) ⟨al1,trivial⟩
theorem apd (x y:Int):bV Tryz.prog aS (asw) dZ aC Tryz.f47 [.v (.int .i64 x),.v (.int .i64 y)]=.br false (.br false (.ok (.v (.int .i64 0))) (.ok (.v (.int .i64 (-1))))) (.br false (.ok (.v (.int .i64 1))) (.br (decide (x<y)) (.ok (.v (.int .i64 (-1)))) (.br (decide (x>y)) (.ok (.v (.int .i64 1))) (.ok (.v (.int .i64 0)))))):=by kernel_rfl
theorem auu:Valid Tryz.prog aS 47 Y3:=aH Tryz.func47 rfl aBA aF (aX (by kernel_rfl)) (fun args lv h=>by
 unfold adz at h
 split at h
 ·simp only [canL,canX]
  rw [apd]
  obtain rfl:=h
  unfold cm
  refine ⟨fun h=>(by cases h),fun _=>⟨fun h=>(by cases h),fun _=>⟨fun c=>?_,fun c=>⟨fun c2=>?_,fun c2=>?_⟩⟩⟩⟩<;>refine congrArg (fun z=>LV.v (.int .i64 z)) ?_
  ·rw [if_pos (by simpa using c)]
  ·rw [if_neg (by simpa using c),if_pos (by simpa using c2)]
  ·rw [if_neg (by simpa using c),if_neg (by simpa using c2)]
 ·cases h)
structure mY where
 r:Int
 z:Int
 l:List Int
 n:Int
 i:Int
def aEk (s:mY):List LV:=[.v (.int .i64 s.r),.v (.int .i64 s.z),.xl (.int .i64) s.l,.v (.int .i64 s.n),.v (.int .i64 s.i)]
def aDk (_:mY):List aU:=[]
noncomputable def Cb:Code:=((aB (Tryz.f46.body.getD .skip))[0]?).getD .skip
def SI (s:mY):T (Rd mY):=
 .br (decide (s.i<s.n)) (.req (0≤s.i∧s.i<(List.length s.l:Int)) (.br ((gi s.l s.i) !=s.z) (.ok (.stop (.ret) {s with r:=(gi s.l s.i)})) (.ok (.next {s with i:=(IntKind.i64.wrap (s.i+1))})))) (.ok (.stop (.exit 0) s))
abbrev abP (s:mY):=(SI s).rd s
def aec (s:mY):Prop:=s.i=0∧s.n=(List.length s.l:Int)∧s.n≤1000∧s.z=0
def VD (s:mY):Prop:=(0≤s.i∧s.i≤s.n)∧s.n=(List.length s.l:Int)∧s.n≤1000∧s.z=0
def Qg (s:mY):Nat:=(s.n-s.i).toNat
def atx (_:Ex) (_ _:mY):Prop:=True
theorem aB5:∀s,aec s→VD s:=by
 intro s h
 obtain ⟨h0,h2,h3,h4⟩:=h
 exact ⟨by omega,h2,h3,h4⟩
theorem axU (s:mY) (hI:VD s):bJ (fun s'=>VD s'∧Qg s'<Qg s) (fun x s'=>atx x s s') (abP s):=by
 unfold abP SI
 dsimp only [T.rd,T.rl]
 obtain ⟨⟨h0,h1⟩,h2,h3,h4⟩:=hI
 refine au (fun c1=>?_) (fun c1=>?_)
 ·refine au (fun c2=>?_) (fun c2=>?_)
  ·exact trivial
  ·have c1:s.i<s.n:=by simpa using c1
   rw [aK (x:=s.i+1) (by omega) (by omega)]
   exact ⟨⟨⟨by simp only;omega,by simp only;omega⟩,h2,h3,h4⟩,by simp only [Qg];omega⟩
 ·exact trivial
def FO:bM mY:=⟨0,18,[2,3,6,7,8],[],aEk,aDk,fun v _=>⟨gI (v.getD 0 .junk),gI (v.getD 1 .junk),aQ (.int .i64) (v.getD 2 .junk),gI (v.getD 3 .junk),gI (v.getD 4 .junk)⟩,SI,fun s r=> {r with z:=s.z,l:=s.l,n:=s.n},fun s=>s,fun _ s=>s,[.ret,.exit 0],aec,VD,Qg⟩
abbrev aay:=FO.run
abbrev ach:=FO.jJ
abbrev azf:=FO.q
theorem avX (s:mY) (hI:VD s):(SI s).all (fun _=>True):=by
 refine ⟨fun c1=>⟨?_,fun _=>trivial,fun _=>trivial⟩,fun _=>trivial⟩
 ·(obtain ⟨⟨h0,h1⟩,h2,h3⟩:=hI;simp only [decide_eq_true_eq] at c1;omega)
theorem ah4:FO.Ok:=⟨fun s=>by kernel_rfl,fun s=>by kernel_rfl,fun s=>rfl,fun s t r=>rfl,fun s=>rfl,fun s=>by kernel_rfl⟩
theorem ag1:FO.Pf (atx):=⟨aB5,fun _ _=>rfl,axU,avX⟩
theorem anl:bg Tryz.prog aS (AN 0) (.loop Cb) FO.lp:=bM.snd ah4 ag1 (aP (Γ:=Uk) (K:=dZ) (L:=aC) abe aF Cb (fun b hb=>by rw [show aB Cb=[] by kernel_rfl] at hb;cases hb)) (fun s=>by kernel_rfl)
theorem aqC (s:mY) (hE:aec s):(fun (x:Ex) (s':mY) (v:Int)=>(x=.ret∧s'.r=v)∨(x=.exit 0∧s'.z=v)) (ach s) (aay s) ((fun s:mY=>orI (s.l.drop s.i.toNat)) s):=by
 exact bM.wC ah4 ag1 (fun s:mY=>orI (s.l.drop s.i.toNat)) (fun x s' v=>(x=.ret∧s'.r=v)∨(x=.exit 0∧s'.z=v)) (fun s hI=>by
  show bJ _ _ (abP s)
  unfold abP SI
  dsimp only [T.rd,T.rl]
  obtain ⟨⟨h0,h1⟩,h2,h3,h4⟩:=hI
  refine au (fun c1=>?_) (fun c1=>?_)
  ·have c1:s.i<s.n:=by simpa using c1
   have e:s.l.drop s.i.toNat=gi s.l s.i::s.l.drop (s.i+1).toNat:=(gi_step h0 (show s.i<(List.length s.l:Int) by omega)).1
   rw [aK (x:=s.i+1) (by omega) (by omega)]
   refine au (fun c2=>?_) (fun c2=>?_)
   ·refine .inl ⟨rfl,?_⟩
    simp only
    rw [e,orI,if_pos (by rw [h4] at c2;exact c2)]
   ·show orI _=orI _
    simp only
    rw [e,orI,if_neg (by rw [h4] at c2;rw [c2];simp)]
  ·have c1:s.n≤s.i:=by simpa using c1
   refine .inr ⟨rfl,?_⟩
   rw [List.drop_eq_nil_of_le (by omega),h4]
   rfl) s hE
def adA:List LV→T LV
 | [.xl (.int .i64) l]=> .req ((List.length l:Int)≤1000) (.ok (.v (.int .i64 (orI l))))
 |_=> .no
noncomputable def Y4:List LV→T LV:=gQ Tryz.prog Tryz.f46.params.toList adA
theorem ape (l:List Int):bV Tryz.prog aS (Uk) dZ (fun i=>if i=3 then FO.lp else aC i) Tryz.f46 [.xl (.int .i64) l]=.req (azf (⟨(0:Int),(0:Int),l,(List.length l:Int),(0:Int)⟩:mY)) (.br (iG (ach (⟨(0:Int),(0:Int),l,(List.length l:Int),(0:Int)⟩:mY)) (.ret)) (.ok (.v (.int .i64 (aay (⟨(0:Int),(0:Int),l,(List.length l:Int),(0:Int)⟩:mY)).r))) (.ok (.v (.int .i64 (0:Int))))):=by kernel_rfl
theorem auv:Valid Tryz.prog aS 46 Y4:=aH Tryz.func46 rfl abe aF (L:=(fun i=>if i=3 then FO.lp else aC i)) (fun b hb=>by
 rw [show aB _=[Cb] by kernel_rfl] at hb
 simp only [List.mem_cons,List.not_mem_nil,or_false] at hb
 subst hb
 exact anl) (fun args lv h=>by
 unfold adA at h
 split at h
 ·simp only [canL,canX]
  rw [ape]
  rename_i l
  obtain ⟨hl,rfl⟩:=h
  have hE:aec ⟨0,0,l,(List.length l:Int),0⟩:=⟨rfl,rfl,hl,rfl⟩
  refine ⟨⟨hE,rfl,rfl⟩,?_⟩
  rcases aqC _ hE with ⟨q1,q2⟩ |⟨q1,q2⟩<;>rw [q1]
  ·exact ⟨fun _=>congrArg (fun z=>LV.v (.int .i64 z)) q2,fun h=>by cases h⟩
  ·exact ⟨fun h=>(by cases h),fun _=>congrArg (fun z=>LV.v (.int .i64 z)) q2⟩
 ·cases h)
def acM:List LV→T LV
 | [.v (.int .i64 i),.xq 1 q0,.xq 1 q1]=>(match ([q0 0]:List LV) with
  | [.xl (.pair .bool (.pair (.int .i64) (.pair (.int .i64) (.int .i64)))) d]=>(match ([q1 0]:List LV) with
  | [.v (.int .i64 t)]=> .req (xY d t∧0≤i∧i<(List.length d:Int)) (.ok (.v (.int .i64 (Ws d t i))))
  |_=> .no)
  |_=> .no)
 |_=> .no
noncomputable def y8:List LV→T LV:=gQ Tryz.prog Tryz.f43.params.toList acM
theorem aot (i:Int) (d:List Dm) (t:Int):bV Tryz.prog aS (Uk) dZ aC Tryz.f43 [.v (.int .i64 i),.xq 1 (fun j=>([.xl pR d]:List LV).getD j .junk),.xq 1 (fun j=>([.v (.int .i64 t)]:List LV).getD j .junk)]=.req (0≤i∧i<(List.length d:Int)) (.req (0≤i∧i<(List.length d:Int)) (.ok (.v (.int .i64 (IntKind.i64.wrap ((IntKind.i64.wrap ((o8 d i).2.2.1-t))-(o8 d i).2.1)))))):=by kernel_rfl
theorem V8:Valid Tryz.prog aS 43 y8:=aH Tryz.func43 rfl abe aF (aX (by kernel_rfl)) (fun args lv h=>by
 unfold acM at h
 split at h
 ·split at h
  case h_2=>cases h
  rename_i heq0
  split at h
  case h_2=>cases h
  rename_i heq1
  simp only [canL,canX]
  rw [pq (n:=1) heq0]
  simp only [canL,canX]
  rw [pq (n:=1) heq1]
  simp only [canL,canX]
  rw [aot]
  rename_i i _ _ _ d _ t
  obtain ⟨⟨hw,hi⟩,rfl⟩:=h
  have b:=atD hw hi.1 hi.2
  have ht:=hw.2
  refine ⟨hi,hi,congrArg (fun z=>LV.v (.int .i64 z)) ?_⟩
  unfold Ws
  rw [aK (x:=(o8 d i).2.2.1-t) (by omega) (by omega),aK (by omega) (by omega)]
 ·cases h)
def akJ:List LV→T LV
 | [.v (.int .i64 a),.v (.int .i64 b),.xq 1 q0,.xq 1 q1]=>(match ([q0 0]:List LV) with
  | [.xl (.pair .bool (.pair (.int .i64) (.pair (.int .i64) (.int .i64)))) d]=>(match ([q1 0]:List LV) with
  | [.fn 43 [.xq 1 q2,.xq 1 q3]]=>(match ([q2 0]:List LV) with
  | [.xl (.pair .bool (.pair (.int .i64) (.pair (.int .i64) (.int .i64)))) e]=>(match ([q3 0]:List LV) with
  | [.v (.int .i64 t)]=> .req (d=e∧xY d t∧(0≤a∧a<(List.length d:Int))∧0≤b∧b<(List.length d:Int)) (.ok (.v (.int .i64 (cmD d t a b))))
  |_=> .no)
  |_=> .no)
  |_=> .no)
  |_=> .no)
 |_=> .no
noncomputable def U6:List LV→T LV:=gQ Tryz.prog Tryz.f45.params.toList akJ
noncomputable def asv:Specs:=aZ [(43,y8),(46,Y4),(47,Y3)]
theorem aBz:∀g S,asv g=some S→Valid Tryz.prog aS g S:=aT (l:=[(43,y8),(46,Y4),(47,Y3)]) ⟨V8,auv,auu,trivial⟩
theorem awQ (a b:Int) (d e:List Dm) (t:Int):bV Tryz.prog aS (asv) dZ aC Tryz.f45 [.v (.int .i64 a),.v (.int .i64 b),.xq 1 (fun j=>([.xl pR d]:List LV).getD j .junk),.xq 1 (fun j=>([.fn 43 [.xq 1 (fun j=>([.xl pR e]:List LV).getD j .junk),.xq 1 (fun j=>([.v (.int .i64 t)]:List LV).getD j .junk)]]:List LV).getD j .junk)]=.req (0≤a∧a<(List.length d:Int)) (.req (0≤b∧b<(List.length d:Int)) (.req (xY e t∧0≤a∧a<(List.length e:Int)) (.req (xY e t∧0≤b∧b<(List.length e:Int)) (.req ((List.length ([(cm (o8 d a).2.2.2 (o8 d b).2.2.2),(cm (Ws e t a) (Ws e t b)),(cm a b)]):Int)≤1000) (.ok (.v (.int .i64 (orI ([(cm (o8 d a).2.2.2 (o8 d b).2.2.2),(cm (Ws e t a) (Ws e t b)),(cm a b)]))))))))):=by kernel_rfl
theorem aq3:Valid Tryz.prog aS 45 U6:=aH Tryz.func45 rfl aBz aF (aX (by kernel_rfl)) (fun args lv h=>by
 unfold akJ at h
 split at h
 ·split at h
  case h_2=>cases h
  rename_i heq0
  split at h
  case h_2=>cases h
  rename_i heq1
  split at h
  case h_2=>cases h
  rename_i heq2
  split at h
  case h_2=>cases h
  rename_i heq3
  simp only [canL,canX]
  rw [pq (n:=1) heq0]
  simp only [canL,canX]
  rw [pq (n:=1) heq1]
  simp only [canL,canX]
  rw [pq (n:=1) heq2]
  simp only [canL,canX]
  rw [pq (n:=1) heq3]
  simp only [canL,canX]
  rw [awQ]
  rename_i a b _ d _ _ _ _ e _ t
  obtain ⟨⟨rfl,hw,ha,hb⟩,rfl⟩:=h
  exact ⟨ha,hb,⟨hw,ha⟩,⟨hw,hb⟩,by simp,rfl⟩
 ·cases h)
structure qJ where
 n:Int
 i:Int
 d:List Dm
 tick:Int
 out:List Int
def aDQ (s:qJ):List LV:=[.own 0 0,.own 1 0,.os 2 1 0 (List.length s.out),.v (.int .i64 s.n),.v (.int .i64 s.i)]
def aCQ (s:qJ):List aU:=[⟨[.xl pR s.d],31,.cl,false⟩,⟨[.v (.int .i64 s.tick)],3,.cl,false⟩,⟨[],3,.vec (.int .i64) s.out,false⟩]
noncomputable def Bv:Code:=((aB (Tryz.f19.body.getD .skip))[0]?).getD .skip
def ZL (s:qJ):T (Rd qJ):=
 .br (decide (s.i<s.n)) (.req (0≤s.i∧s.i<((List.length s.out:Nat):Int)) (.req (s.i.toNat<List.length s.out) (.req (0=0∧(List.length s.out)=List.length (s.out.set s.i.toNat s.i)) (.ok (.next {s with i:=(IntKind.i64.wrap (s.i+1)),out:=(s.out.set s.i.toNat s.i)}))))) (.rl s.out (.ok (.stop (.exit 0) s)))
abbrev asV (s:qJ):=(ZL s).rd s
def adS (s:qJ):Prop:=s.i=0∧s.out=List.replicate s.d.length 0∧s.n=(List.length s.d:Int)∧s.n≤1000∧s.out.length=s.d.length
def Nw (s:qJ):Prop:=(0≤s.i∧s.i≤s.n)∧s.out=yM s.i.toNat++List.replicate (s.d.length-s.i.toNat) 0∧s.n=(List.length s.d:Int)∧s.n≤1000∧s.out.length=s.d.length
def PG (s:qJ):Nat:=(s.n-s.i).toNat
def ak1 (x:Ex) (_ s':qJ):Prop:=x=.exit 0∧s'.out=yM s'.d.length
theorem aAJ:∀s,adS s→Nw s:=by
 intro s h
 obtain ⟨h0,h1,h2⟩:=h
 exact ⟨by omega,by rw [h0,h1];rfl,h2⟩
theorem awp (s:qJ) (hI:Nw s):bJ (fun s'=>Nw s'∧PG s'<PG s) (fun x s'=>ak1 x s s') (asV s):=by
 unfold asV ZL
 dsimp only [T.rd,T.rl]
 obtain ⟨⟨h0,h1⟩,h2,h3,h4,h5⟩:=hI
 refine au (fun c1=>?_) (fun c1=>?_)
 ·have c1:s.i<s.n:=by simpa using c1
  rw [aK (x:=s.i+1) (by omega) (by omega)]
  have e:s.d.length-s.i.toNat=(s.d.length-(s.i+1).toNat)+1:=by omega
  refine ⟨⟨⟨by simp only;omega,by simp only;omega⟩,?_,h3,h4,by simp only [List.length_set];exact h5⟩,by simp only [PG];omega⟩
  simp only
  have hs:=aak (xs:=yM s.i.toNat) (r:=s.d.length-(s.i+1).toNat) (v:=s.i)
  rw [qh] at hs
  rw [h2,e,hs,show (s.i+1).toNat=s.i.toNat+1 by omega,aek,Int.toNat_of_nonneg h0]
 ·have c1:s.n≤s.i:=by simpa using c1
  refine ⟨rfl,?_⟩
  rw [h2,show s.i.toNat=s.d.length by omega]
  simp
def E5:bM qJ:=⟨0,26,[2,3,5,12,13],[],aDQ,aCQ,fun v b=>⟨gI (v.getD 3 .junk),gI (v.getD 4 .junk),aQ pR (aY (aO b 0) 0),gI (aY (aO b 1) 0),iR (.int .i64) (aO b 2)⟩,ZL,fun s r=> {r with n:=s.n,d:=s.d,tick:=s.tick},fun s=>s,fun _ s=>s,[.exit 0],adS,Nw,PG⟩
abbrev jS:=E5.run
abbrev ap2:=E5.jJ
abbrev ayN:=E5.q
theorem avs (s:qJ) (hI:Nw s):(ZL s).all (fun _=>True):=by
 refine ⟨fun c1=>⟨?_,?_,?_,trivial⟩,fun c1=>⟨⟨rfl,rfl⟩,trivial⟩⟩
 all_goals ((obtain ⟨⟨h0,h1⟩,h2,h3,h4,h5⟩:=hI;simp only [decide_eq_true_eq] at c1;first|omega|exact ⟨rfl,by simp⟩))
noncomputable def wu:Specs:=aZ [(43,y8),(45,U6)]
theorem yB:∀g S,wu g=some S→Valid Tryz.prog aS g S:=aT (l:=[(43,y8),(45,U6)]) ⟨V8,aq3,trivial⟩
noncomputable def Ue:Hand:=inl Tryz.prog aS wu (lX Tryz.prog aS (wu) 20 2) 9
theorem aa4:dF Tryz.prog aS Ue:=bQ yB (dQ yB) 9
theorem ahJ:E5.Ok:=⟨fun s=>by kernel_rfl,fun s=>by kernel_rfl,fun s=>rfl,fun s t r=>rfl,fun s=>rfl,fun s=>by kernel_rfl⟩
theorem agG:E5.Pf (ak1):=⟨aAJ,fun _ _=>rfl,awp,avs⟩
theorem amT:bg Tryz.prog aS (AN 0) (.loop Bv) E5.lp:=bM.snd ahJ agG (aP (Γ:=wu) (K:=Ue) (L:=aC) yB aa4 Bv (fun b hb=>by rw [show aB Bv=[] by kernel_rfl] at hb;cases hb)) (fun s=>by kernel_rfl)
theorem an5 (s:qJ) (hE:adS s):∃s',Nw s'∧ak1 (ap2 s) s' (jS s):=bM.fin ahJ agG s hE
structure mV where
 a:Int
 b:Int
 i:Int
 j:Int
 b0:List Dm
 b1:Int
 data:List Int
def aD3 (s:mV):List LV:=[.os 2 1 0 (List.length s.data),.v (.int .i64 s.a),.v (.int .i64 s.b),.fn 45 [.own 0 0,.own 3 0],.v (.int .i64 s.i),.v (.int .i64 s.j)]
def aC3 (s:mV):List aU:=[⟨[.xl pR s.b0],31,.cl,false⟩,⟨[.v (.int .i64 s.b1)],3,.cl,false⟩,⟨[],3,.vec (.int .i64) s.data,false⟩,⟨[.fn 43 [.own 0 0,.own 1 0]],84,.cl,false⟩]
noncomputable def Jp:Code:=((aB (((aB (Tryz.f120.body.getD .skip))[0]?).getD .skip))[0]?).getD .skip
def SB (s:mV):T (Rd mV):=
 .br (decide (s.j>s.a)) (.req (0≤s.j∧s.j<((List.length s.data:Nat):Int)) (.req (s.j.toNat<List.length s.data) (.req (0≤(IntKind.i64.wrap (s.j-1))∧(IntKind.i64.wrap (s.j-1))<((List.length s.data:Nat):Int)) (.req ((IntKind.i64.wrap (s.j-1)).toNat<List.length s.data) (.req (s.b0=s.b0∧xY s.b0 s.b1∧(0≤(s.data.getD s.j.toNat (Ty.dflt (.int .i64)))∧(s.data.getD s.j.toNat (Ty.dflt (.int .i64)))<(List.length s.b0:Int))∧0≤(s.data.getD (IntKind.i64.wrap (s.j-1)).toNat (Ty.dflt (.int .i64)))∧(s.data.getD (IntKind.i64.wrap (s.j-1)).toNat (Ty.dflt (.int .i64)))<(List.length s.b0:Int)) (.br (decide ((cmD s.b0 s.b1 (s.data.getD s.j.toNat (Ty.dflt (.int .i64))) (s.data.getD (IntKind.i64.wrap (s.j-1)).toNat (Ty.dflt (.int .i64))))<0)) (.req (0≤(IntKind.i64.wrap (s.j-1))∧(IntKind.i64.wrap (s.j-1))<((List.length s.data:Nat):Int)) (.req (0≤s.j∧s.j<((List.length s.data:Nat):Int)) (.req ((IntKind.i64.wrap (s.j-1)).toNat<List.length s.data) (.req (s.j.toNat<List.length s.data) (.req (0≤s.j∧s.j<((List.length s.data:Nat):Int)) (.req (s.j.toNat<List.length s.data) (.req (0≤(IntKind.i64.wrap (s.j-1))∧(IntKind.i64.wrap (s.j-1))<((List.length s.data:Nat):Int)) (.req ((IntKind.i64.wrap (s.j-1)).toNat<List.length (s.data.set s.j.toNat (s.data.getD (IntKind.i64.wrap (s.j-1)).toNat (Ty.dflt (.int .i64))))) (.req (0=0∧(List.length s.data)=List.length ((s.data.set s.j.toNat (s.data.getD (IntKind.i64.wrap (s.j-1)).toNat (Ty.dflt (.int .i64)))).set (IntKind.i64.wrap (s.j-1)).toNat (s.data.getD s.j.toNat (Ty.dflt (.int .i64))))) (.ok (.next {s with j:=(IntKind.i64.wrap (s.j-1)),data:=((s.data.set s.j.toNat (s.data.getD (IntKind.i64.wrap (s.j-1)).toNat (Ty.dflt (.int .i64)))).set (IntKind.i64.wrap (s.j-1)).toNat (s.data.getD s.j.toNat (Ty.dflt (.int .i64))))}))))))))))) (.rl s.data (.ok (.stop (.exit 2) s))))))))) (.rl s.data (.ok (.stop (.exit 2) s)))
abbrev abK (s:mV):=(SB s).rd s
def adX (s:mV):Prop:=s.a=0∧(0≤s.j∧s.j<(List.length s.data:Int))∧(s.data.length=s.b0.length∧(List.length s.data:Int)≤1000)∧(∀x∈s.data,0≤x∧x<(List.length s.b0:Int))∧xY s.b0 s.b1
def Vy (s:mV):Prop:=s.a=0∧(0≤s.j∧s.j<(List.length s.data:Int))∧(s.data.length=s.b0.length∧(List.length s.data:Int)≤1000)∧(∀x∈s.data,0≤x∧x<(List.length s.b0:Int))∧xY s.b0 s.b1
def PV (s:mV):Nat:=s.j.toNat
def atr (x:Ex) (_ _:mV):Prop:=x=.exit 2
theorem aA4:∀s,adX s→Vy s:=by
 exact fun s h=>h
theorem aw7 (s:mV) (hI:Vy s):bJ (fun s'=>Vy s'∧PV s'<PV s) (fun x s'=>atr x s s') (abK s):=by
 unfold abK SB
 dsimp only [T.rd,T.rl]
 obtain ⟨h0,⟨h1,h2⟩,⟨h3,h3'⟩,h4,h5⟩:=hI
 refine au (fun c1=>?_) (fun c1=>rfl)
 have c1:s.a<s.j:=by simpa using c1
 rw [aK (x:=s.j-1) (by omega) (by omega)]
 refine au (fun c2=>?_) (fun c2=>rfl)
 have g0:=fun (k:Nat) (hk:k<s.data.length)=>h4 (s.data.getD k 0) (by simp [List.getD,hk])
 have hm:∀x∈(s.data.set s.j.toNat (s.data.getD (s.j-1).toNat 0)).set (s.j-1).toNat (s.data.getD s.j.toNat 0),0≤x∧x<(List.length s.b0:Int):=fun x hx=>by
  rcases List.mem_or_eq_of_mem_set hx with hx|e
  ·rcases List.mem_or_eq_of_mem_set hx with hx|e
   ·exact h4 x hx
   ·rw [e];exact g0 _ (by omega)
  ·rw [e];exact g0 _ (by omega)
 exact ⟨⟨h0,⟨by simp only;omega,by simp only [List.length_set];omega⟩,⟨by simp only [List.length_set];exact h3,by simp only [List.length_set];exact h3'⟩,hm,h5⟩,by simp only [PV];omega⟩
def Kv:bM mV:=⟨4,53,[0,1,2,3,8,9],[],aD3,aC3,fun v b=>⟨gI (v.getD 1 .junk),gI (v.getD 2 .junk),gI (v.getD 4 .junk),gI (v.getD 5 .junk),aQ pR (aY (aO b 0) 0),gI (aY (aO b 1) 0),iR (.int .i64) (aO b 2)⟩,SB,fun s r=> {r with a:=s.a,b:=s.b,i:=s.i,b0:=s.b0,b1:=s.b1},fun s=>s,fun _ s=>s,[.exit 2],adX,Vy,PV⟩
abbrev zI:=Kv.run
abbrev aqc:=Kv.jJ
abbrev ayZ:=Kv.q
theorem avG (s:mV) (hI:Vy s):(SB s).all (fun _=>True):=by
 refine ⟨fun c1=>⟨?_,?_,?_,?_,?_,fun c2=>⟨?_,?_,?_,?_,?_,?_,?_,?_,?_,trivial⟩,fun c2=>⟨⟨rfl,rfl⟩,trivial⟩⟩,fun c1=>⟨⟨rfl,rfl⟩,trivial⟩⟩
 all_goals ((obtain ⟨h0,⟨h1,h2⟩,⟨h3,h3'⟩,h4,h5⟩:=hI;simp only [decide_eq_true_eq,gt_iff_lt] at c1;(try rw [aK (x:=s.j-1) (by omega) (by omega)]);have g0:∀k:Nat,k<s.data.length→0≤s.data.getD k (Ty.dflt (.int .i64))∧s.data.getD k (Ty.dflt (.int .i64))<(List.length s.b0:Int):=(fun k hk=>h4 _ (by simp [List.getD,hk]));first|omega|exact ⟨rfl,h5,g0 _ (by omega),g0 _ (by omega)⟩ |(simp only [List.length_set];omega) |exact ⟨rfl,by simp⟩))
theorem ahO:Kv.Ok:=⟨fun s=>by kernel_rfl,fun s=>by kernel_rfl,fun s=>rfl,fun s t r=>rfl,fun s=>rfl,fun s=>by kernel_rfl⟩
theorem agL:Kv.Pf (atr):=⟨aA4,fun _ _=>rfl,aw7,avG⟩
theorem am6:bg Tryz.prog aS (AN 4) (.loop Jp) Kv.lp:=bM.snd ahO agL (bF (Γ:=wu) (K:=Ue) (L:=(tN Tryz.prog aS wu Ue 20 2)) yB aa4 Jp (fun b _=>dR yB aa4 20 2 b)) (fun s=>by kernel_rfl)
theorem aaX (s:mV) (hE:adX s):(fun (x:Ex) (s':mV) (v:List Int)=>x=.exit 2∧s'.data=v) (aqc s) (zI s) ((fun s:mV=>bub (ltD s.b0 s.b1) s.j.toNat s.data) s):=by
 exact bM.wC ahO agL (fun s:mV=>bub (ltD s.b0 s.b1) s.j.toNat s.data) (fun x s' v=>x=.exit 2∧s'.data=v) (fun s hI=>by
  show bJ _ _ (abK s)
  unfold abK SB
  dsimp only [T.rd,T.rl]
  obtain ⟨h0,⟨h1,h2⟩,⟨h3,h3'⟩,h4,h5⟩:=hI
  refine au (fun c1=>?_) (fun c1=>?_)
  ·have c1:s.a<s.j:=by simpa using c1
   rw [aK (x:=s.j-1) (by omega) (by omega)]
   have e:s.j.toNat=(s.j-1).toNat+1:=by omega
   refine au (fun c2=>?_) (fun c2=>?_)
   ·show bub _ _ _=bub _ _ _
    simp only
    rw [e,bub,if_pos (by unfold ltD;rw [e] at c2;exact c2)]
    rfl
   ·refine ⟨rfl,?_⟩
    rw [e] at c2
    rw [e,bub,if_neg (fun hh=>absurd ((show true=_ from hh.symm).trans c2) (by decide))]
  ·have c1:s.j≤s.a:=by simpa using c1
   refine ⟨rfl,?_⟩
   rw [show s.j.toNat=0 by omega]
   rfl) s hE
structure ku where
 a:Int
 b:Int
 i:Int
 b0:List Dm
 b1:Int
 data:List Int
def aD4 (s:ku):List LV:=[.os 2 1 0 (List.length s.data),.v (.int .i64 s.a),.v (.int .i64 s.b),.fn 45 [.own 0 0,.own 3 0],.v (.int .i64 s.i)]
def aC4 (s:ku):List aU:=[⟨[.xl pR s.b0],31,.cl,false⟩,⟨[.v (.int .i64 s.b1)],3,.cl,false⟩,⟨[],3,.vec (.int .i64) s.data,false⟩,⟨[.fn 43 [.own 0 0,.own 1 0]],84,.cl,false⟩]
noncomputable def UO:Code:=((aB (Tryz.f120.body.getD .skip))[0]?).getD .skip
def SC (s:ku):T (Rd ku):=
 .br (decide (s.i<s.b)) (.rl s.data (.req (ayZ (⟨s.a,s.b,s.i,s.i,s.b0,s.b1,s.data⟩:mV)) (.rl (zI (⟨s.a,s.b,s.i,s.i,s.b0,s.b1,s.data⟩:mV)).data (.ok (.next {s with i:=(IntKind.i64.wrap (s.i+1)),data:=(zI (⟨s.a,s.b,s.i,s.i,s.b0,s.b1,s.data⟩:mV)).data}))))) (.rl s.data (.ok (.stop (.exit 0) s)))
abbrev abL (s:ku):=(SC s).rd s
def adY (s:ku):Prop:=s.i=1∧(s.a=0∧s.b=(List.length s.data:Int))∧(s.data.length=s.b0.length∧(List.length s.data:Int)≤1000)∧(∀x∈s.data,0≤x∧x<(List.length s.b0:Int))∧xY s.b0 s.b1
def NK (s:ku):Prop:=1≤s.i∧(s.a=0∧s.b=(List.length s.data:Int))∧(s.data.length=s.b0.length∧(List.length s.data:Int)≤1000)∧(∀x∈s.data,0≤x∧x<(List.length s.b0:Int))∧xY s.b0 s.b1
def PW (s:ku):Nat:=(s.b-s.i).toNat
def att (x:Ex) (_ _:ku):Prop:=x=.exit 0
theorem aA5:∀s,adY s→NK s:=by
 intro s h
 obtain ⟨h0,h1⟩:=h
 exact ⟨by omega,h1⟩
theorem XI (s:ku) (hI:NK s) (c1:s.i<s.b):adX ⟨s.a,s.b,s.i,s.i,s.b0,s.b1,s.data⟩:=by
 obtain ⟨h0,⟨h1,h2⟩,h3⟩:=hI
 exact ⟨h1,⟨by simp only;omega,by simp only;omega⟩,h3⟩
theorem aw8 (s:ku) (hI:NK s):bJ (fun s'=>NK s'∧PW s'<PW s) (fun x s'=>att x s s') (abL s):=by
 unfold abL SC
 dsimp only [T.rd,T.rl]
 have hin:=fun c1=>XI s hI c1
 obtain ⟨h0,⟨h1,h2⟩,⟨h3,h3'⟩,h4,h5⟩:=hI
 refine au (fun c1=>?_) (fun c1=>rfl)
 have c1:s.i<s.b:=by simpa using c1
 obtain ⟨q1,q2⟩:=aaX _ (hin c1)
 have q2:(zI ⟨s.a,s.b,s.i,s.i,s.b0,s.b1,s.data⟩).data=bub (ltD s.b0 s.b1) s.i.toNat s.data:=q2
 have hp:=aj7 (lt:=ltD s.b0 s.b1) (j:=s.i.toNat) (l:=s.data) (by omega)
 rw [aK (x:=s.i+1) (by omega) (by omega),q2]
 exact ⟨⟨by simp only;omega,⟨h1,by simp only [hp.length_eq];exact h2⟩,⟨by simp only [hp.length_eq];exact h3,by simp only [hp.length_eq];exact h3'⟩,fun x hx=>h4 x (hp.subset hx),h5⟩,by simp only [PW];omega⟩
def CV:bM ku:=⟨4,53,[0,1,2,3,8],[],aD4,aC4,fun v b=>⟨gI (v.getD 1 .junk),gI (v.getD 2 .junk),gI (v.getD 4 .junk),aQ pR (aY (aO b 0) 0),gI (aY (aO b 1) 0),iR (.int .i64) (aO b 2)⟩,SC,fun s r=> {r with a:=s.a,b:=s.b,b0:=s.b0,b1:=s.b1},fun s=>s,fun _ s=>s,[.exit 0],adY,NK,PW⟩
abbrev pV:=CV.run
abbrev aqd:=CV.jJ
abbrev alO:=CV.q
theorem avH (s:ku) (hI:NK s):(SC s).all (fun _=>True):=by
 refine ⟨fun c1=>⟨⟨rfl,rfl⟩,?_,⟨rfl,rfl⟩,trivial⟩,fun c1=>⟨⟨rfl,rfl⟩,trivial⟩⟩
 ·exact ⟨XI s hI (by simpa using c1),rfl,rfl⟩
theorem ahP:CV.Ok:=⟨fun s=>by kernel_rfl,fun s=>by kernel_rfl,fun s=>rfl,fun s t r=>rfl,fun s=>rfl,fun s=>by kernel_rfl⟩
theorem agM:CV.Pf (att):=⟨aA5,fun _ _=>rfl,aw8,avH⟩
theorem OB:bg Tryz.prog aS (AN 4) (.loop UO) CV.lp:=bM.snd ahP agM (bF (Γ:=wu) (K:=Ue) (L:=(aeW (fun i=>if i=4 then Kv.lp else aC i))) yB aa4 UO (fun b hb=>by
 rw [show aB _=[Jp] by kernel_rfl] at hb
 simp only [List.mem_cons,List.not_mem_nil,or_false] at hb
 subst hb
 exact am6)) (fun s=>by kernel_rfl)
theorem apz (s:ku) (hE:adY s):(fun (x:Ex) (s':ku) (v:List Int)=>x=.exit 0∧s'.data=v) (aqd s) (pV s) ((fun s:ku=>uT (ltD s.b0 s.b1) s.data s.i.toNat) s):=by
 exact bM.wC ahP agM (fun s:ku=>uT (ltD s.b0 s.b1) s.data s.i.toNat) (fun x s' v=>x=.exit 0∧s'.data=v) (fun s hI=>by
  show bJ _ _ (abL s)
  unfold abL SC
  dsimp only [T.rd,T.rl]
  have hin:=fun c1=>XI s hI c1
  obtain ⟨h0,⟨h1,h2⟩,⟨h3,h3'⟩,h4,h5⟩:=hI
  refine au (fun c1=>?_) (fun c1=>?_)
  ·have c1:s.i<s.b:=by simpa using c1
   obtain ⟨q1,q2⟩:=aaX _ (hin c1)
   have q2:(zI ⟨s.a,s.b,s.i,s.i,s.b0,s.b1,s.data⟩).data=bub (ltD s.b0 s.b1) s.i.toNat s.data:=q2
   rw [aK (x:=s.i+1) (by omega) (by omega)]
   show uT _ _ _=uT _ _ _
   simp only
   rw [q2,show (s.i+1).toNat=s.i.toNat+1 by omega,WB (by omega)]
  ·have c1:s.b≤s.i:=by simpa using c1
   exact ⟨rfl,(aem (by omega)).symm⟩) s hE
structure nC where
 n:Int
 di:Int
 a:Int
 b:Int
 b0:List Dm
 b1:Int
 data:List Int
def aDu (s:nC):List LV:=[.os 2 1 0 (List.length s.data),.v (.int .i64 s.n),.fn 45 [.own 0 0,.own 3 0],.v (.int .i64 s.di),.v (.int .i64 s.a),.v (.int .i64 s.b)]
def aCu (s:nC):List aU:=[⟨[.xl pR s.b0],31,.cl,false⟩,⟨[.v (.int .i64 s.b1)],3,.cl,false⟩,⟨[],3,.vec (.int .i64) s.data,false⟩,⟨[.fn 43 [.own 0 0,.own 1 0]],84,.cl,false⟩]
noncomputable def UK:Code:=((aB (Tryz.f84.body.getD .skip))[0]?).getD .skip
def RN (s:nC):T (Rd nC):=
 .br (decide (s.b≤s.n)) (.rl s.data (.req (alO (⟨s.a,s.b,(IntKind.i64.wrap (s.a+1)),s.b0,s.b1,s.data⟩:ku)) (.req (0=0∧(List.length s.data)=List.length (pV (⟨s.a,s.b,(IntKind.i64.wrap (s.a+1)),s.b0,s.b1,s.data⟩:ku)).data) (.ok (.next {s with a:=s.b,b:=(IntKind.i64.wrap (s.b+s.di)),data:=(pV (⟨s.a,s.b,(IntKind.i64.wrap (s.a+1)),s.b0,s.b1,s.data⟩:ku)).data}))))) (.rl s.data (.ok (.stop (.exit 0) s)))
abbrev abt (s:nC):=(RN s).rd s
def adL (s:nC):Prop:=s.b=20∧s.n<20
def Nb (s:nC):Prop:=s.b=20∧s.n<20
def Xo (_:nC):Nat:=0
def ath (x:Ex) (_ _:nC):Prop:=x=.exit 0
theorem azT:∀s,adL s→Nb s:=by
 exact fun s h=>h
theorem auG (s:nC) (hI:Nb s):bJ (fun s'=>Nb s'∧Xo s'<Xo s) (fun x s'=>ath x s s') (abt s):=by
 unfold abt RN
 dsimp only [T.rd,T.rl]
 obtain ⟨h0,h1⟩:=hI
 refine au (fun c1=>absurd (show s.b≤s.n by simpa using c1) (by omega)) (fun c1=>rfl)
def EH:bM nC:=⟨4,63,[0,1,2,6,7,8],[],aDu,aCu,fun v b=>⟨gI (v.getD 1 .junk),gI (v.getD 3 .junk),gI (v.getD 4 .junk),gI (v.getD 5 .junk),aQ pR (aY (aO b 0) 0),gI (aY (aO b 1) 0),iR (.int .i64) (aO b 2)⟩,RN,fun s r=> {r with n:=s.n,di:=s.di,b0:=s.b0,b1:=s.b1},fun s=>s,fun _ s=>s,[.exit 0],adL,Nb,Xo⟩
abbrev iY:=EH.run
abbrev apS:=EH.jJ
abbrev ays:=EH.q
noncomputable def ai5:Hand:=inl Tryz.prog aS wu (kD 120 4 1 (CV.lp) (lX Tryz.prog aS (wu) 20 2)) 9
theorem arH:dF Tryz.prog aS ai5:=bQ yB (dM Tryz.func120 rfl (by kernel_rfl) OB (dQ yB)) 9
theorem au6 (s:nC) (hI:Nb s):(RN s).all (fun _=>True):=by
 refine ⟨fun c1=>⟨⟨rfl,rfl⟩,?_,?_,trivial⟩,fun c1=>⟨⟨rfl,rfl⟩,trivial⟩⟩
 all_goals ((simp only [decide_eq_true_eq] at c1;exact absurd c1 (by have:=hI;unfold Nb at this;omega)))
theorem aho:EH.Ok:=⟨fun s=>by kernel_rfl,fun s=>by kernel_rfl,fun s=>rfl,fun s t r=>rfl,fun s=>rfl,fun s=>by kernel_rfl⟩
theorem agk:EH.Pf (ath):=⟨azT,fun _ _=>rfl,auG,au6⟩
theorem aag:bg Tryz.prog aS (AN 4) (.loop UK) EH.lp:=bM.snd aho agk (bF (Γ:=wu) (K:=ai5) (L:=(tN Tryz.prog aS wu ai5 20 2)) yB arH UK (fun b _=>dR yB arH 20 2 b)) (fun s=>by kernel_rfl)
theorem amg (s:nC) (hE:adL s):(fun (x:Ex) (s':nC) (v:List Int×Int)=>x=.exit 0∧(s'.data,s'.a)=v) (apS s) (iY s) ((fun s:nC=>(s.data,s.a)) s):=by
 exact bM.wC aho agk (fun s:nC=>(s.data,s.a)) (fun x s' v=>x=.exit 0∧(s'.data,s'.a)=v) (fun s hI=>by
  show bJ _ _ (abt s)
  unfold abt RN
  dsimp only [T.rd,T.rl]
  obtain ⟨h0,h1⟩:=hI
  exact au (fun c1=>absurd (show s.b≤s.n by simpa using c1) (by omega)) (fun c1=>⟨rfl,rfl⟩)) s hE
def Yu:List LV→T LV:=fun _=> .req False (.ok (.v undef))
theorem atO:Valid Tryz.prog aS 121 Yu:=by
 intro _ _ _ _ _ _ _ _ _ h
 exact h.1.elim
structure rM where
 n:Int
 di:Int
 a:Int
 b:Int
 b0:List Dm
 b1:Int
 data:List Int
def aDs (s:rM):List LV:=[.os 2 1 0 (List.length s.data),.v (.int .i64 s.n),.fn 45 [.own 0 0,.own 3 0],.v (.int .i64 s.di),.v (.int .i64 s.a),.v (.int .i64 s.b)]
def aCs (s:rM):List aU:=[⟨[.xl pR s.b0],31,.cl,false⟩,⟨[.v (.int .i64 s.b1)],3,.cl,false⟩,⟨[],3,.vec (.int .i64) s.data,false⟩,⟨[.fn 43 [.own 0 0,.own 1 0]],84,.cl,false⟩]
noncomputable def Jk:Code:=((aB (((aB (Tryz.f84.body.getD .skip))[1]?).getD .skip))[0]?).getD .skip
def Zv (s:rM):T (Rd rM):=
 .br (decide (s.b≤s.n)) (.req (0+(List.length s.data)≤List.length s.data) (.req False (.rl s.data (.ok (.next {s with a:=s.b,b:=(IntKind.i64.wrap (s.b+(IntKind.i64.wrap (2*s.di))))}))))) (.rl s.data (.ok (.stop (.exit 4) s)))
abbrev asF (s:rM):=(Zv s).rd s
def atz (_:rM):Prop:=False
def Vo (_:rM):Prop:=False
def Xm (_:rM):Nat:=0
def atf (_:Ex) (_ _:rM):Prop:=True
theorem azQ:∀s,atz s→Vo s:=by
 exact fun s h=>h
theorem auE (s:rM) (hI:Vo s):bJ (fun s'=>Vo s'∧Xm s'<Xm s) (fun x s'=>atf x s s') (asF s):=by
 unfold asF Zv
 dsimp only [T.rd,T.rl]
 exact hI.elim
def Oe:bM rM:=⟨4,63,[0,1,2,6,7,8],[],aDs,aCs,fun v b=>⟨gI (v.getD 1 .junk),gI (v.getD 3 .junk),gI (v.getD 4 .junk),gI (v.getD 5 .junk),aQ pR (aY (aO b 0) 0),gI (aY (aO b 1) 0),iR (.int .i64) (aO b 2)⟩,Zv,fun s r=> {r with n:=s.n,di:=s.di,b0:=s.b0,b1:=s.b1,data:=s.data},fun s=>s,fun _ s=>s,[.exit 4],atz,Vo,Xm⟩
abbrev anC:=Oe.run
abbrev ayq:=Oe.q
noncomputable def Ah:Specs:=aZ [(43,y8),(45,U6),(121,Yu)]
theorem Ef:∀g S,Ah g=some S→Valid Tryz.prog aS g S:=aT (l:=[(43,y8),(45,U6),(121,Yu)]) ⟨V8,aq3,atO,trivial⟩
noncomputable def aa6:Hand:=inl Tryz.prog aS Ah (kD 84 4 2 (EH.lp) (kD 120 4 1 (CV.lp) (lX Tryz.prog aS (Ah) 20 2))) 9
theorem aiY:dF Tryz.prog aS aa6:=bQ Ef (dM Tryz.func84 rfl (by kernel_rfl) aag (dM Tryz.func120 rfl (by kernel_rfl) OB (dQ Ef))) 9
theorem au4 (s:rM) (hI:Vo s):(Zv s).all (fun _=>True):=by
 refine ⟨fun c1=>⟨?_,?_,⟨rfl,rfl⟩,trivial⟩,fun c1=>⟨⟨rfl,rfl⟩,trivial⟩⟩
 all_goals (exact hI.elim)
theorem awn:Oe.Ok:=⟨fun s=>by kernel_rfl,fun s=>by kernel_rfl,fun s=>rfl,fun s t r=>rfl,fun s=>rfl,fun s=>by kernel_rfl⟩
theorem awi:Oe.Pf (atf):=⟨azQ,fun _ _=>rfl,auE,au4⟩
theorem amr:bg Tryz.prog aS (AN 4) (.loop Jk) Oe.lp:=bM.snd awn awi (bF (Γ:=Ah) (K:=aa6) (L:=(tN Tryz.prog aS Ah aa6 20 2)) Ef aiY Jk (fun b _=>dR Ef aiY 20 2 b)) (fun s=>by kernel_rfl)
structure rO where
 n:Int
 di:Int
 b0:List Dm
 b1:Int
 data:List Int
def aDt (s:rO):List LV:=[.os 2 1 0 (List.length s.data),.v (.int .i64 s.n),.fn 45 [.own 0 0,.own 3 0],.v (.int .i64 s.di)]
def aCt (s:rO):List aU:=[⟨[.xl pR s.b0],31,.cl,false⟩,⟨[.v (.int .i64 s.b1)],3,.cl,false⟩,⟨[],3,.vec (.int .i64) s.data,false⟩,⟨[.fn 43 [.own 0 0,.own 1 0]],84,.cl,false⟩]
noncomputable def UJ:Code:=((aB (Tryz.f84.body.getD .skip))[1]?).getD .skip
def Zw (s:rO):T (Rd rO):=
 .br (decide (s.di<s.n)) (.rl s.data (.req (ayq (⟨s.n,s.di,(0:Int),(IntKind.i64.wrap (2*s.di)),s.b0,s.b1,s.data⟩:rM)) (.br (decide ((IntKind.i64.wrap ((anC (⟨s.n,s.di,(0:Int),(IntKind.i64.wrap (2*s.di)),s.b0,s.b1,s.data⟩:rM)).a+s.di))<s.n)) (.req (0+(List.length s.data)≤List.length s.data) (.req False (.rl s.data (.ok (.next {s with di:=(IntKind.i64.wrap (s.di*2))}))))) (.rl s.data (.ok (.next {s with di:=(IntKind.i64.wrap (s.di*2))})))))) (.rl s.data (.ok (.stop (.exit 2) s)))
abbrev asG (s:rO):=(Zw s).rd s
def alz (s:rO):Prop:=s.di=20∧s.n<20
def Na (s:rO):Prop:=s.di=20∧s.n<20
def Xn (_:rO):Nat:=0
def atg (x:Ex) (_ _:rO):Prop:=x=.exit 2
theorem azS:∀s,alz s→Na s:=by
 exact fun s h=>h
theorem auF (s:rO) (hI:Na s):bJ (fun s'=>Na s'∧Xn s'<Xn s) (fun x s'=>atg x s s') (asG s):=by
 unfold asG Zw
 dsimp only [T.rd,T.rl]
 obtain ⟨h0,h1⟩:=hI
 refine au (fun c1=>absurd (show s.di<s.n by simpa using c1) (by omega)) (fun c1=>rfl)
def VS:bM rO:=⟨4,63,[0,1,2,6],[],aDt,aCt,fun v b=>⟨gI (v.getD 1 .junk),gI (v.getD 3 .junk),aQ pR (aY (aO b 0) 0),gI (aY (aO b 1) 0),iR (.int .i64) (aO b 2)⟩,Zw,fun s r=> {r with n:=s.n,b0:=s.b0,b1:=s.b1,data:=s.data},fun s=>s,fun _ s=>s,[.exit 2],alz,Na,Xn⟩
abbrev ayr:=VS.q
theorem au5 (s:rO) (hI:Na s):(Zw s).all (fun _=>True):=by
 refine ⟨fun c1=>⟨⟨rfl,rfl⟩,?_,fun c2=>⟨?_,?_,⟨rfl,rfl⟩,trivial⟩,fun c2=>⟨⟨rfl,rfl⟩,trivial⟩⟩,fun c1=>⟨⟨rfl,rfl⟩,trivial⟩⟩
 all_goals ((simp only [decide_eq_true_eq] at c1;exact absurd c1 (by have:=hI;unfold Na at this;omega)))
theorem awo:VS.Ok:=⟨fun s=>by kernel_rfl,fun s=>by kernel_rfl,fun s=>rfl,fun s t r=>rfl,fun s=>rfl,fun s=>by kernel_rfl⟩
theorem awj:VS.Pf (atg):=⟨azS,fun _ _=>rfl,auF,au5⟩
theorem ams:bg Tryz.prog aS (AN 4) (.loop UJ) VS.lp:=bM.snd awo awj (bF (Γ:=Ah) (K:=aa6) (L:=(aeW (fun i=>if i=9 then Oe.lp else aC i))) Ef aiY UJ (fun b hb=>by
 rw [show aB _=[Jk] by kernel_rfl] at hb
 simp only [List.mem_cons,List.not_mem_nil,or_false] at hb
 subst hb
 exact amr)) (fun s=>by kernel_rfl)
def ac5:List LV→T LV
 | [.xl (.pair .bool (.pair (.int .i64) (.pair (.int .i64) (.int .i64)))) d,.v (.int .i64 t)]=> .req (xY d t∧d.length≤19) (.ok (.xl (.int .i64) (iM d t)))
 |_=> .no
noncomputable def zf:List LV→T LV:=gQ Tryz.prog Tryz.f19.params.toList ac5
def iq (d:List Dm) (t:Int):qJ:=(⟨(((List.length d:Int).toNat:Nat):Int),(0:Int),d,t,(List.replicate (List.length d:Int).toNat (0:Int))⟩:qJ)
def gu (d:List Dm) (t:Int):nC:=(⟨((List.length (jS (iq d t)).out:Nat):Int),(20:Int),(0:Int),(20:Int),d,t,(jS (iq d t)).out⟩:nC)
def oD (d:List Dm) (t:Int):ku:=(⟨(iY (gu d t)).a,((List.length (jS (iq d t)).out:Nat):Int),(IntKind.i64.wrap ((iY (gu d t)).a+1)),d,t,(iY (gu d t)).data⟩:ku)
def SS (d:List Dm) (t:Int):rO:=(⟨((List.length (jS (iq d t)).out:Nat):Int),(20:Int),d,t,(pV (oD d t)).data⟩:rO)
noncomputable def arS:Hand:=inl Tryz.prog aS Ah (kD 84 4 7 (VS.lp) (kD 84 4 2 (EH.lp) (kD 120 4 1 (CV.lp) (lX Tryz.prog aS (Ah) 20 2)))) 9
theorem aBd:dF Tryz.prog aS arS:=bQ Ef (dM Tryz.func84 rfl (by kernel_rfl) ams (dM Tryz.func84 rfl (by kernel_rfl) aag (dM Tryz.func120 rfl (by kernel_rfl) OB (dQ Ef)))) 9
theorem aoM (d:List Dm) (t:Int):bV Tryz.prog aS (Ah) arS (fun i=>if i=3 then E5.lp else aC i) Tryz.f19 [.xl pR d,.v (.int .i64 t)]=.req (0≤(List.length d:Int)∧(List.length d:Int)≤(List.length d:Int)∧8*(List.length d:Int)≤2^48∧(List.length d:Int)<2^63) (.req (0=0∧(List.length d:Int).toNat=List.length (List.replicate (List.length d:Int).toNat (0:Int))) (.req (ayN (iq d t)) (.rl (jS (iq d t)).out (.req (ays (gu d t)) (.rl (iY (gu d t)).data (.req (alO (oD d t)) (.req (0=0∧(List.length (iY (gu d t)).data)=List.length (pV (oD d t)).data) (.req (ayr (SS d t)) (.req (0+(List.length (jS (iq d t)).out)≤List.length (pV (oD d t)).data) (.ok (.xl (.int .i64) (((pV (oD d t)).data.drop 0).take (List.length (jS (iq d t)).out))))))))))))):=by kernel_rfl
theorem Wh:Valid Tryz.prog aS 19 zf:=aH Tryz.func19 rfl Ef aBd (L:=(fun i=>if i=3 then E5.lp else aC i)) (fun b hb=>by
 rw [show aB _=[Bv] by kernel_rfl] at hb
 simp only [List.mem_cons,List.not_mem_nil,or_false] at hb
 subst hb
 exact amT) (fun args lv h=>by
 unfold ac5 at h
 split at h
 ·simp only [canL,canX]
  rw [aoM]
  rename_i d t
  obtain ⟨⟨hw,hd⟩,rfl⟩:=h
  have hE:adS (iq d t):=⟨rfl,by show List.replicate (List.length d:Int).toNat (0:Int)=List.replicate d.length 0;rw [Int.toNat_natCast],by show (((List.length d:Int).toNat:Nat):Int)=(List.length d:Int);omega,by show (((List.length d:Int).toNat:Nat):Int)≤1000;omega,by show (List.replicate _ (0:Int)).length=d.length;rw [List.length_replicate];omega⟩
  obtain ⟨_,_,_,q1⟩:=an5 _ hE
  have q1:(jS (iq d t)).out=yM d.length:=q1
  have hl:(jS (iq d t)).out.length=d.length:=by rw [q1,qh]
  have hE2:adL (gu d t):=⟨rfl,by show ((List.length (jS (iq d t)).out:Nat):Int)<20;omega⟩
  obtain ⟨_,q2⟩:=amg _ hE2
  have q2a:(iY (gu d t)).data=yM d.length:=(congrArg Prod.fst q2).trans q1
  have q2b:(iY (gu d t)).a=0:=congrArg Prod.snd q2
  have hE3:adY (oD d t):=⟨by show IntKind.i64.wrap ((iY (gu d t)).a+1)=1;rw [q2b];rfl,⟨q2b,by show ((List.length (jS (iq d t)).out:Nat):Int)=(List.length (iY (gu d t)).data:Int);rw [q2a,hl,qh]⟩,⟨by show (iY (gu d t)).data.length=d.length;rw [q2a,qh],by show (List.length (iY (gu d t)).data:Int)≤1000;rw [q2a,qh];omega⟩,fun x hx=>Tq.1 (by have hx:x∈(iY (gu d t)).data:=hx;rw [q2a] at hx;exact hx),hw⟩
  obtain ⟨_,q3⟩:=apz _ hE3
  have q3:(pV (oD d t)).data=iM d t:=q3.trans (by
   show uT (ltD d t) (iY (gu d t)).data (IntKind.i64.wrap ((iY (gu d t)).a+1)).toNat=_
   rw [q2b,q2a]
   exact ael)
  have hl3:(pV (oD d t)).data.length=d.length:=by rw [q3,TI]
  have hE4:alz (SS d t):=⟨rfl,by show ((List.length (jS (iq d t)).out:Nat):Int)<20;omega⟩
  refine ⟨⟨by omega,by omega,by omega,by omega⟩,⟨rfl,by simp⟩,⟨hE,rfl,rfl⟩,⟨rfl,rfl⟩,⟨hE2,rfl,rfl⟩,⟨rfl,rfl⟩,⟨hE3,rfl,rfl⟩,⟨rfl,by rw [q2a,qh,hl3]⟩,⟨hE4,rfl,rfl⟩,by omega,?_⟩
  show LV.xl _ _=_
  rw [List.drop_zero,hl,←hl3,List.take_length,q3]
 ·cases h)
end Go.Proofs.YtlihnbimgclogaaGreatDoor
namespace Go.Proofs.YtlihnbimgclogaaGreatDoor
def isL (mn mx st a:Int):Bool:=a==0 ||(decide (mn≤a)&&(decide (a≤mx)&&((a-mn) %st==0)))
theorem rD {mn mx st a:Int}:isL mn mx st a=true↔a=0∨(mn≤a∧a≤mx∧(a-mn) %st=0):=by simp [isL]
theorem zV {mn mx st a:Int}(hc:sU mn mx st):isL mn mx st (kV mn mx st a)=true:=by
 unfold sU at hc
 rw [rD]
 unfold kV
 split
 ·exact .inl rfl
 ·right
  have e1:=uH (x:=min a mx-mn) (s:=st) (by omega) (by omega)
  refine ⟨by omega,by omega,?_⟩
  have h:=Int.mul_ediv_add_emod (min a mx-mn) st
  rw [show min a mx-(min a mx-mn) %st-mn=st*((min a mx-mn) / st) by omega]
  exact Int.mul_emod_right _ _
theorem Iw {mn mx st a:Int}(hc:sU mn mx st) (ha:0≤a):kV mn mx st a≤a:=by
 have hc':=hc
 unfold sU at hc'
 have:=nR (a:=a) hc'.1 hc'.2.1 hc'.2.2.1 hc'.2.2.2.1
 by_cases h:a<mn
 ·omega
 ·omega
theorem apk {x y s:Int}(hs:1≤s) (hy:y%s=0) (h:y≤x):y≤x-x%s:=by
 have h1:=Int.mul_ediv_add_emod x s
 have h2:=Int.mul_ediv_add_emod y s
 have h3:=Int.emod_lt_of_pos x (b:=s) (by omega)
 by_cases hq:y / s≤x / s
 ·have:=Int.mul_le_mul_of_nonneg_left hq (show 0≤s by omega)
  omega
 ·have:=Int.mul_le_mul_of_nonneg_left (show x / s+1≤y / s by omega) (show 0≤s by omega)
  rw [Int.mul_add,Int.mul_one] at this
  omega
theorem mG {mn mx st a L:Int}(hc:sU mn mx st) (hL:isL mn mx st L=true) (h:L≤a):L≤kV mn mx st a:=by
 have hc':=hc
 unfold sU at hc'
 rw [rD] at hL
 rcases hL with rfl|⟨h1,h2,h3⟩
 ·exact (nR (a:=a) hc'.1 hc'.2.1 hc'.2.2.1 hc'.2.2.2.1).1
 ·unfold kV
  rw [if_neg (by omega)]
  have:=apk (x:=min a mx-mn) (y:=L-mn) (s:=st) (by omega) h3 (by omega)
  omega
theorem zU {mn mx st a:Int}(hc:sU mn mx st) (h:isL mn mx st a=true) (ha:0≤a):kV mn mx st a=a:=by
 have h1:=Iw hc ha
 have h2:=mG hc h (Int.le_refl a)
 omega
theorem zN {ph mn mx st fb a s want:Int}(h:okB ph mn mx st fb a s want=true):sU mn mx st∧0≤s∧s≤1000000∧0≤want∧want≤80∧0≤a∧a≤80∧isL mn mx st a=true∧a≤mx∧(a≠0→mn≤a):=by
 have h':=h
 simp only [okB,D5,Bool.and_eq_true,decide_eq_true_eq,beq_iff_eq] at h'
 obtain ⟨⟨_,_,_,_,h5⟩,_⟩:=h'
 obtain ⟨_,h2,h3,h4,h6,h7,_⟩:=aaG h
 have hl:isL mn mx st a=true:=by rw [←h5];exact zV h2
 have hl':=rD.1 hl
 have h2':=h2
 unfold sU at h2'
 exact ⟨h2,h3.1,h3.2,h4.1,h4.2,h6,h7,hl,by omega,by omega⟩
theorem aAU {ph mn mx st fb a s want:Int}(h:okB ph mn mx st fb a s want=true):nE ph mn mx st fb a s want=0:=by rw [nE,if_pos h]
theorem aiy {ph mn mx st fb a s want:Int}(h:okB ph mn mx st fb a s want=true):nA ph mn mx st fb a s want=if a=0 then (if kV mn mx st want≠0∧5≤s then mn else 0) else if kV mn mx st want=0 then 0 else min (kV mn mx st want) (a+st):=by rw [nA,if_pos h]
theorem arx {ph mn mx st fb a s want:Int}(h:okB ph mn mx st fb a s want=true):nS ph mn mx st fb a s want=if a=0 then (if kV mn mx st want≠0∧5≤s then 0 else min (s+1) 1000000) else if kV mn mx st want=0 then 0 else min (s+1) 1000000:=by rw [nS,if_pos h]
theorem aiR {mn mx st:Int}(hc:sU mn mx st):isL mn mx st mn=true:=by
 unfold sU at hc
 rw [rD];right;exact ⟨by omega,by omega,by simp⟩
theorem apA {mn mx st a:Int}(ha:isL mn mx st a=true) (h0:a≠0) (h1:a+st≤mx) (hs:1≤st):isL mn mx st (a+st)=true:=by
 rw [rD] at ha⊢
 rcases ha with h|⟨h2,h3,h4⟩
 ·exact absurd h h0
 ·right
  exact ⟨by omega,h1,by rw [show a+st-mn=(a-mn)+st by omega,Int.add_emod_right];exact h4⟩
theorem TV {mn mx st a b:Int}(hc:sU mn mx st) (h0:0≤a) (h:a≤b):kV mn mx st a≤kV mn mx st b:=by
 have h1:=Iw hc h0
 exact mG hc (zV (a:=a) hc) (by omega)
theorem aeD {mn mx st a:Int}(hc:sU mn mx st):kV mn mx st a≤mx:=by
 have h:=rD.1 (zV (a:=a) hc)
 unfold sU at hc
 omega
theorem anS {mn mx st a want:Int}(hc:sU mn mx st) (ha:isL mn mx st a=true) (h0:a≠0) (ha0:0≤a) (hw:0≤want):(if kV mn mx st want=0 then 0 else min (kV mn mx st want) (a+st))=kV mn mx st (min want (a+st)):=by
 have hc':=hc
 unfold sU at hc'
 have hla:=rD.1 ha
 by_cases h1:want≤a+st
 ·rw [show min want (a+st)=want by omega]
  have:=Iw hc hw
  split<;>omega
 ·rw [show min want (a+st)=a+st by omega]
  have hge:a≤kV mn mx st want:=mG hc ha (by omega)
  rw [if_neg (by omega)]
  by_cases h2:a+st≤mx
  ·have hl:=apA ha h0 h2 (by omega)
   rw [zU hc hl (by omega)]
   have:=mG hc hl (show a+st≤want by omega)
   omega
  ·have m1:=aeD (a:=want) hc
   have g1:=mG hc (zV (a:=want) hc) (show kV mn mx st want≤a+st by omega)
   have g2:=TV hc (show 0≤a+st by omega) (show a+st≤want by omega)
   omega
theorem aaJ {ph mn mx st fb a s want most:Int}(hk:okB ph mn mx st fb a s want=true) (hm:most=if a=0 then mn else a+st):
  isL mn mx st (nA ph mn mx st fb a s want)=true∧nA ph mn mx st fb a s want≤want∧nA ph mn mx st fb a s want≤most∧(nA ph mn mx st fb a s want=kV mn mx st (min want most)∨(a=0∧s<5∧nA ph mn mx st fb a s want=0))∧(a≠0∨5≤s∨nA ph mn mx st fb a s want=0):=by
 obtain ⟨hc,h1,h2,h3,h4,h5,h6,h7,h8,h9⟩:=zN hk
 have hc':=hc
 unfold sU at hc'
 rw [aiy hk]
 have lw:=Iw hc h3
 by_cases h0:a=0
 ·rw [if_pos h0] at hm⊢
  by_cases hh:kV mn mx st want≠0∧5≤s
  ·rw [if_pos hh]
   have hw:mn≤want:=by
    apply Classical.byContradiction
    intro hn
    exact hh.1 (by rw [kV,if_pos (by omega)])
   refine ⟨aiR hc,hw,by omega,.inl ?_,.inr (.inl hh.2)⟩
   rw [hm,show min want mn=mn by omega,zU hc (aiR hc) (by omega)]
  ·rw [if_neg hh]
   refine ⟨by simp [isL],h3,by omega,?_,.inr (.inr rfl)⟩
   by_cases hs:s<5
   ·exact .inr ⟨h0,hs,rfl⟩
   ·left
    have h10:kV mn mx st want=0:=by
     apply Classical.byContradiction
     intro hn
     exact hh ⟨hn,by omega⟩
    have:=TV hc (show 0≤min want most by omega) (show min want most≤want by omega)
    have:=(nR (a:=min want most) hc'.1 hc'.2.1 hc'.2.2.1 hc'.2.2.2.1).1
    omega
 ·rw [if_neg h0] at hm⊢
  rw [anS hc h7 h0 h5 h3]
  have:=Iw hc (show 0≤min want (a+st) by omega)
  exact ⟨zV hc,by omega,by omega,.inl (by rw [hm]),.inl h0⟩
theorem af9 {ph mn mx st fb a s:Int}(h:D5 ph mn mx st fb a s=true):0≤s∧s≤1000000:=by
 simp [D5] at h;omega
theorem Ic {ph mn mx st fb a s want:Int}(hk:okB ph mn mx st fb a s want=true):
  0≤nA ph mn mx st fb a s want∧(0≤nS ph mn mx st fb a s want∧nS ph mn mx st fb a s want≤1000000∧nS ph mn mx st fb a s want≤s+1)∧(a=0→nA ph mn mx st fb a s want≠0→5≤s)∧(a≠0→nA ph mn mx st fb a s want=0→nS ph mn mx st fb a s want=0)∧
  (¬((nA ph mn mx st fb a s want=0)↔(a=0))→nS ph mn mx st fb a s want=0)∧(((nA ph mn mx st fb a s want=0)↔(a=0))→nS ph mn mx st fb a s want=min (s+1) 1000000):=by
 obtain ⟨hc,h1,h2,h3,h4,h5,h6,h7,h8,h9⟩:=zN hk
 have hc':=hc
 unfold sU at hc'
 have hb:=(nR (a:=want) hc'.1 hc'.2.1 hc'.2.2.1 hc'.2.2.2.1).1
 rw [aiy hk,arx hk]
 by_cases h0:a=0
 ·simp only [if_pos h0]
  by_cases hh:kV mn mx st want≠0∧5≤s
  ·simp only [if_pos hh];exact ⟨by omega,⟨by omega,by omega,by omega⟩,fun _ _=>by omega,fun _ _=>by omega,fun _=>trivial,fun h=>absurd (h.2 h0) (by omega)⟩
  ·simp only [if_neg hh];exact ⟨by omega,⟨by omega,by omega,by omega⟩,fun _ _=>by omega,fun _ _=>by omega,fun h=>absurd ⟨fun _=>h0,fun _=>trivial⟩ h,fun _=>trivial⟩
 ·simp only [if_neg h0]
  by_cases hh:kV mn mx st want=0
  ·simp only [if_pos hh];exact ⟨by omega,⟨by omega,by omega,by omega⟩,fun _ _=>by omega,fun _ _=>by omega,fun _=>trivial,fun h=>absurd (h.1 trivial) h0⟩
  ·simp only [if_neg hh];exact ⟨by omega,⟨by omega,by omega,by omega⟩,fun _ _=>by omega,fun _ _=>by omega,fun h=>absurd ⟨fun e=>by omega,fun e=>absurd e h0⟩ h,fun _=>trivial⟩
theorem aaA {ph mn mx st fb a s want:Int}(hk:okB ph mn mx st fb a s want=true):D5 ph mn mx st fb (nA ph mn mx st fb a s want) (nS ph mn mx st fb a s want)=true:=by
 obtain ⟨hc,_⟩:=zN hk
 obtain ⟨n1,n2,_⟩:=Ic hk
 have hp:=(aaJ hk rfl).1
 have hl:=zU hc hp n1
 have hch:KJ ph mn mx st fb=true:=by
  have h':=hk
  simp only [okB,D5,Bool.and_eq_true] at h'
  exact h'.1.1
 simp [D5,hch,n1,n2,hl]
end Go.Proofs.YtlihnbimgclogaaGreatDoor
namespace Go.Proofs.YtlihnbimgclogaaGreatDoor
open Go.Sx
structure kQ where
 rs:List Ra
 tick:Int
 n:Int
 t15:Int
 offers:List Int
 m:List Ch
 k:Int
 i:Int
 Yb:List Cd
 c1:List ByteArray
 c2:List Ko
 c3:List Ch
 c4:List Ba
 jw:List Le
 DL:List Dm
 uK:Int
 QM:List Int
 dO:List Int
 next:List Ra
 cZ:List Le
def aEi (s:kQ):List LV:=[.xl CZ s.rs,.v (.int .i64 s.tick),.v (.int .i64 s.n),.v (.slice none 0 0),.v (.slice none 0 0),.v (.slice none 0 0),.v (.int .i64 s.t15),.own 0 0,.xl (.int .i64) s.offers,.os 1 1 0 (List.length s.dO),.os 2 2 0 (List.length s.next),.os 3 5 0 (List.length s.cZ),.xl dP s.m,.v (.int .i64 s.k),.v (.int .i64 s.i)]
def aDi (s:kQ):List aU:=[⟨[.xl dU s.Yb,.xl .str s.c1,.xl dV s.c2,.xl dP s.c3,.xl dW s.c4,.xl ig s.jw,.xl pR s.DL,.v (.int .i64 s.uK),.xl (.int .i64) s.QM],75,.cl,true⟩,⟨[],3,.vec (.int .i64) s.dO,false⟩,⟨[],53,.vec CZ s.next,false⟩,⟨[],63,.vec ig s.cZ,false⟩]
noncomputable def BX:Code:=((aB (Tryz.f14.body.getD .skip))[0]?).getD .skip
def Ou (s:kQ) (e:Int) (w:Bool) (x:Int) (y:Int):T (Rd kQ):=
 .br (decide (s.i<s.k)) (.req (0≤s.i∧s.i<(List.length s.m:Int)) (.req (0≤s.i∧s.i<(List.length s.rs:Int)) (.req (0≤s.i∧s.i<(List.length s.offers:Int)) (.br (e !=0) (.rl s.dO (.rl s.next (.rl s.cZ (.ok (.stop (.ret) {s with t15:=(1:Int)}))))) (.req (0≤s.i∧s.i<((List.length s.dO:Nat):Int)) (.req (s.i.toNat<List.length s.dO) (.req (0≤s.i∧s.i<((List.length s.next:Nat):Int)) (.req (s.i.toNat<List.length s.next) (.req ((0≤s.i∧s.i<(List.length s.c3:Int))∧(List.length s.jw:Int)≤1000∧0≤s.uK∧s.uK≤1000000) (.br w (.req (0+(List.length s.cZ)=List.length s.cZ∧((List.length s.cZ+List.length ([(s.n,(s.i,(x,(s.tick,(12:Int)))))]):Nat):Int)*40≤2^47∧((List.length s.cZ+List.length ([(s.n,(s.i,(x,(s.tick,(12:Int)))))]):Nat):Int)<2^62) (.req (0=0∧(List.length s.dO)=List.length (s.dO.set s.i.toNat x)) (.req (0=0∧(List.length s.next)=List.length (s.next.set s.i.toNat (x,y))) (.req (0=0∧(List.length s.cZ+List.length ([(s.n,(s.i,(x,(s.tick,(12:Int)))))]))=List.length (s.cZ++([(s.n,(s.i,(x,(s.tick,(12:Int)))))]))) (.ok (.next {s with n:=(IntKind.i64.wrap (s.n+1)),i:=(IntKind.i64.wrap (s.i+1)),dO:=(s.dO.set s.i.toNat x),next:=(s.next.set s.i.toNat (x,y)),cZ:=(s.cZ++([(s.n,(s.i,(x,(s.tick,(12:Int)))))]))})))))) (.req (0=0∧(List.length s.dO)=List.length (s.dO.set s.i.toNat x)) (.req (0=0∧(List.length s.next)=List.length (s.next.set s.i.toNat (x,y))) (.rl s.cZ (.ok (.next {s with i:=(IntKind.i64.wrap (s.i+1)),dO:=(s.dO.set s.i.toNat x),next:=(s.next.set s.i.toNat (x,y))}))))))))))))))) (.rl s.dO (.rl s.next (.rl s.cZ (.ok (.stop (.exit 0) s)))))
abbrev Z8 (s:kQ):=Ou s (nE (bn s.m s.i).2.2.1 (bn s.m s.i).2.2.2.1 (bn s.m s.i).2.2.2.2.1 (bn s.m s.i).2.2.2.2.2.1 (bn s.m s.i).2.2.2.2.2.2.1 (lm s.rs s.i).1 (lm s.rs s.i).2 (gi s.offers s.i)) (nwB s.c3 s.jw s.uK s.i (nA (bn s.m s.i).2.2.1 (bn s.m s.i).2.2.2.1 (bn s.m s.i).2.2.2.2.1 (bn s.m s.i).2.2.2.2.2.1 (bn s.m s.i).2.2.2.2.2.2.1 (lm s.rs s.i).1 (lm s.rs s.i).2 (gi s.offers s.i))) (nA (bn s.m s.i).2.2.1 (bn s.m s.i).2.2.2.1 (bn s.m s.i).2.2.2.2.1 (bn s.m s.i).2.2.2.2.2.1 (bn s.m s.i).2.2.2.2.2.2.1 (lm s.rs s.i).1 (lm s.rs s.i).2 (gi s.offers s.i)) (nS (bn s.m s.i).2.2.1 (bn s.m s.i).2.2.2.1 (bn s.m s.i).2.2.2.2.1 (bn s.m s.i).2.2.2.2.2.1 (bn s.m s.i).2.2.2.2.2.2.1 (lm s.rs s.i).1 (lm s.rs s.i).2 (gi s.offers s.i))
abbrev ajN (s:kQ):=(Z8 s).rd s
def VP (s:kQ):Prop:=s.i=0∧s.cZ=[]∧(s.k=(List.length s.m:Int)∧s.k≤16)∧(s.c3=s.m∧s.uK=s.tick)∧((List.length s.jw:Int)≤1000∧0≤s.tick∧s.tick≤1000000)∧(s.rs.length=s.m.length∧s.offers.length=s.m.length∧s.dO.length=s.m.length∧s.next.length=s.m.length)∧dcK s.m s.rs s.offers∧1≤s.n-(List.length s.cZ:Int)∧s.n-(List.length s.cZ:Int)≤999900
def Ez (s:kQ):Prop:=(0≤s.i∧s.i≤s.k)∧(∀j,0≤j→j<s.i→gi s.dO j=nxA (bn s.m j) (lm s.rs j) (gi s.offers j)∧lm s.next j=(nxA (bn s.m j) (lm s.rs j) (gi s.offers j),nxS (bn s.m j) (lm s.rs j) (gi s.offers j)))∧s.cZ=QJ s.m s.jw s.tick (s.n-(List.length s.cZ:Int)) (UE s.m s.rs s.offers s.m.length) s.i.toNat∧(s.k=(List.length s.m:Int)∧s.k≤16)∧(s.c3=s.m∧s.uK=s.tick)∧((List.length s.jw:Int)≤1000∧0≤s.tick∧s.tick≤1000000)∧(s.rs.length=s.m.length∧s.offers.length=s.m.length∧s.dO.length=s.m.length∧s.next.length=s.m.length)∧dcK s.m s.rs s.offers∧1≤s.n-(List.length s.cZ:Int)∧s.n-(List.length s.cZ:Int)≤999900
def yQ (s:kQ):Nat:=(s.k-s.i).toNat
def adK (x:Ex) (_ s':kQ):Prop:=x=.exit 0∧s'.dO=UE s'.m s'.rs s'.offers s'.m.length∧s'.next=dcR s'.m s'.rs s'.offers s'.m.length∧s'.cZ=QJ s'.m s'.jw s'.tick (s'.n-(List.length s'.cZ:Int)) (UE s'.m s'.rs s'.offers s'.m.length) s'.m.length
theorem aB3:∀s,VP s→Ez s:=by
 intro s h
 obtain ⟨h0,h1,h2⟩:=h
 exact ⟨by omega,fun j j0 j1=>by omega,by rw [h0,h1];rfl,h2⟩
theorem aqA (s:kQ) (hI:Ez s) (e:Int) (w:Bool) (x:Int) (y:Int) (he:nE (bn s.m s.i).2.2.1 (bn s.m s.i).2.2.2.1 (bn s.m s.i).2.2.2.2.1 (bn s.m s.i).2.2.2.2.2.1 (bn s.m s.i).2.2.2.2.2.2.1 (lm s.rs s.i).1 (lm s.rs s.i).2 (gi s.offers s.i)=e) (hw:nwB s.c3 s.jw s.uK s.i (nA (bn s.m s.i).2.2.1 (bn s.m s.i).2.2.2.1 (bn s.m s.i).2.2.2.2.1 (bn s.m s.i).2.2.2.2.2.1 (bn s.m s.i).2.2.2.2.2.2.1 (lm s.rs s.i).1 (lm s.rs s.i).2 (gi s.offers s.i))=w) (hx:nA (bn s.m s.i).2.2.1 (bn s.m s.i).2.2.2.1 (bn s.m s.i).2.2.2.2.1 (bn s.m s.i).2.2.2.2.2.1 (bn s.m s.i).2.2.2.2.2.2.1 (lm s.rs s.i).1 (lm s.rs s.i).2 (gi s.offers s.i)=x) (hy:nS (bn s.m s.i).2.2.1 (bn s.m s.i).2.2.2.1 (bn s.m s.i).2.2.2.2.1 (bn s.m s.i).2.2.2.2.2.1 (bn s.m s.i).2.2.2.2.2.2.1 (lm s.rs s.i).1 (lm s.rs s.i).2 (gi s.offers s.i)=y):bJ (fun s'=>Ez s'∧yQ s'<yQ s) (fun x s'=>adK x s s') ((Ou s e w x y).rd s):=by
 unfold Ou
 dsimp only [T.rd,T.rl]
 obtain ⟨⟨h0,h1⟩,hA,hL,⟨h2,h3⟩,⟨h4,h5⟩,h6,⟨h7,h8,h9,h10⟩,hk,h11⟩:=hI
 have hll:s.cZ.length≤s.i.toNat:=(by rw [hL];exact uI)
 refine au (fun c1=>?_) (fun c1=>?_)
 ·refine au (fun c2=>?_) (fun c2=>?_)
  ·have c1:s.i<s.k:=by simpa using c1
   have hm:s.i<(s.m.length:Int):=by omega
   exact absurd (he.symm.trans (aAU (hk s.i h0 hm))) (by simpa using c2)
  ·refine au (fun c3=>?_) (fun c3=>?_)
   ·have c1:s.i<s.k:=by simpa using c1
    have hm:s.i<(s.m.length:Int):=by omega
    have hx':nxA (bn s.m s.i) (lm s.rs s.i) (gi s.offers s.i)=x:=hx
    have hy':nxS (bn s.m s.i) (lm s.rs s.i) (gi s.offers s.i)=y:=hy
    have hA':∀j,0≤j→j<s.i+1→gi (s.dO.set s.i.toNat x) j=nxA (bn s.m j) (lm s.rs j) (gi s.offers j)∧lm (s.next.set s.i.toNat (x,y)) j=(nxA (bn s.m j) (lm s.rs j) (gi s.offers j),nxS (bn s.m j) (lm s.rs j) (gi s.offers j)):=fun j j0 j1=>by
     rw [lg h0 (by omega) j0,abp h0 (by omega) j0]
     by_cases e:j=s.i
     ·subst e
      rw [if_pos rfl,if_pos rfl,hx',hy']
      exact ⟨rfl,rfl⟩
     ·rw [if_neg e,if_neg e]
      exact hA j j0 (by omega)
    have hs:s.i.toNat+1=(s.i+1).toNat:=by omega
    have hg:gi (UE s.m s.rs s.offers s.m.length) (s.i.toNat:Nat)=x:=by rw [Int.toNat_of_nonneg h0,UE,mF h0 hm,hx']
    have hw':nwB s.m s.jw s.tick (s.i.toNat:Nat) x=w:=by rw [Int.toNat_of_nonneg h0,←hw,h4,h5];rw [←hx]
    rw [aK (x:=s.i+1) (by omega) (by omega),aK (x:=s.n+1) (by omega) (by omega)]
    have hn:s.n+1-((List.length (s.cZ++[(s.n,s.i,x,s.tick,12)]):Nat):Int)=s.n-(List.length s.cZ:Int):=by
     rw [List.length_append]
     show s.n+1-((s.cZ.length+1:Nat):Int)=_
     omega
    refine ⟨⟨⟨by simp only;omega,by simp only;omega⟩,hA',?_,⟨h2,h3⟩,⟨h4,h5⟩,h6,⟨h7,h8,by simp only [List.length_set];exact h9,by simp only [List.length_set];exact h10⟩,hk,by simp only;rw [hn];exact h11⟩,by simp only [yQ];omega⟩
    simp only
    rw [hn,←hs,QJ,←hL,hg,hw',c3,if_pos rfl,Int.toNat_of_nonneg h0,show s.n-(List.length s.cZ:Int)+(List.length s.cZ:Int)=s.n by omega]
   ·have c1:s.i<s.k:=by simpa using c1
    have hm:s.i<(s.m.length:Int):=by omega
    have hx':nxA (bn s.m s.i) (lm s.rs s.i) (gi s.offers s.i)=x:=hx
    have hy':nxS (bn s.m s.i) (lm s.rs s.i) (gi s.offers s.i)=y:=hy
    have hA':∀j,0≤j→j<s.i+1→gi (s.dO.set s.i.toNat x) j=nxA (bn s.m j) (lm s.rs j) (gi s.offers j)∧lm (s.next.set s.i.toNat (x,y)) j=(nxA (bn s.m j) (lm s.rs j) (gi s.offers j),nxS (bn s.m j) (lm s.rs j) (gi s.offers j)):=fun j j0 j1=>by
     rw [lg h0 (by omega) j0,abp h0 (by omega) j0]
     by_cases e:j=s.i
     ·subst e
      rw [if_pos rfl,if_pos rfl,hx',hy']
      exact ⟨rfl,rfl⟩
     ·rw [if_neg e,if_neg e]
      exact hA j j0 (by omega)
    have hs:s.i.toNat+1=(s.i+1).toNat:=by omega
    have hg:gi (UE s.m s.rs s.offers s.m.length) (s.i.toNat:Nat)=x:=by rw [Int.toNat_of_nonneg h0,UE,mF h0 hm,hx']
    have hw':nwB s.m s.jw s.tick (s.i.toNat:Nat) x=w:=by rw [Int.toNat_of_nonneg h0,←hw,h4,h5];rw [←hx]
    rw [aK (x:=s.i+1) (by omega) (by omega)]
    refine ⟨⟨⟨by simp only;omega,by simp only;omega⟩,hA',?_,⟨h2,h3⟩,⟨h4,h5⟩,h6,⟨h7,h8,by simp only [List.length_set];exact h9,by simp only [List.length_set];exact h10⟩,hk,h11⟩,by simp only [yQ];omega⟩
    simp only
    rw [←hs,QJ,←hL,hg,hw',c3,if_neg (by decide),List.append_nil]
 ·have c1:s.k≤s.i:=by simpa using c1
  have hi:s.i.toNat=s.m.length:=by omega
  refine ⟨rfl,wo (by rw [h9];exact eU.symm) fun j j0 j1=>?_,apH (by rw [h10,Aq]) fun j j0 j1=>?_,by have hL':=hL;rw [hi] at hL';exact hL'⟩
  ·rw [UE,eU] at j1
   rw [UE,mF j0 j1]
   exact (hA j j0 (by omega)).1
  ·rw [Aq] at j1
   rw [QI j0 j1]
   exact (hA j j0 (by omega)).2
theorem axR (s:kQ) (hI:Ez s):bJ (fun s'=>Ez s'∧yQ s'<yQ s) (fun x s'=>adK x s s') (ajN s):=aqA s hI _ _ _ _ rfl rfl rfl rfl
def FM:bM kQ:=⟨0,108,[2,4,5,12,13,14,15,16,17,19,20,21,57,58,59],[.nl 21 63 ig],aEi,aDi,fun v b=>⟨aQ CZ (v.getD 0 .junk),gI (v.getD 1 .junk),gI (v.getD 2 .junk),gI (v.getD 6 .junk),aQ (.int .i64) (v.getD 8 .junk),aQ dP (v.getD 12 .junk),gI (v.getD 13 .junk),gI (v.getD 14 .junk),aQ dU (aY (aO b 0) 0),aQ .str (aY (aO b 0) 1),aQ dV (aY (aO b 0) 2),aQ dP (aY (aO b 0) 3),aQ dW (aY (aO b 0) 4),aQ ig (aY (aO b 0) 5),aQ pR (aY (aO b 0) 6),gI (aY (aO b 0) 7),aQ (.int .i64) (aY (aO b 0) 8),iR (.int .i64) (aO b 1),iR CZ (aO b 2),iR ig (aO b 3)⟩,Z8,fun s r=> {r with rs:=s.rs,tick:=s.tick,offers:=s.offers,m:=s.m,k:=s.k,Yb:=s.Yb,c1:=s.c1,c2:=s.c2,c3:=s.c3,c4:=s.c4,jw:=s.jw,DL:=s.DL,uK:=s.uK,QM:=s.QM},fun s=>s,fun _ s=>s,[.ret,.exit 0],VP,Ez,yQ⟩
abbrev gm:=FM.run
abbrev QE:=FM.jJ
abbrev azd:=FM.q
theorem avV (s:kQ) (hI:Ez s):(Z8 s).all (fun _=>True):=by
 refine ⟨fun c1=>⟨?_,?_,?_,fun c2=>⟨⟨rfl,rfl⟩,⟨rfl,rfl⟩,⟨rfl,rfl⟩,trivial⟩,fun c2=>⟨?_,?_,?_,?_,?_,fun c3=>⟨?_,?_,?_,?_,trivial⟩,fun c3=>⟨?_,?_,⟨rfl,rfl⟩,trivial⟩⟩⟩,fun c1=>⟨⟨rfl,rfl⟩,⟨rfl,rfl⟩,⟨rfl,rfl⟩,trivial⟩⟩
 all_goals ((obtain ⟨⟨h0,h1⟩,hA,hL,⟨h2,h3⟩,⟨h4,h5⟩,h6,⟨h7,h8,h9,h10⟩,hk,h11⟩:=hI;have hll:s.cZ.length≤s.i.toNat:=(by rw [hL];exact uI);(try simp only [decide_eq_true_eq] at c1);have hl3:s.c3.length=s.m.length:=congrArg List.length h4;first|omega|exact ⟨rfl,by simp⟩ |(refine ⟨by omega,?_,?_⟩<;>simp only [List.length_cons,List.length_nil]<;>omega)))
noncomputable def ajr:Specs:=aZ [(19,zf),(35,YW),(36,YZ),(37,YJ),(38,Y0)]
theorem ar2:∀g S,ajr g=some S→Valid Tryz.prog aS g S:=aT (l:=[(19,zf),(35,YW),(36,YZ),(37,YJ),(38,Y0)]) ⟨Wh,auo,auq,aub,aur,trivial⟩
theorem Xi:FM.Ok:=⟨fun s=>by kernel_rfl,fun s=>by kernel_rfl,fun s=>rfl,fun s t r=>rfl,fun s=>rfl,fun s=>by kernel_rfl⟩
theorem WS:FM.Pf (adK):=⟨aB3,fun _ _=>rfl,axR,avV⟩
theorem anj:bg Tryz.prog aS (AN 0) (.loop BX) FM.lp:=bM.snd Xi WS (aP (Γ:=ajr) (K:=dZ) (L:=aC) ar2 aF BX (fun b hb=>by rw [show aB BX=[] by kernel_rfl] at hb;cases hb)) (fun s=>by kernel_rfl)
theorem aqz (s:kQ) (hE:VP s):∃s',Ez s'∧adK (QE s) s' (gm s):=bM.fin Xi WS s hE
theorem aqy (s:kQ) (hE:VP s):(fun (_:Ex) (s':kQ) (v:Int)=>s'.n-(List.length s'.cZ:Int)=v) (QE s) (gm s) ((fun s:kQ=>s.n-(List.length s.cZ:Int)) s):=by
 exact bM.wC Xi WS (fun s:kQ=>s.n-(List.length s.cZ:Int)) (fun x s' v=>s'.n-(List.length s'.cZ:Int)=v) (fun s hI=>by
  show bJ _ _ (ajN s)
  unfold ajN Z8 Ou
  dsimp only [T.rd,T.rl]
  obtain ⟨⟨h0,h1⟩,hA,hL,⟨h2,h3⟩,⟨h4,h5⟩,h6,⟨h7,h8,h9,h10⟩,hk,h11⟩:=hI
  have hll:s.cZ.length≤s.i.toNat:=(by rw [hL];exact uI)
  refine au (fun c1=>?_) (fun c1=>?_)
  ·refine au (fun c2=>?_) (fun c2=>?_)
   ·rfl
   ·refine au (fun c3=>?_) (fun c3=>?_)
    ·have c1:s.i<s.k:=by simpa using c1
     rw [aK (x:=s.n+1) (by omega) (by omega)]
     show s.n+1-((List.length (s.cZ++[_]):Nat):Int)=s.n-(List.length s.cZ:Int)
     rw [List.length_append]
     show s.n+1-((s.cZ.length+1:Nat):Int)=_
     omega
    ·rfl
  ·rfl) s hE
def adw:List LV→T LV
 | [.agg [.xl (.pair .str (.pair (.int .i64) (.pair (.int .i64) (.pair (.int .i64) (.pair (.pair (.int .i64) (.int .i64)) (.pair (.int .i64) (.pair (.int .i64) (.pair (.int .i64) (.pair (.int .i64) (.int .i64)))))))))) cs,.xl (.str) os,.xl (.pair .str (.pair (.int .i64) (.pair (.int .i64) (.int .i64)))) ks,.xl (.pair .str (.pair (.int .i64) (.pair (.int .i64) (.pair (.int .i64) (.pair (.int .i64) (.pair (.int .i64) (.pair (.int .i64) (.int .i64)))))))) gs,.xl (.pair .str (.int .i64)) bs],.xl (.pair (.int .i64) (.pair (.int .i64) (.pair (.int .i64) (.pair (.int .i64) (.int .i64))))) l,.xl (.pair (.int .i64) (.int .i64)) rs,.xl (.pair .bool (.pair (.int .i64) (.pair (.int .i64) (.int .i64)))) d,.v (.int .i64 t),.v (.int .i64 n)]=> .req (xY d t∧d.length≤19) (.ok (.gq [.xl (.int .i64) (deA cs os ks gs bs l rs d t n),.xl CZ (deR cs os ks gs bs l rs d t n),.xl ig (Rq cs os ks gs bs l rs d t n),.v (.int .i64 (deE cs os ks gs bs l rs d t n))]))
 |_=> .no
noncomputable def JK:List LV→T LV:=gQ Tryz.prog Tryz.f14.params.toList adw
def dX (cs:List Cd) (os:List ByteArray) (ks:List Ko) (gs:List Ch) (bs:List Ba) (l:List Le) (rs:List Ra) (d:List Dm) (t n:Int):kQ:=(⟨rs,t,n,(0:Int),(OV cs os ks gs bs l d t (iM d t)),gs,(List.length gs:Int),(0:Int),cs,os,ks,gs,bs,l,d,t,(iM d t),(List.replicate (List.length (OV cs os ks gs bs l d t (iM d t)):Int).toNat (0:Int)),(List.replicate (List.length (OV cs os ks gs bs l d t (iM d t)):Int).toNat ((0:Int),(0:Int))),([]:List Le)⟩:kQ)
theorem apa (cs:List Cd) (os:List ByteArray) (ks:List Ko) (gs:List Ch) (bs:List Ba) (l:List Le) (rs:List Ra) (d:List Dm) (t n:Int):bV Tryz.prog aS (ajr) dZ (fun i=>if i=11 then FM.lp else aC i) Tryz.f14 [.agg [.xl dU cs,.xl .str os,.xl dV ks,.xl dP gs,.xl dW bs],.xl ig l,.xl CZ rs,.xl pR d,.v (.int .i64 t),.v (.int .i64 n)]=.req (xY d t∧d.length≤19) (.br (!(FT cs os ks gs bs l rs d t n)) (.ok (.gq [.xl (.int .i64) ([]:List Int),.xl CZ ([]:List Ra),.xl ig ([]:List Le),.v (.int .i64 1)])) (.req (d.length=gs.length∧rP cs os ks gs bs (lu gs) (oC gs d) (iM d t)=true∧DT l (List.length gs:Int) t=true∧rP cs os ks gs bs (F5 gs l t) (vI cs os ks gs bs (lu gs) (oC gs d) (iM d t)) (iM d t)=true) (.br ((0:Int) !=0) (.ok (.gq [.xl (.int .i64) ([]:List Int),.xl CZ ([]:List Ra),.xl ig ([]:List Le),.v (.int .i64 1)])) (.req (0≤(List.length (OV cs os ks gs bs l d t (iM d t)):Int)∧(List.length (OV cs os ks gs bs l d t (iM d t)):Int)≤(List.length (OV cs os ks gs bs l d t (iM d t)):Int)∧8*(List.length (OV cs os ks gs bs l d t (iM d t)):Int)≤2^48∧(List.length (OV cs os ks gs bs l d t (iM d t)):Int)<2^63) (.req (0≤(List.length (OV cs os ks gs bs l d t (iM d t)):Int)∧(List.length (OV cs os ks gs bs l d t (iM d t)):Int)≤(List.length (OV cs os ks gs bs l d t (iM d t)):Int)∧16*(List.length (OV cs os ks gs bs l d t (iM d t)):Int)≤2^48∧(List.length (OV cs os ks gs bs l d t (iM d t)):Int)<2^63) (.req (0=0∧(List.length (OV cs os ks gs bs l d t (iM d t)):Int).toNat=List.length (List.replicate (List.length (OV cs os ks gs bs l d t (iM d t)):Int).toNat (0:Int))) (.req (0=0∧(List.length (OV cs os ks gs bs l d t (iM d t)):Int).toNat=List.length (List.replicate (List.length (OV cs os ks gs bs l d t (iM d t)):Int).toNat ((0:Int),(0:Int)))) (.req (0=0∧0=List.length ([]:List Le)) (.req (azd (dX cs os ks gs bs l rs d t n)) (.br (iG (QE (dX cs os ks gs bs l rs d t n)) (.ret)) (.ok (.gq [.xl (.int .i64) ([]:List Int),.xl CZ ([]:List Ra),.xl ig ([]:List Le),.v (.int .i64 (gm (dX cs os ks gs bs l rs d t n)).t15)])) (.req (0+(List.length (gm (dX cs os ks gs bs l rs d t n)).dO)≤List.length (gm (dX cs os ks gs bs l rs d t n)).dO) (.req (0+(List.length (gm (dX cs os ks gs bs l rs d t n)).next)≤List.length (gm (dX cs os ks gs bs l rs d t n)).next) (.req (0+(List.length (gm (dX cs os ks gs bs l rs d t n)).cZ)≤List.length (gm (dX cs os ks gs bs l rs d t n)).cZ) (.ok (.gq [.xl (.int .i64) (((gm (dX cs os ks gs bs l rs d t n)).dO.drop 0).take (List.length (gm (dX cs os ks gs bs l rs d t n)).dO)),.xl CZ (((gm (dX cs os ks gs bs l rs d t n)).next.drop 0).take (List.length (gm (dX cs os ks gs bs l rs d t n)).next)),.xl ig (((gm (dX cs os ks gs bs l rs d t n)).cZ.drop 0).take (List.length (gm (dX cs os ks gs bs l rs d t n)).cZ)),.v (.int .i64 0)]))))))))))))))):=by kernel_rfl
theorem afx:Valid Tryz.prog aS 14 JK:=aH Tryz.func14 rfl ar2 aF (L:=(fun i=>if i=11 then FM.lp else aC i)) (fun b hb=>by
 rw [show aB _=[BX] by kernel_rfl] at hb
 simp only [List.mem_cons,List.not_mem_nil,or_false] at hb
 subst hb
 exact anj) (fun args lv h=>by
 unfold adw at h
 split at h
 ·simp only [canL,canX]
  rw [apa]
  rename_i cs os ks gs bs l rs d t n
  obtain ⟨hw,rfl⟩:=h
  refine ⟨hw,fun c=>?_,fun c=>?_⟩
  ·unfold deA deR Rq deE
   rw [ntW c]
   rfl
  have c:=OY c
  have V:=aq0 c
  have ol:(OV cs os ks gs bs l d t (iM d t)).length=gs.length:=(aru V).1
  have hE:VP (dX cs os ks gs bs l rs d t n):=⟨rfl,rfl,⟨rfl,by have:=V.gl;show (gs.length:Int)≤16;omega⟩,⟨rfl,rfl⟩,⟨by have:=(kH V.les).1;show (l.length:Int)≤1000;omega,V.tb⟩,⟨V.rl,ol,by show (List.replicate _ (0:Int)).length=gs.length;rw [List.length_replicate];omega,by show (List.replicate _ ((0:Int),(0:Int))).length=gs.length;rw [List.length_replicate];omega⟩,Ji V,by have:=V.nb;show 1≤n-(0:Int);omega,by have:=V.nb;show n-(0:Int)≤999900;omega⟩
  obtain ⟨_,_,q1,q2,q3,q4⟩:=aqz _ hE
  have hn:=aqy _ hE
  have hn:(gm (dX cs os ks gs bs l rs d t n)).n-((gm (dX cs os ks gs bs l rs d t n)).cZ.length:Int)=n:=hn.trans (Int.sub_zero n)
  have q2:(gm (dX cs os ks gs bs l rs d t n)).dO=deA cs os ks gs bs l rs d t n:=q2.trans (by unfold deA;rw [if_pos c];rfl)
  have q3:(gm (dX cs os ks gs bs l rs d t n)).next=deR cs os ks gs bs l rs d t n:=q3.trans (by unfold deR;rw [if_pos c];rfl)
  rw [hn] at q4
  have q4:(gm (dX cs os ks gs bs l rs d t n)).cZ=Rq cs os ks gs bs l rs d t n:=q4.trans (by unfold Rq;rw [if_pos c];rfl)
  have gl:=V.gl
  refine ⟨⟨V.dl,KY V.si,aqK V,TL V⟩,fun c2=>absurd c2 (by decide),fun _=>?_⟩
  refine ⟨by rw [ol];omega,by rw [ol];omega,⟨rfl,by simp⟩,⟨rfl,by simp⟩,⟨rfl,rfl⟩,⟨hE,rfl,rfl⟩,?_⟩
  rw [q1]
  refine ⟨fun h=>(by cases h),fun _=>⟨by omega,by omega,by omega,?_⟩⟩
  show LV.gq [LV.xl _ _,LV.xl _ _,LV.xl _ _,_]=_
  rw [List.drop_zero,List.take_length,List.drop_zero,List.take_length,List.drop_zero,List.take_length,q2,q3,q4]
  unfold deE
  rw [if_pos c]
 ·cases h)
end Go.Proofs.YtlihnbimgclogaaGreatDoor
namespace Go.Proofs.YtlihnbimgclogaaGreatDoor
open Go.Sx
noncomputable def ajy:Specs:=aZ []
theorem asa:∀g S,ajy g=some S→Valid Tryz.prog aS g S:=aT (l:=[]) trivial
structure jP where
 a:List Int
 b:List Int
 r:Bool
 i:Int
def azl (s:jP):List LV:=[.xl (.int .i64) s.a,.xl (.int .i64) s.b,.v (.bool s.r),.v (.int .i64 s.i)]
def azk (_:jP):List aU:=[]
noncomputable def xW:Code:=((aB (Tryz.f16.body.getD .skip))[0]?).getD .skip
def Ov (s:jP):T (Rd jP):=
 .br (decide (s.i<(List.length s.a:Int))) (.req (0≤s.i∧s.i<(List.length s.a:Int)) (.req (0≤s.i∧s.i<(List.length s.b:Int)) (.br ((gi s.a s.i) !=(gi s.b s.i)) (.ok (.stop (.ret) {s with r:=false})) (.ok (.next {s with i:=(IntKind.i64.wrap (s.i+1))}))))) (.ok (.stop (.exit 0) s))
abbrev ajM (s:jP):=(Ov s).rd s
def zi (s:jP) (j:Int):Bool:=gi s.a j==gi s.b j
def Zb (s:jP):Prop:=s.i=0∧0≤(List.length s.a:Int)∧(List.length s.a:Int)≤1000∧s.a.length=s.b.length
def DY (s:jP):Prop:=0≤s.i∧s.i≤(List.length s.a:Int)∧(List.length s.a:Int)≤1000∧(s.a.length=s.b.length)∧∀j:Nat,(j:Int)<s.i→zi s j=true
def Gj (s:jP):Nat:=((List.length s.a:Int)-s.i).toNat
def Y7 (x:Ex) (_ s':jP):Prop:=(x=.exit 0∧∀j:Nat,(j:Int)<(List.length s'.a:Int)→zi s' j=true)∨(x=.ret∧s'.r=false∧∃j:Nat,(j:Int)<(List.length s'.a:Int)∧zi s' j=false)
theorem av9:∀s,Zb s→DY s:=by
 intro s h
 obtain ⟨h0,h1,h2,h3⟩:=h
 exact ⟨by omega,by omega,h2,h3,fun j hj=>by omega⟩
theorem anT (s:jP) (hI:DY s):bJ (fun s'=>DY s'∧Gj s'<Gj s) (fun x s'=>Y7 x s s') (ajM s):=by
 unfold ajM Ov
 dsimp only [T.rd,T.rl]
 obtain ⟨h0,h1,h2,h3,h4⟩:=hI
 refine au (fun c1=>au (fun c2=>?_) (fun c2=>?_)) (fun c1=>?_)
 ·have c1:s.i<(List.length s.a:Int):=by simpa using c1
  refine .inr ⟨rfl,rfl,s.i.toNat,by simp only;omega,?_⟩
  rw [Int.toNat_of_nonneg (by omega)]
  have hg:zi s s.i=false:=by unfold zi;(simpa using c2)
  exact hg
 ·have c1:s.i<(List.length s.a:Int):=by simpa using c1
  have hg:zi s s.i=true:=by unfold zi;(simpa using c2)
  rw [aK (x:=s.i+1) (by omega) (by omega)]
  refine ⟨⟨by simp only;omega,by simp only;omega,h2,h3,fun j hj=>?_⟩,by simp only [Gj];omega⟩
  by_cases hji:(j:Int)<s.i
  ·exact h4 j hji
  ·have:(j:Int)=s.i:=by simp only at hj;omega
   rw [this];exact hg
 ·have c1:(List.length s.a:Int)≤s.i:=by simpa using c1
  exact .inl ⟨rfl,fun j hj=>h4 j (by omega)⟩
def wQ:bM jP:=⟨0,26,[0,1,4,5],[],azl,azk,fun v _=>⟨aQ (.int .i64) (v.getD 0 .junk),aQ (.int .i64) (v.getD 1 .junk),vF (v.getD 2 .junk),gI (v.getD 3 .junk)⟩,Ov,fun s r=> {r with a:=s.a,b:=s.b},fun s=>s,fun _ s=>s,[.ret,.exit 0],Zb,DY,Gj⟩
abbrev Tj:=wQ.run
abbrev Uy:=wQ.jJ
abbrev aqV:=wQ.q
theorem anF (s:jP) (hI:DY s):(Ov s).all (fun _=>True):=by
 refine ⟨fun c1=>⟨?_,?_,fun _=>trivial,fun _=>trivial⟩,fun _=>trivial⟩
 all_goals ((obtain ⟨h0,h1,h2,h3,h4⟩:=hI;simp at c1;omega))
theorem aaF:wQ.Ok:=⟨fun s=>by kernel_rfl,fun s=>by kernel_rfl,fun s=>rfl,fun s t r=>rfl,fun s=>rfl,fun s=>by kernel_rfl⟩
theorem aaE:wQ.Pf (Y7):=⟨av9,fun _ _=>rfl,anT,anF⟩
theorem afD:bg Tryz.prog aS (AN 0) (.loop xW) wQ.lp:=bM.snd aaF aaE (aP (Γ:=ajy) (K:=dZ) (L:=aC) asa aF xW (fun b hb=>by rw [show aB xW=[] by kernel_rfl] at hb;cases hb)) (fun s=>by kernel_rfl)
theorem af8 (s:jP) (hE:Zb s):∃s',DY s'∧Y7 (Uy s) s' (Tj s):=bM.fin aaF aaE s hE
def Va:List LV→T LV
 | [.xl (.int .i64) a,.xl (.int .i64) b]=> .req ((List.length a:Int)≤1000) (.ok (.v (.bool (a==b))))
 |_=> .no
noncomputable def CG:List LV→T LV:=gQ Tryz.prog Tryz.f16.params.toList Va
theorem ain (a b:List Int):bV Tryz.prog aS (ajy) dZ (fun i=>if i=4 then wQ.lp else aC i) Tryz.f16 [.xl (.int .i64) a,.xl (.int .i64) b]=.br ((List.length a:Int) !=(List.length b:Int)) (.ok (.v (.bool false))) (.req (aqV (⟨a,b,false,(0:Int)⟩:jP)) (.br (iG (Uy (⟨a,b,false,(0:Int)⟩:jP)) (.ret)) (.ok (.v (.bool (Tj (⟨a,b,false,(0:Int)⟩:jP)).r))) (.ok (.v (.bool true))))):=by kernel_rfl
theorem Zh:Valid Tryz.prog aS 16 CG:=aH Tryz.func16 rfl asa aF (L:=(fun i=>if i=4 then wQ.lp else aC i)) (fun b hb=>by
 rw [show aB _=[xW] by kernel_rfl] at hb
 simp only [List.mem_cons,List.not_mem_nil,or_false] at hb
 subst hb
 exact afD) (fun args lv h=>by
 unfold Va at h
 split at h
 ·simp only [canL,canX]
  rw [ain]
  rename_i a b
  obtain ⟨hl,rfl⟩:=h
  refine ⟨fun c=>congrArg (fun z=>LV.v (.bool z)) ?_,fun c=>?_⟩
  ·have c:¬a.length=b.length:=by simp at c;omega
   rw [eq_comm,beq_eq_false_iff_ne]
   exact fun e=>c (by rw [e])
  ·have c:a.length=b.length:=by simp at c;omega
   refine nV ⟨⟨rfl,Int.natCast_nonneg _,hl,c⟩,rfl,rfl⟩ (fun hE=>?_)
   obtain ⟨s',_,hq⟩:=af8 _ hE.1
   rcases hq with ⟨q1,q2⟩ |⟨q1,q2,j,q3,q4⟩
   ·have e:(a==b)=true:=by
     rw [beq_iff_eq]
     refine List.ext_getElem c fun j h1 h2=>?_
     have:(gi a j==gi b j)=true:=q2 j (by show (j:Int)<(a.length:Int);omega)
     rw [oK (by simpa using h1),oK (by simpa using h2)] at this
     simpa using this
    rw [q1,e]
    exact ⟨fun h=>(by cases h),fun _=>rfl⟩
   ·have e:(a==b)=false:=by
     rw [beq_eq_false_iff_ne]
     rintro rfl
     have q4:(gi a j==gi a j)=false:=q4
     simp at q4
    rw [q1,q2,e]
    exact ⟨fun _=>rfl,fun h=>by cases h⟩
 ·cases h)
end Go.Proofs.YtlihnbimgclogaaGreatDoor
namespace Go.Proofs.YtlihnbimgclogaaGreatDoor
open Go.Sx
structure nH where
 l:List ByteArray
 k:Int
 i:Int
 bI:Value
 iO:Value
 fG:Value
 fV:Value
 mO:Value
 ah:List Cd
 aA:List ByteArray
 ai:Value
 aI:Value
 gs:List Ch
def aDP (s:nH):List LV:=[.own 0 0,.own 1 0,.xl .str s.l,.v (.int .i64 s.k),.v (.int .i64 s.i)]
def aCP (s:nH):List aU:=[⟨[.v (s.bI),.v (s.iO),.v (s.fG),.v (s.fV),.v (s.mO)],28,.cl,false⟩,⟨[.xl dU s.ah,.xl .str s.aA,.v (s.ai),.os 2 8 0 (List.length s.gs),.v (s.aI)],28,.cl,false⟩,⟨[],58,.vec dP s.gs,false⟩]
noncomputable def Bq:Code:=((aB (Tryz.f33.body.getD .skip))[0]?).getD .skip
def ZK (s:nH):T (Rd nH):=
 .br (decide (s.i<s.k)) (.req (0≤s.i∧s.i<(List.length s.l:Int)) (.req (0+(List.length s.gs)=List.length s.gs∧((List.length s.gs+List.length ([((gS s.l s.i),((0:Int),((1:Int),((6:Int),((10:Int),((1:Int),((0:Int),(0:Int))))))))]):Nat):Int)*72≤2^47∧((List.length s.gs+List.length ([((gS s.l s.i),((0:Int),((1:Int),((6:Int),((10:Int),((1:Int),((0:Int),(0:Int))))))))]):Nat):Int)<2^62) (.req (0=0∧(List.length s.gs+List.length ([((gS s.l s.i),((0:Int),((1:Int),((6:Int),((10:Int),((1:Int),((0:Int),(0:Int))))))))]))=List.length (s.gs++([((gS s.l s.i),((0:Int),((1:Int),((6:Int),((10:Int),((1:Int),((0:Int),(0:Int))))))))]))) (.ok (.next {s with i:=(IntKind.i64.wrap (s.i+1)),gs:=(s.gs++([((gS s.l s.i),((0:Int),((1:Int),((6:Int),((10:Int),((1:Int),((0:Int),(0:Int))))))))]))}))))) (.rl s.gs (.ok (.stop (.exit 0) s)))
abbrev asU (s:nH):=(ZK s).rd s
def pkG:List Ch:=[(ByteArray.mk #[120],0,1,6,10,1,0,0),(ByteArray.mk #[121],0,1,6,10,1,0,0)]
def pkC (n:Int):List Cd:=[(ByteArray.mk #[102],-1,n,100,(0,0),0,0,0,0,0)]
def pkS:List ByteArray:=[ByteArray.mk #[120],ByteArray.mk #[121]]
def adR (s:nH):Prop:=s.i=0∧s.gs=[]∧s.l=pkS∧s.k=2
def Nv (s:nH):Prop:=(0≤s.i∧s.i≤2)∧s.gs=pkG.take s.i.toNat∧s.l=pkS∧s.k=2
def PE (s:nH):Nat:=(2-s.i).toNat
def ak0 (x:Ex) (_ s':nH):Prop:=x=.exit 0∧s'.gs=pkG
theorem aAH:∀s,adR s→Nv s:=by
 intro s h
 obtain ⟨h0,h1,h2⟩:=h
 exact ⟨by omega,by rw [h0,h1];rfl,h2⟩
theorem awh (s:nH) (hI:Nv s):bJ (fun s'=>Nv s'∧PE s'<PE s) (fun x s'=>ak0 x s s') (asU s):=by
 unfold asU ZK
 dsimp only [T.rd,T.rl]
 obtain ⟨⟨h0,h1⟩,h2,h3,h4⟩:=hI
 refine au (fun c1=>?_) (fun c1=>?_)
 ·have c1:s.i<2:=by simpa [h4] using c1
  rw [aK (x:=s.i+1) (by omega) (by omega)]
  refine ⟨⟨⟨by simp only;omega,by simp only;omega⟩,?_,h3,h4⟩,by simp only [PE];omega⟩
  simp only
  rw [h2,h3]
  rcases (by omega:s.i=0∨s.i=1) with e|e<;>rw [e]<;>rfl
 ·have c1:2≤s.i:=by simpa [h4] using c1
  refine ⟨rfl,?_⟩
  rw [h2,show s.i.toNat=2 by omega]
  rfl
def EZ:bM nH:=⟨0,27,[2,3,12,13,14],[.nc 1 3 58 dP],aDP,aCP,fun v b=>⟨aQ .str (v.getD 2 .junk),gI (v.getD 3 .junk),gI (v.getD 4 .junk),gAn (aY (aO b 0) 0),gAn (aY (aO b 0) 1),gAn (aY (aO b 0) 2),gAn (aY (aO b 0) 3),gAn (aY (aO b 0) 4),aQ dU (aY (aO b 1) 0),aQ .str (aY (aO b 1) 1),gAn (aY (aO b 1) 2),gAn (aY (aO b 1) 4),iR dP (aO b 2)⟩,ZK,fun s r=> {r with l:=s.l,k:=s.k,bI:=s.bI,iO:=s.iO,fG:=s.fG,fV:=s.fV,mO:=s.mO,ah:=s.ah,aA:=s.aA,ai:=s.ai,aI:=s.aI},fun s=>s,fun _ s=>s,[.exit 0],adR,Nv,PE⟩
abbrev wW:=EZ.run
abbrev ap1:=EZ.jJ
abbrev ayM:=EZ.q
theorem avr (s:nH) (hI:Nv s):(ZK s).all (fun _=>True):=by
 refine ⟨fun c1=>⟨?_,?_,?_,trivial⟩,fun c1=>⟨⟨rfl,rfl⟩,trivial⟩⟩
 all_goals ((obtain ⟨⟨h0,h1⟩,h2,h3,h4⟩:=hI;simp only [decide_eq_true_eq] at c1;have hl:s.l.length=2:=(by rw [h3];rfl);have hg:s.gs.length≤2:=(by rw [h2,List.length_take];show min _ 2≤2;omega);first|omega|(refine ⟨by omega,?_,?_⟩<;>simp only [List.length_cons,List.length_nil]<;>omega) |exact ⟨rfl,by simp⟩))
noncomputable def XV:Specs:=aZ []
theorem ajn:∀g S,XV g=some S→Valid Tryz.prog aS g S:=aT (l:=[]) trivial
theorem ahI:EZ.Ok:=⟨fun s=>by kernel_rfl,fun s=>by kernel_rfl,fun s=>rfl,fun s t r=>rfl,fun s=>rfl,fun s=>by kernel_rfl⟩
theorem agF:EZ.Pf (ak0):=⟨aAH,fun _ _=>rfl,awh,avr⟩
theorem amS:bg Tryz.prog aS (AN 0) (.loop Bq) EZ.lp:=bM.snd ahI agF (aP (Γ:=XV) (K:=dZ) (L:=aC) ajn aF Bq (fun b hb=>by rw [show aB Bq=[] by kernel_rfl] at hb;cases hb)) (fun s=>by kernel_rfl)
theorem anX (s:nH) (hE:adR s):∃s',Nv s'∧ak0 (ap1 s) s' (wW s):=bM.fin ahI agF s hE
def ac4:List LV→T LV
 | [.v (.int .i64 n)]=> .ok (.agg [.xl dU (pkC n),.xl .str ([(ByteArray.mk #[111])]),.xl dV ([]:List Ko),.xl dP pkG,.xl dW ([]:List Ba)])
 |_=> .no
noncomputable def YH:List LV→T LV:=gQ Tryz.prog Tryz.f33.params.toList ac4
theorem aoL (n:Int):bV Tryz.prog aS (XV) dZ (fun i=>if i=3 then EZ.lp else aC i) Tryz.f33 [.v (.int .i64 n)]=.req (0=0∧0=List.length ([]:List Ch)) (.req (ayM (⟨([(ByteArray.mk #[120]),(ByteArray.mk #[121])]),(List.length ([(ByteArray.mk #[120]),(ByteArray.mk #[121])]):Int),(0:Int),(.slice none 0 0),(.slice none 0 0),(.slice none 0 0),(.slice none 0 0),(.slice none 0 0),([((ByteArray.mk #[102]),((-1:Int),(n,((100:Int),(((0:Int),(0:Int)),((0:Int),((0:Int),((0:Int),((0:Int),(0:Int))))))))))]),([(ByteArray.mk #[111])]),(.slice none 0 0),(.slice none 0 0),([]:List Ch)⟩:nH)) (.req (0+(List.length (wW (⟨([(ByteArray.mk #[120]),(ByteArray.mk #[121])]),(List.length ([(ByteArray.mk #[120]),(ByteArray.mk #[121])]):Int),(0:Int),(.slice none 0 0),(.slice none 0 0),(.slice none 0 0),(.slice none 0 0),(.slice none 0 0),([((ByteArray.mk #[102]),((-1:Int),(n,((100:Int),(((0:Int),(0:Int)),((0:Int),((0:Int),((0:Int),((0:Int),(0:Int))))))))))]),([(ByteArray.mk #[111])]),(.slice none 0 0),(.slice none 0 0),([]:List Ch)⟩:nH)).gs)≤List.length (wW (⟨([(ByteArray.mk #[120]),(ByteArray.mk #[121])]),(List.length ([(ByteArray.mk #[120]),(ByteArray.mk #[121])]):Int),(0:Int),(.slice none 0 0),(.slice none 0 0),(.slice none 0 0),(.slice none 0 0),(.slice none 0 0),([((ByteArray.mk #[102]),((-1:Int),(n,((100:Int),(((0:Int),(0:Int)),((0:Int),((0:Int),((0:Int),((0:Int),(0:Int))))))))))]),([(ByteArray.mk #[111])]),(.slice none 0 0),(.slice none 0 0),([]:List Ch)⟩:nH)).gs) (.ok (.agg [.xl dU ([((ByteArray.mk #[102]),((-1:Int),(n,((100:Int),(((0:Int),(0:Int)),((0:Int),((0:Int),((0:Int),((0:Int),(0:Int))))))))))]),.xl .str ([(ByteArray.mk #[111])]),.xl dV ([]:List Ko),.xl dP (((wW (⟨([(ByteArray.mk #[120]),(ByteArray.mk #[121])]),(List.length ([(ByteArray.mk #[120]),(ByteArray.mk #[121])]):Int),(0:Int),(.slice none 0 0),(.slice none 0 0),(.slice none 0 0),(.slice none 0 0),(.slice none 0 0),([((ByteArray.mk #[102]),((-1:Int),(n,((100:Int),(((0:Int),(0:Int)),((0:Int),((0:Int),((0:Int),((0:Int),(0:Int))))))))))]),([(ByteArray.mk #[111])]),(.slice none 0 0),(.slice none 0 0),([]:List Ch)⟩:nH)).gs.drop 0).take (List.length (wW (⟨([(ByteArray.mk #[120]),(ByteArray.mk #[121])]),(List.length ([(ByteArray.mk #[120]),(ByteArray.mk #[121])]):Int),(0:Int),(.slice none 0 0),(.slice none 0 0),(.slice none 0 0),(.slice none 0 0),(.slice none 0 0),([((ByteArray.mk #[102]),((-1:Int),(n,((100:Int),(((0:Int),(0:Int)),((0:Int),((0:Int),((0:Int),((0:Int),(0:Int))))))))))]),([(ByteArray.mk #[111])]),(.slice none 0 0),(.slice none 0 0),([]:List Ch)⟩:nH)).gs)),.xl dW ([]:List Ba)])))):=by kernel_rfl
theorem at7:Valid Tryz.prog aS 33 YH:=aH Tryz.func33 rfl ajn aF (L:=(fun i=>if i=3 then EZ.lp else aC i)) (fun b hb=>by
 rw [show aB _=[Bq] by kernel_rfl] at hb
 simp only [List.mem_cons,List.not_mem_nil,or_false] at hb
 subst hb
 exact amS) (fun args lv h=>by
 unfold ac4 at h
 split at h
 ·simp only [canL,canX]
  rw [aoL]
  rename_i n
  obtain rfl:=h
  have hE:adR ⟨([(ByteArray.mk #[120]),(ByteArray.mk #[121])]),(List.length ([(ByteArray.mk #[120]),(ByteArray.mk #[121])]):Int),0,.slice none 0 0,.slice none 0 0,.slice none 0 0,.slice none 0 0,.slice none 0 0,[((ByteArray.mk #[102]),-1,n,100,(0,0),0,0,0,0,0)],[(ByteArray.mk #[111])],.slice none 0 0,.slice none 0 0,[]⟩:=⟨rfl,rfl,rfl,rfl⟩
  obtain ⟨_,_,q1,q2⟩:=anX _ hE
  have q2:(wW ⟨([(ByteArray.mk #[120]),(ByteArray.mk #[121])]),(List.length ([(ByteArray.mk #[120]),(ByteArray.mk #[121])]):Int),0,.slice none 0 0,.slice none 0 0,.slice none 0 0,.slice none 0 0,.slice none 0 0,[((ByteArray.mk #[102]),-1,n,100,(0,0),0,0,0,0,0)],[(ByteArray.mk #[111])],.slice none 0 0,.slice none 0 0,[]⟩).gs=pkG:=q2
  refine ⟨⟨rfl,rfl⟩,⟨hE,rfl,rfl⟩,by omega,?_⟩
  rw [List.drop_zero,List.take_length,q2]
  rfl
 ·cases h)
def adm:List LV→T LV
 | []=> .ok (.v (.bool true))
 |_=> .no
noncomputable def YQ:List LV→T LV:=gQ Tryz.prog Tryz.f11.params.toList adm
noncomputable def ajE:Specs:=aZ [(14,JK),(16,CG),(19,zf),(33,YH)]
theorem axo:∀g S,ajE g=some S→Valid Tryz.prog aS g S:=aT (l:=[(14,JK),(16,CG),(19,zf),(33,YH)]) ⟨afx,Zh,Wh,at7,trivial⟩
theorem ao0:(bV Tryz.prog aS (ajE) dZ aC Tryz.f11 []).red=.req (xY ([(true,((0:Int),((0:Int),(2:Int)))),(true,((0:Int),((50:Int),(1:Int))))]) (40:Int)∧([(true,((0:Int),((0:Int),(2:Int)))),(true,((0:Int),((50:Int),(1:Int))))]).length≤19) (.req (xY ([(true,((0:Int),((0:Int),(2:Int)))),(true,((0:Int),((50:Int),(1:Int))))]) (40:Int)∧([(true,((0:Int),((0:Int),(2:Int)))),(true,((0:Int),((50:Int),(1:Int))))]).length≤19) (.req (0≤(0:Int)∧(0:Int)≤(1:Int)∧(1:Int)≤(List.length ([((0:Int),(9:Int)),((0:Int),(9:Int))]):Int)) (.req (xY ([(true,((0:Int),((0:Int),(2:Int)))),(true,((0:Int),((50:Int),(1:Int))))]) (40:Int)∧([(true,((0:Int),((0:Int),(2:Int)))),(true,((0:Int),((50:Int),(1:Int))))]).length≤19) (.req ((List.length (deA (pkC (10:Int)) ([(ByteArray.mk #[111])]) ([]:List Ko) pkG ([]:List Ba) ([]:List Le) ([((0:Int),(9:Int)),((0:Int),(9:Int))]) ([(true,((0:Int),((0:Int),(2:Int)))),(true,((0:Int),((50:Int),(1:Int))))]) (40:Int) (7:Int)):Int)≤1000) (.req (0≤(1:Int)∧1<(List.length (deR (pkC (10:Int)) ([(ByteArray.mk #[111])]) ([]:List Ko) pkG ([]:List Ba) ([]:List Le) ([((0:Int),(9:Int)),((0:Int),(9:Int))]) ([(true,((0:Int),((0:Int),(2:Int)))),(true,((0:Int),((50:Int),(1:Int))))]) (40:Int) (7:Int)):Int)) (.req (0≤(0:Int)∧0<(List.length (deR (pkC (10:Int)) ([(ByteArray.mk #[111])]) ([]:List Ko) pkG ([]:List Ba) ([]:List Le) ([((0:Int),(9:Int)),((0:Int),(9:Int))]) ([(true,((0:Int),((0:Int),(2:Int)))),(true,((0:Int),((50:Int),(1:Int))))]) (40:Int) (7:Int)):Int)) (.req (0≤(0:Int)∧0<(List.length (Rq (pkC (10:Int)) ([(ByteArray.mk #[111])]) ([]:List Ko) pkG ([]:List Ba) ([]:List Le) ([((0:Int),(9:Int)),((0:Int),(9:Int))]) ([(true,((0:Int),((0:Int),(2:Int)))),(true,((0:Int),((50:Int),(1:Int))))]) (40:Int) (7:Int)):Int)) (.req ((List.length (deA (pkC (20:Int)) ([(ByteArray.mk #[111])]) ([]:List Ko) pkG ([]:List Ba) ([((3:Int),((1:Int),((20:Int),((30:Int),(12:Int)))))]) ([((0:Int),(9:Int)),((0:Int),(9:Int))]) ([(true,((0:Int),((0:Int),(2:Int)))),(true,((0:Int),((50:Int),(1:Int))))]) (40:Int) (7:Int)):Int)≤1000) (.req (xY ([(true,((0:Int),((0:Int),(2:Int)))),(true,((0:Int),((50:Int),(1:Int))))]) (40:Int)∧([(true,((0:Int),((0:Int),(2:Int)))),(true,((0:Int),((50:Int),(1:Int))))]).length≤19) (.req ((List.length (iM ([(true,((0:Int),((0:Int),(2:Int)))),(true,((0:Int),((50:Int),(1:Int))))]) (40:Int)):Int)≤1000) (.ok (.v (.bool true))))))))))))):=by kernel_rfl
theorem aui:Valid Tryz.prog aS 11 YQ:=aH Tryz.func11 rfl axo aF (aX (by kernel_rfl)) (fun args lv h=>by
 unfold adm at h
 split at h
 ·simp only [canL]
  refine @T.GH _ _ _ ?_
  rw [ao0]
  exact ⟨(by first|decide+kernel|(unfold xY;decide+kernel)),(by first|decide+kernel|(unfold xY;decide+kernel)),(by first|decide+kernel|(unfold xY;decide+kernel)),(by first|decide+kernel|(unfold xY;decide+kernel)),(by first|decide+kernel|(unfold xY;decide+kernel)),(by first|decide+kernel|(unfold xY;decide+kernel)),(by first|decide+kernel|(unfold xY;decide+kernel)),(by first|decide+kernel|(unfold xY;decide+kernel)),(by first|decide+kernel|(unfold xY;decide+kernel)),(by first|decide+kernel|(unfold xY;decide+kernel)),(by first|decide+kernel|(unfold xY;decide+kernel)),h⟩
 ·cases h)
end Go.Proofs.YtlihnbimgclogaaGreatDoor
namespace Go.Proofs.YtlihnbimgclogaaGreatDoor
open Go.Sx
structure iW where
 d:List Dm
 tick:Int
 m:List Ch
 k:Int
 i:Int
 ah:List Cd
 aA:List ByteArray
 ai:List Ko
 aj:List Ch
 aI:List Ba
 base:List Int
 most:List Int
def aDZ (s:iW):List LV:=[.xl pR s.d,.v (.int .i64 s.tick),.own 0 0,.os 1 1 0 (List.length s.base),.os 2 1 0 (List.length s.most),.xl dP s.m,.v (.int .i64 s.k),.v (.int .i64 s.i)]
def aCZ (s:iW):List aU:=[⟨[.xl dU s.ah,.xl .str s.aA,.xl dV s.ai,.xl dP s.aj,.xl dW s.aI],28,.cl,false⟩,⟨[],3,.vec (.int .i64) s.base,false⟩,⟨[],3,.vec (.int .i64) s.most,false⟩]
noncomputable def BH:Code:=((aB (Tryz.f23.body.getD .skip))[0]?).getD .skip
def ZN (s:iW):T (Rd iW):=
 .br (decide (s.i<s.k)) (.req (0≤s.i∧s.i<(List.length s.m:Int)) (.req (0+(List.length s.base)=List.length s.base∧((List.length s.base+List.length ([(bn s.m s.i).2.2.2.2.2.2.1]):Nat):Int)*8≤2^47∧((List.length s.base+List.length ([(bn s.m s.i).2.2.2.2.2.2.1]):Nat):Int)<2^62) (.req (0+(List.length s.most)=List.length s.most∧((List.length s.most+List.length ([(0:Int)]):Nat):Int)*8≤2^47∧((List.length s.most+List.length ([(0:Int)]):Nat):Int)<2^62) (.req (0≤s.i∧s.i<(List.length s.d:Int)) (.br (o8 s.d s.i).1 (.req (0≤s.i∧s.i<((List.length s.most+List.length ([(0:Int)]):Nat):Int)) (.req (s.i.toNat<List.length (s.most++([(0:Int)]))) (.req (0=0∧(List.length s.base+List.length ([(bn s.m s.i).2.2.2.2.2.2.1]))=List.length (s.base++([(bn s.m s.i).2.2.2.2.2.2.1]))) (.req (0=0∧(List.length s.most+List.length ([(0:Int)]))=List.length ((s.most++([(0:Int)])).set s.i.toNat (bn s.m s.i).2.2.2.2.1)) (.ok (.next {s with i:=(IntKind.i64.wrap (s.i+1)),base:=(s.base++([(bn s.m s.i).2.2.2.2.2.2.1])),most:=((s.most++([(0:Int)])).set s.i.toNat (bn s.m s.i).2.2.2.2.1)})))))) (.req (0=0∧(List.length s.base+List.length ([(bn s.m s.i).2.2.2.2.2.2.1]))=List.length (s.base++([(bn s.m s.i).2.2.2.2.2.2.1]))) (.req (0=0∧(List.length s.most+List.length ([(0:Int)]))=List.length (s.most++([(0:Int)]))) (.ok (.next {s with i:=(IntKind.i64.wrap (s.i+1)),base:=(s.base++([(bn s.m s.i).2.2.2.2.2.2.1])),most:=(s.most++([(0:Int)]))}))))))))) (.rl s.base (.rl s.most (.ok (.stop (.exit 0) s))))
abbrev asX (s:iW):=(ZN s).rd s
def adU (s:iW):Prop:=s.i=0∧s.base=[]∧s.most=[]∧s.k=(List.length s.m:Int)∧s.k≤1000∧s.d.length=s.m.length
def NG (s:iW):Prop:=(0≤s.i∧s.i≤s.k)∧s.base=rW s.i.toNat (fun j=>yg (bn s.m j))∧s.most=rW s.i.toNat (fun j=>if (o8 s.d j).1=true then (bn s.m j).2.2.2.2.1 else 0)∧s.k=(List.length s.m:Int)∧s.k≤1000∧s.d.length=s.m.length
def Ii (s:iW):Nat:=(s.k-s.i).toNat
def ak9 (x:Ex) (_ s':iW):Prop:=x=.exit 0∧s'.base=rW s'.m.length (fun j=>yg (bn s'.m j))∧s'.most=rW s'.m.length (fun j=>if (o8 s'.d j).1=true then (bn s'.m j).2.2.2.2.1 else 0)
theorem aAW:∀s,adU s→NG s:=by
 intro s h
 obtain ⟨h0,hb,hm,h2⟩:=h
 exact ⟨by omega,by rw [h0,hb];rfl,by rw [h0,hm];rfl,h2⟩
theorem aw0 (s:iW) (hI:NG s):bJ (fun s'=>NG s'∧Ii s'<Ii s) (fun x s'=>ak9 x s s') (asX s):=by
 unfold asX ZN
 dsimp only [T.rd,T.rl]
 obtain ⟨⟨h0,h1⟩,hb,hm,h2,h3,h4⟩:=hI
 have hbl:s.base.length=s.i.toNat:=(by rw [hb,eU])
 have hml:s.most.length=s.i.toNat:=(by rw [hm,eU])
 refine au (fun c1=>?_) (fun c1=>?_)
 ·refine au (fun c2=>?_) (fun c2=>?_)
  ·have c1:s.i<s.k:=by simpa using c1
   rw [aK (x:=s.i+1) (by omega) (by omega)]
   have hs:s.i.toNat+1=(s.i+1).toNat:=by omega
   refine ⟨⟨⟨by simp only;omega,by simp only;omega⟩,by simp only;rw [←hs,xE,←hb,Int.toNat_of_nonneg h0];rfl,?_,h2,h3,h4⟩,by simp only [Ii];omega⟩
   simp only
   rw [←hs,xE,←hm,Int.toNat_of_nonneg h0,if_pos (show (o8 s.d s.i).1=true from c2),List.set_append_right _ _ (by omega),show s.i.toNat-s.most.length=0 by omega]
   rfl
  ·have c1:s.i<s.k:=by simpa using c1
   rw [aK (x:=s.i+1) (by omega) (by omega)]
   have hs:s.i.toNat+1=(s.i+1).toNat:=by omega
   refine ⟨⟨⟨by simp only;omega,by simp only;omega⟩,by simp only;rw [←hs,xE,←hb,Int.toNat_of_nonneg h0];rfl,?_,h2,h3,h4⟩,by simp only [Ii];omega⟩
   simp only
   rw [←hs,xE,←hm,Int.toNat_of_nonneg h0,if_neg (show ¬(o8 s.d s.i).1=true by rw [c2];decide)]
 ·have c1:s.k≤s.i:=by simpa using c1
  have hi:s.i.toNat=s.m.length:=by omega
  exact ⟨rfl,by rw [←hi];exact hb,by rw [←hi];exact hm⟩
def Fh:bM iW:=⟨0,48,[1,2,3,8,9,13,14,15],[.nl 8 3 (.int .i64),.nl 9 3 (.int .i64)],aDZ,aCZ,fun v b=>⟨aQ pR (v.getD 0 .junk),gI (v.getD 1 .junk),aQ dP (v.getD 5 .junk),gI (v.getD 6 .junk),gI (v.getD 7 .junk),aQ dU (aY (aO b 0) 0),aQ .str (aY (aO b 0) 1),aQ dV (aY (aO b 0) 2),aQ dP (aY (aO b 0) 3),aQ dW (aY (aO b 0) 4),iR (.int .i64) (aO b 1),iR (.int .i64) (aO b 2)⟩,ZN,fun s r=> {r with d:=s.d,tick:=s.tick,m:=s.m,k:=s.k,ah:=s.ah,aA:=s.aA,ai:=s.ai,aj:=s.aj,aI:=s.aI},fun s=>s,fun _ s=>s,[.exit 0],adU,NG,Ii⟩
abbrev ja:=Fh.run
abbrev ap9:=Fh.jJ
abbrev ayV:=Fh.q
theorem avC (s:iW) (hI:NG s):(ZN s).all (fun _=>True):=by
 refine ⟨fun c1=>⟨?_,?_,?_,?_,fun c2=>⟨?_,?_,?_,?_,trivial⟩,fun c2=>⟨?_,?_,trivial⟩⟩,fun c1=>⟨⟨rfl,rfl⟩,⟨rfl,rfl⟩,trivial⟩⟩
 all_goals ((obtain ⟨⟨h0,h1⟩,hb,hm,h2,h3,h4⟩:=hI;have hbl:s.base.length=s.i.toNat:=(by rw [hb,eU]);have hml:s.most.length=s.i.toNat:=(by rw [hm,eU]);(try simp only [decide_eq_true_eq] at c1);first|omega|(refine ⟨by omega,?_,?_⟩<;>simp only [List.length_cons,List.length_nil]<;>omega) |(simp only [List.length_append,List.length_cons,List.length_nil];omega) |(refine ⟨by omega,?_⟩;simp only [List.length_cons,List.length_nil];omega) |exact ⟨rfl,by simp⟩))
noncomputable def XU:Specs:=aZ [(19,zf),(52,y9)]
theorem ajm:∀g S,XU g=some S→Valid Tryz.prog aS g S:=aT (l:=[(19,zf),(52,y9)]) ⟨Wh,V9,trivial⟩
theorem ahL:Fh.Ok:=⟨fun s=>by kernel_rfl,fun s=>by kernel_rfl,fun s=>rfl,fun s t r=>rfl,fun s=>rfl,fun s=>by kernel_rfl⟩
theorem agI:Fh.Pf (ak9):=⟨aAW,fun _ _=>rfl,aw0,avC⟩
theorem am1:bg Tryz.prog aS (AN 0) (.loop BH) Fh.lp:=bM.snd ahL agI (aP (Γ:=XU) (K:=dZ) (L:=aC) ajm aF BH (fun b hb=>by rw [show aB BH=[] by kernel_rfl] at hb;cases hb)) (fun s=>by kernel_rfl)
theorem apo (s:iW) (hE:adU s):∃s',NG s'∧ak9 (ap9 s) s' (ja s):=bM.fin ahL agI s hE
def ada:List LV→T LV
 | [.agg [.xl (.pair .str (.pair (.int .i64) (.pair (.int .i64) (.pair (.int .i64) (.pair (.pair (.int .i64) (.int .i64)) (.pair (.int .i64) (.pair (.int .i64) (.pair (.int .i64) (.pair (.int .i64) (.int .i64)))))))))) cs,.xl (.str) os,.xl (.pair .str (.pair (.int .i64) (.pair (.int .i64) (.int .i64)))) ks,.xl (.pair .str (.pair (.int .i64) (.pair (.int .i64) (.pair (.int .i64) (.pair (.int .i64) (.pair (.int .i64) (.pair (.int .i64) (.int .i64)))))))) gs,.xl (.pair .str (.int .i64)) bs],.xl (.pair .bool (.pair (.int .i64) (.pair (.int .i64) (.int .i64)))) d,.v (.int .i64 t)]=> .req (Si cs os ks gs bs d∧xY d t∧d.length≤19) (.ok (.gq [.xl (.int .i64) (zu cs os ks gs bs d t),.v (.int .i64 0)]))
 |_=> .no
noncomputable def YL:List LV→T LV:=gQ Tryz.prog Tryz.f23.params.toList ada
theorem aoR (cs:List Cd) (os:List ByteArray) (ks:List Ko) (gs:List Ch) (bs:List Ba) (d:List Dm) (t:Int):bV Tryz.prog aS (XU) dZ (fun i=>if i=3 then Fh.lp else aC i) Tryz.f23 [.agg [.xl dU cs,.xl .str os,.xl dV ks,.xl dP gs,.xl dW bs],.xl pR d,.v (.int .i64 t)]=.req (0=0∧0=List.length ([]:List Int)) (.req (0=0∧0=List.length ([]:List Int)) (.req (ayV (⟨d,t,gs,(List.length gs:Int),(0:Int),cs,os,ks,gs,bs,([]:List Int),([]:List Int)⟩:iW)) (.req (xY d t∧d.length≤19) (.req (0+(List.length (ja (⟨d,t,gs,(List.length gs:Int),(0:Int),cs,os,ks,gs,bs,([]:List Int),([]:List Int)⟩:iW)).base)≤List.length (ja (⟨d,t,gs,(List.length gs:Int),(0:Int),cs,os,ks,gs,bs,([]:List Int),([]:List Int)⟩:iW)).base) (.req (0+(List.length (ja (⟨d,t,gs,(List.length gs:Int),(0:Int),cs,os,ks,gs,bs,([]:List Int),([]:List Int)⟩:iW)).most)≤List.length (ja (⟨d,t,gs,(List.length gs:Int),(0:Int),cs,os,ks,gs,bs,([]:List Int),([]:List Int)⟩:iW)).most) (.ok (.gq [.xl (.int .i64) (vI cs os ks gs bs (((ja (⟨d,t,gs,(List.length gs:Int),(0:Int),cs,os,ks,gs,bs,([]:List Int),([]:List Int)⟩:iW)).base.drop 0).take (List.length (ja (⟨d,t,gs,(List.length gs:Int),(0:Int),cs,os,ks,gs,bs,([]:List Int),([]:List Int)⟩:iW)).base)) (((ja (⟨d,t,gs,(List.length gs:Int),(0:Int),cs,os,ks,gs,bs,([]:List Int),([]:List Int)⟩:iW)).most.drop 0).take (List.length (ja (⟨d,t,gs,(List.length gs:Int),(0:Int),cs,os,ks,gs,bs,([]:List Int),([]:List Int)⟩:iW)).most)) (iM d t)),.v (.int .i64 (shE cs os ks gs bs (((ja (⟨d,t,gs,(List.length gs:Int),(0:Int),cs,os,ks,gs,bs,([]:List Int),([]:List Int)⟩:iW)).base.drop 0).take (List.length (ja (⟨d,t,gs,(List.length gs:Int),(0:Int),cs,os,ks,gs,bs,([]:List Int),([]:List Int)⟩:iW)).base)) (((ja (⟨d,t,gs,(List.length gs:Int),(0:Int),cs,os,ks,gs,bs,([]:List Int),([]:List Int)⟩:iW)).most.drop 0).take (List.length (ja (⟨d,t,gs,(List.length gs:Int),(0:Int),cs,os,ks,gs,bs,([]:List Int),([]:List Int)⟩:iW)).most)) (iM d t)))]))))))):=by kernel_rfl
theorem aud:Valid Tryz.prog aS 23 YL:=aH Tryz.func23 rfl ajm aF (L:=(fun i=>if i=3 then Fh.lp else aC i)) (fun b hb=>by
 rw [show aB _=[BH] by kernel_rfl] at hb
 simp only [List.mem_cons,List.not_mem_nil,or_false] at hb
 subst hb
 exact am1) (fun args lv h=>by
 unfold ada at h
 split at h
 ·simp only [canL,canX]
  rw [aoR]
  rename_i cs os ks gs bs d t
  obtain ⟨⟨hs,hw⟩,rfl⟩:=h
  have hE:adU ⟨d,t,gs,(List.length gs:Int),0,cs,os,ks,gs,bs,[],[]⟩:=⟨rfl,rfl,rfl,rfl,by have:=hs.dl;show (gs.length:Int)≤1000;omega,hs.dl⟩
  obtain ⟨_,_,q1,q2,q3⟩:=apo _ hE
  have q2:(ja ⟨d,t,gs,(List.length gs:Int),0,cs,os,ks,gs,bs,[],[]⟩).base=lu gs:=q2
  have q3:(ja ⟨d,t,gs,(List.length gs:Int),0,cs,os,ks,gs,bs,[],[]⟩).most=oC gs d:=q3
  refine ⟨⟨rfl,rfl⟩,⟨rfl,rfl⟩,⟨hE,rfl,rfl⟩,hw,by omega,by omega,?_⟩
  rw [List.drop_zero,List.take_length,List.drop_zero,List.take_length,q2,q3,afQ (KY hs)]
  rfl
 ·cases h)
end Go.Proofs.YtlihnbimgclogaaGreatDoor
namespace Go.Proofs.YtlihnbimgclogaaGreatDoor
open Go.Sx
section
variable {P : List Int → Bool} {tp : Int → Int}
end
end Go.Proofs.YtlihnbimgclogaaGreatDoor
namespace Go.Proofs.YtlihnbimgclogaaGreatDoor
open Go.Sx
section
variable {cs : List Cd} {os : List ByteArray} {ks : List Ko} {gs : List Ch} {bs : List Ba} {l : List Le} {rs : List Ra} {d : List Dm} {t n : Int}
theorem afO {al mo od:List Int}(hk:rP cs os ks gs bs al mo od=true):yu (jC cs gs cs.length) al (vI cs os ks gs bs al mo od)=true:=by
 rw [OD hk]
 exact awY (Td hk)
theorem aj0 {w:List Int}{k:Nat}{j:Int}(h0:0≤j) (h1:j<(k:Int)):gi (UE gs rs w k) j=nxA (bn gs j) (lm rs j) (gi w j):=mF h0 h1
theorem aB2 (V:Vd cs os ks gs bs l rs d t n) {j:Int}(j0:0≤j) (j1:j<(gs.length:Int)):0≤gi (UE gs rs (TM cs os ks gs bs l d t) gs.length) j∧gi (UE gs rs (TM cs os ks gs bs l d t) gs.length) j≤gi (TM cs os ks gs bs l d t) j∧gi (TM cs os ks gs bs l d t) j≤gi (zu cs os ks gs bs d t) j:=by
 have hk:=Ji V j j0 j1
 rw [aj0 j0 j1]
 exact ⟨(Ic hk).1,(aaJ hk rfl).2.1,((afP (TL V)).2 j j0 j1).2⟩
theorem anH {r:Rw}{m:Int}(hr:r∈jC cs gs cs.length) (hm:m∈r.2):0≤m∧m<(gs.length:Int):=(row_mem hr).2.1 m hm
theorem asA (h:(!apO cs os ks gs bs l rs d)=false):(l.length:Int)≤1000:=by
 have h:=OY h
 unfold apO at h
 simp only [Bool.and_eq_true,decide_eq_true_eq] at h
 omega
theorem X4 (c:FT cs os ks gs bs l rs d t n=true):deA cs os ks gs bs l rs d t n=UE gs rs (TM cs os ks gs bs l d t) gs.length∧deR cs os ks gs bs l rs d t n=dcR gs rs (TM cs os ks gs bs l d t) gs.length∧Rq cs os ks gs bs l rs d t n=QJ gs l t n (UE gs rs (TM cs os ks gs bs l d t) gs.length) gs.length∧deE cs os ks gs bs l rs d t n=0:=by
 unfold deA deR Rq deE
 rw [if_pos c,if_pos c,if_pos c,if_pos c]
 exact ⟨rfl,rfl,rfl,rfl⟩
theorem awq {i a:Int}(h:nwB gs l t i a=true):yg (bn gs i)<a:=by
 unfold nwB at h
 rw [Bool.and_eq_true] at h
 have h1:=h.1
 simp only [Bool.not_eq_true',decide_eq_false_iff_not] at h1
 omega
end
end Go.Proofs.YtlihnbimgclogaaGreatDoor
namespace Go.Proofs.YtlihnbimgclogaaGreatDoor
open Go.Sx
end Go.Proofs.YtlihnbimgclogaaGreatDoor
namespace Go.Proofs.YtlihnbimgclogaaGreatDoor
open Go.Sx
section
variable {cs : List Cd} {os : List ByteArray} {ks : List Ko} {gs : List Ch} {bs : List Ba} {l : List Le} {rs : List Ra} {d : List Dm} {t n : Int}
structure NwL (gs:List Ch) (am:List Int) (t n:Int) (m:List Le):Prop where
 at_:∀k:Int,0≤k→k<(m.length:Int)→fQ m k=(n+k,(fQ m k).2.1,gi am (fQ m k).2.1,t,12)∧(0≤(fQ m k).2.1∧(fQ m k).2.1<(gs.length:Int))∧yg (bn gs (fQ m k).2.1)<gi am (fQ m k).2.1
 up:∀k:Int,1≤k→k<(m.length:Int)→(fQ m (k-1)).2.1<(fQ m k).2.1
theorem xN {m:List Le}{x:Le}{k:Int}(h0:0≤k):fQ (m++[x]) k=if k<(m.length:Int) then fQ m k else if k=(m.length:Int) then x else (0,0,0,0,0):=by
 unfold fQ
 rw [List.getD_eq_getElem?_getD,List.getD_eq_getElem?_getD]
 split
 ·rw [List.getElem?_append_left (by omega)]
 ·rw [List.getElem?_append_right (by omega)]
  split
  ·rw [show k.toNat-m.length=0 by omega]
   rfl
  ·rw [List.getElem?_eq_none (by simp;omega)]
   rfl
theorem ajZ {am:List Int}:∀ {K:Nat},K≤gs.length→NwL gs am t n (QJ gs l t n am K)∧∀x∈QJ gs l t n am K,x.2.1<(K:Int)
 |0,_=>⟨⟨fun k h0 h1=>by simp [QJ] at h1;omega,fun k h0 h1=>by simp [QJ] at h1;omega⟩,fun x hx=>by cases hx⟩
 | K +1,h=>by
  obtain ⟨⟨h1,h2⟩,h3⟩:=ajZ (am:=am) (K:=K) (by omega)
  rw [QJ]
  split
  ·rename_i hn
   have hf:=awq hn
   refine ⟨⟨fun k k0 k1=>?_,fun k k0 k1=>?_⟩,fun x hx=>?_⟩
   ·simp only [List.length_append,List.length_cons,List.length_nil] at k1
    rw [xN k0]
    split
    ·rename_i hk;exact h1 k k0 hk
    ·rename_i hk
     have e:k=((QJ gs l t n am K).length:Int):=by omega
     rw [if_pos e,e]
     exact ⟨rfl,by simp only;omega,hf⟩
   ·simp only [List.length_append,List.length_cons,List.length_nil] at k1
    rw [xN (by omega),xN (by omega),if_pos (show k-1<((QJ gs l t n am K).length:Int) by omega)]
    split
    ·rename_i hk;exact h2 k k0 hk
    ·rename_i hk
     rw [if_pos (show k=((QJ gs l t n am K).length:Int) by omega)]
     exact h3 _ (xM (by omega) (by omega))
   ·rw [List.mem_append,List.mem_singleton] at hx
    rcases hx with hx|rfl
    ·have:=h3 x hx;omega
    ·simp only;omega
  ·rw [List.append_nil]
   exact ⟨⟨h1,h2⟩,fun x hx=>by have:=h3 x hx;omega⟩
theorem Ua:gK l=true↔l.length≤64∧∀k:Int,0≤k→k<(l.length:Int)→KA (fQ l k)=true∧(k=0∨Ak (fQ l (k-1)) (fQ l k)=true):=by
 unfold gK
 rw [Bool.and_eq_true,decide_eq_true_eq,fE]
 refine and_congr_right fun _=>⟨fun h k k0 k1=>?_,fun h j hj=>?_⟩
 ·have:=h k.toNat (by omega)
  rw [Int.toNat_of_nonneg k0] at this
  unfold jD at this
  rw [Bool.and_eq_true,Bool.or_eq_true,decide_eq_true_eq] at this
  exact this
 ·obtain ⟨h1,h2⟩:=h j (by omega) hj
  unfold jD
  rw [h1,Bool.true_and,Bool.or_eq_true,decide_eq_true_eq]
  exact h2
theorem aeH {x:Le}(h:gK l=true) (hx:KA x=true) (hl:l.length<64) (hf:l.length=0∨Ak (fQ l ((l.length:Int)-1)) x=true):gK (l++[x])=true:=by
 rw [Ua] at h⊢
 refine ⟨by simp;omega,fun k k0 k1=>?_⟩
 simp only [List.length_append,List.length_cons,List.length_nil] at k1
 rw [xN k0]
 split
 ·rename_i hk
  obtain ⟨h1,h2⟩:=h.2 k k0 hk
  refine ⟨h1,?_⟩
  rcases h2 with h2|h2
  ·exact .inl h2
  ·by_cases e:k=0
   ·exact .inl e
   ·rw [xN (by omega),if_pos (by omega)]
    exact .inr h2
 ·rename_i hk
  have e:k=(l.length:Int):=by omega
  rw [if_pos e]
  refine ⟨hx,?_⟩
  rcases hf with hf|hf
  ·exact .inl (by omega)
  ·by_cases e0:k=0
   ·exact .inl e0
   ·rw [xN (by omega),if_pos (by omega),e]
    exact .inr hf
structure Fit (l:List Le) (n t:Int):Prop where
 les:gK l=true
 last:l.length=0∨((fQ l ((l.length:Int)-1)).1<n∧(fQ l ((l.length:Int)-1)).2.2.2.1≤t)
theorem Fit.mono {n' t':Int}(h:Fit l n t) (hn:n≤n') (ht:t≤t'):Fit l n' t':=⟨h.les,by
 rcases h.last with h1|h1
 ·exact .inl h1
 ·exact .inr (by omega)⟩
theorem arA {b:Int}{j:Int}(hj:0≤j):∀(l:List Le) (o:List Int),(∀x∈l,0≤x.2.1∧x.2.1<(o.length:Int))→gi o j≤b→(∀x∈l,x.2.1=j→x.2.2.1≤b)→gi (l.foldl kpA o) j≤b
 | [],_,_,h,_=>h
 | x::l,o,hc,h,hx=>by
  rw [List.foldl_cons]
  have hx0:=hc x (by simp)
  refine arA hj l _ (fun y hy=>by rw [aaV];exact hc y (by simp [hy])) ?_ (fun y hy=>hx y (by simp [hy]))
  unfold kpA
  rw [lg hx0.1 hx0.2 hj]
  split
  ·rename_i e
   have:=hx x (by simp) e.symm
   rw [←e]
   unfold mx
   split<;>omega
  ·exact h
theorem ax9 (hv:gK l=true) (hb:below gs.length l=true):∀x∈l.filter (Ju t),0≤x.2.1∧x.2.1<((List.replicate gs.length (0:Int)).length:Int):=fun x hx=>by
 have hx:=(List.mem_filter.1 hx).1
 have h1:=Gl.1 ((kH hv).2 x hx)
 have h2:=of_decide_eq_true (List.all_eq_true.1 hb x hx)
 rw [List.length_replicate]
 omega
theorem aqM {b j:Int}(hv:gK l=true) (hb:below gs.length l=true) (hj:0≤j) (b0:0≤b) (h:∀x∈l,Ju t x=true→x.2.1=j→x.2.2.1≤b):gi (QV gs.length l t) j≤b:=
 arA hj _ _ (ax9 hv hb) (by rw [qo];exact b0) (fun x hx e=>h x (List.mem_filter.1 hx).1 (List.mem_filter.1 hx).2 e)
end
end Go.Proofs.YtlihnbimgclogaaGreatDoor
namespace Go.Proofs.YtlihnbimgclogaaGreatDoor
open Go.Sx
abbrev aET (a b:Le):Prop:=a.1<b.1∧a.2.2.2.1≤b.2.2.2.1
theorem apv {l:List Le}:gK l=true↔l.length≤64∧(∀x∈l,KA x=true)∧l.Pairwise aET:=by
 refine ⟨fun h=>⟨(kH h).1,(kH h).2,LQ h⟩,fun ⟨h1,h2,h3⟩=>Ua.2 ⟨h1,fun k k0 k1=>⟨h2 _ (xM k0 k1),?_⟩⟩⟩
 by_cases e:k=0
 ·exact .inl e
 ·right
  have:=List.pairwise_iff_getElem.1 h3 (k-1).toNat k.toNat (by omega) (by omega) (by omega)
  rw [←uF,←uF] at this
  unfold Ak
  rw [decide_eq_true (p:=(fQ l k).1>_) this.1,decide_eq_true (p:=(fQ l k).2.2.2.1≥_) this.2]
  rfl
theorem aiL {l m:List Le}(h:gK l=true) (hs:m.Sublist l):gK m=true:=by
 rw [apv] at h⊢
 exact ⟨Nat.le_trans hs.length_le h.1,fun x hx=>h.2.1 x (hs.subset hx),h.2.2.sublist hs⟩
def grS (o:List Le) (x:Le):List Le:=if Ac o x=0 then Qw o x else o
def Ug (l m:List Le) (t:Int):List Le:=m.foldl grS (Jg l t)
theorem axl {o:List Le}{x:Le}(h:gK o=true):gK (grS o x)=true∧(grS o x=o∨grS o x=o++[x]):=by
 unfold grS
 split
 ·rename_i e
  have e2:Qw o x=o++[x]:=by unfold Qw;rw [if_pos e]
  rw [e2]
  refine ⟨?_,.inr rfl⟩
  unfold Ac at e
  split at e
  ·rename_i c
   rw [Bool.and_eq_true] at c
   split at e
   ·omega
   ·rename_i c2
    split at e
    ·omega
    ·rename_i c3
     have:=(kH h).1
     refine aeH h c.2 (by omega) ?_
     by_cases q:o.length=0
     ·exact .inl q
     ·right
      rw [decide_eq_true (by omega),Bool.true_and] at c2
      exact OY (by simpa using c2)
  ·omega
 ·exact ⟨h,.inl rfl⟩
theorem ajg:∀ {m o:List Le},gK o=true→gK (m.foldl grS o)=true∧∀x∈m.foldl grS o,x∈o∨x∈m
 | [],_,h=>⟨h,fun x hx=> .inl hx⟩
 | y::m,o,h=>by
  rw [List.foldl_cons]
  obtain ⟨h1,h2⟩:=axl (x:=y) h
  obtain ⟨h3,h4⟩:=ajg (m:=m) h1
  refine ⟨h3,fun x hx=>?_⟩
  rcases h4 x hx with h5|h5
  ·rcases h2 with h2|h2<;>rw [h2] at h5
   ·exact .inl h5
   ·rw [List.mem_append,List.mem_singleton] at h5
    rcases h5 with h5|rfl
    ·exact .inl h5
    ·exact .inr (by simp)
  ·exact .inr (List.mem_cons_of_mem _ h5)
theorem aje {l m:List Le}{t:Int}(h:gK l=true) (ht:inB t 0 1100000=true):gK (Ug l m t)=true∧∀x∈Ug l m t,x∈l∨x∈m:=by
 have e:Jg l t=l.filter (aeS t):=by unfold Jg Jf;rw [if_pos (by rw [h,ht];rfl)]
 obtain ⟨h1,h2⟩:=ajg (m:=m) (o:=Jg l t) (by rw [e];exact aiL h List.filter_sublist)
 refine ⟨h1,fun x hx=>?_⟩
 rcases h2 x hx with h3|h3
 ·rw [e] at h3
  exact .inl (List.mem_filter.1 h3).1
 ·exact .inr h3
section
variable {cs : List Cd} {os : List ByteArray} {ks : List Ko} {gs : List Ch} {bs : List Ba} {l : List Le} {rs : List Ra} {d : List Dm} {t n : Int}
theorem aqL {j:Int}(j0:0≤j) (j1:j<(gs.length:Int)):gi (F5 gs l t) j=mx (yg (bn gs j)) (gi (QV gs.length l t) j):=mF j0 j1
theorem akc (V:Vd cs os ks gs bs l rs d t n) {am:List Int}{m:List Le}(M:NwL gs am t n m) {t':Int}(h0:0≤t') (h1:t'≤1100000):DT (Ug l m t) gs.length t'=true:=by
 have tb:=V.tb
 have gl:=V.gl
 obtain ⟨g1,g2⟩:=aje (m:=m) V.les (t:=t) (dB.2 (by omega))
 unfold DT
 rw [g1,dB.2 (by omega),dB.2 (by omega)]
 simp only [Bool.true_and,Bool.and_true]
 exact List.all_eq_true.2 fun x hx=>decide_eq_true (by
  rcases g2 x hx with h|h
  ·exact of_decide_eq_true (List.all_eq_true.1 V.co x h)
  ·obtain ⟨k,hk,rfl⟩:=List.mem_iff_getElem.1 h
   obtain ⟨_,q2,_⟩:=M.at_ k (by omega) (by omega)
   rw [uF (by omega)] at q2
   simpa using q2.2)
end
end Go.Proofs.YtlihnbimgclogaaGreatDoor
namespace Go.Proofs.YtlihnbimgclogaaGreatDoor
open Go.Sx
theorem awk {d:List Dm}{t u:Int}:iM d t=iM d u:=by
 have e:ltD d t=ltD d u:=by
  funext a b
  rw [Bool.eq_iff_iff,aaT,aaT]
  unfold Ws
  omega
 unfold iM
 rw [e]
theorem aEx {n:Int}(h:n≤60):wt n≤61:=by
 unfold wt
 omega
theorem afF {al bl am:List Int}:∀ {L:List Int},(∀k∈L,mx (gi al k) (gi am k)≤mx (gi bl k) (gi am k))→VY al am L≤VY bl am L
 | [],_=>Int.le_refl _
 |k::L,h=>by
  have h1:=h k (by simp)
  have h2:=afF (al:=al) (bl:=bl) (am:=am) (L:=L) (fun j hj=>h j (List.mem_cons_of_mem _ hj))
  rw [oG,oG]
  omega
def rmp (T mn i:Int) (r:Ra):Prop:=(T=0→1≤i→r.1=0)∧(T≠0→(i≤5→r.1≠0∨i≤r.2)∧(6≤i→r.1≠0∧(T≤r.1∨mn+(i-6)≤r.1))∧(7≤i→r.1≤T))
theorem aAs {T mn:Int}{r:Ra}(h:0≤r.2):rmp T mn 0 r:=⟨fun _ h=>by omega,fun _=>⟨fun _=> .inr h,fun h=>by omega,fun h=>by omega⟩⟩
theorem anQ {mn st T i a s a' s':Int}(hm:1≤mn) (hst:1≤st) (hT:T≠0→mn≤T) (s0:0≤s) (amn:a≠0→mn≤a)
  (eA:a'=if a=0 then (if T≠0∧5≤s then mn else 0) else if T=0 then 0 else min T (a+st)) (eS:s'=if a=0 then (if T≠0∧5≤s then 0 else min (s+1) 1000000) else if T=0 then 0 else min (s+1) 1000000)
  (h:rmp T mn i (a,s)) (h0:0≤i):rmp T mn (i+1) (a',s'):=by
 unfold rmp at h⊢
 dsimp only at h⊢
 obtain ⟨h1,h2⟩:=h
 refine ⟨fun t0 _=>?_,fun t0=>?_⟩
 ·rw [eA]
  by_cases z:a=0
  ·rw [if_pos z,if_neg (fun h:T≠0∧5≤s=>h.1 t0)]
  ·rw [if_neg z,if_pos t0]
 ·obtain ⟨h3,h4,h5⟩:=h2 t0
  have hmn:=hT t0
  by_cases z:a=0
  ·rw [if_pos z] at eA eS
   by_cases q:5≤s
   ·rw [if_pos ⟨t0,q⟩] at eA eS
    refine ⟨fun _=> .inl (by omega),fun _=>⟨by omega,?_⟩,fun _=>by omega⟩
    by_cases e:i≤5
    ·omega
    ·have:=(h4 (by omega)).1
     omega
   ·rw [if_neg (fun h=>q h.2)] at eA eS
    refine ⟨fun hi=> .inr ?_,fun hi=>?_,fun hi=>by omega⟩
    ·have:=h3 (by omega)
     omega
    ·exfalso
     by_cases e:i=5
     ·have:=h3 (by omega)
      omega
     ·have:=(h4 (by omega)).1
      omega
  ·rw [if_neg z,if_neg t0] at eA eS
   have:=amn z
   refine ⟨fun _=> .inl (by omega),fun hi=>⟨by omega,?_⟩,fun _=>by omega⟩
   by_cases e:i=5
   ·omega
   ·have:=(h4 (by omega)).2
    omega
theorem af7 {c:Ch}{T i:Int}{r:Ra}(hk:okC c r T=true) (hT:kV c.2.2.2.1 c.2.2.2.2.1 c.2.2.2.2.2.1 T=T) (h:rmp T c.2.2.2.1 i r) (h0:0≤i):rmp T c.2.2.2.1 (i+1) (nxA c r T,nxS c r T):=by
 unfold okC at hk
 obtain ⟨hc,s0,s1,w0,w1,a0,a1,_,_,amn⟩:=zN hk
 unfold sU at hc
 have hb:=nR (a:=T) hc.1 hc.2.1 hc.2.2.1 hc.2.2.2.1
 rw [hT] at hb
 have eA:=aiy hk
 have eS:=arx hk
 rw [hT] at eA eS
 refine anQ (a:=r.1) (s:=r.2) hc.1 hc.2.2.2.1 (fun t0=>?_) s0 amn eA eS h h0
 by_cases q:T<c.2.2.2.1
 ·exact absurd (hb.2.2.1 q) t0
 ·exact Int.not_lt.1 q
theorem anR {T mn i:Int}{r:Ra}(h:rmp T mn i r) (hi:100≤i) (hm:1≤mn) (hT:T≤80):r.1=T:=by
 obtain ⟨h1,h2⟩:=h
 by_cases t0:T=0
 ·rw [t0]
  exact h1 t0 (by omega)
 ·obtain ⟨_,h3,h4⟩:=h2 t0
  have h3:=(h3 (by omega)).2
  have h4:=h4 (by omega)
  omega
section
variable {cs : List Cd} {os : List ByteArray} {ks : List Ko} {gs : List Ch} {bs : List Ba} {l : List Le} {rs : List Ra} {d : List Dm} {t n : Int}
theorem Zp {u:Int}:zu cs os ks gs bs d t=zu cs os ks gs bs d u:=by
 unfold zu
 rw [awk (u:=u)]
theorem afz (h:Si cs os ks gs bs d) {j:Int}(j0:0≤j) (j1:j<(gs.length:Int)):∃k,(0≤k∧k<CW (bn gs j).2.2.2.1 (bn gs j).2.2.2.2.1 (bn gs j).2.2.2.2.2.1)∧gi (zu cs os ks gs bs d t) j=vw gs j k:=by
 have H:=Td (KY (t:=t) h)
 refine ⟨gi (LM (jC cs gs cs.length) gs (lu gs) (oC gs d) (iM d t)) j,(aaS H).2 j j0 j1,?_⟩
 unfold zu
 rw [OD (KY h),kW j0 j1]
theorem auC (h:Si cs os ks gs bs d) {j:Int}(j0:0≤j) (j1:j<(gs.length:Int)):kV (bn gs j).2.2.2.1 (bn gs j).2.2.2.2.1 (bn gs j).2.2.2.2.2.1 (gi (zu cs os ks gs bs d t) j)=gi (zu cs os ks gs bs d t) j:=by
 obtain ⟨k,⟨k0,k1⟩,e⟩:=afz (t:=t) h j0 j1
 have hc:=Jj (h.ch j0 j1)
 have hh:lU (bn gs j).2.2.2.1 (bn gs j).2.2.2.2.1 (bn gs j).2.2.2.2.2.1=true:=eX.2 (by omega)
 have hp:sU (bn gs j).2.2.2.1 (bn gs j).2.2.2.2.1 (bn gs j).2.2.2.2.2.1:=by unfold sU;omega
 have ht:=acA hh k0 k1
 have hn:0≤vw gs j k:=QU hh k0
 rw [e]
 refine zU hp (rD.2 ?_) hn
 by_cases q:k=0
 ·left
  rw [q]
  exact acC
 ·right
  unfold vw at hn⊢
  unfold Cj at ht hn⊢
  rw [if_neg q] at ht hn⊢
  have h1:0≤(k-1)*(bn gs j).2.2.2.2.2.1:=Int.mul_nonneg (by omega) (by omega)
  refine ⟨by omega,ht,?_⟩
  rw [show (bn gs j).2.2.2.1+(k-1)*(bn gs j).2.2.2.2.2.1-(bn gs j).2.2.2.1=(k-1)*(bn gs j).2.2.2.2.2.1 by omega]
  exact Int.mul_emod_left _ _
theorem ax4 {j:Int}(j0:0≤j) (j1:j<(gs.length:Int)):gi (lu gs) j=yg (bn gs j):=mF j0 j1
theorem aAK (V:Vd cs os ks gs bs l rs d t n) (hal:∀j,0≤j→j<(gs.length:Int)→gi (F5 gs l t) j≤mx (yg (bn gs j)) (gi (zu cs os ks gs bs d t) j)):TM cs os ks gs bs l d t=zu cs os ks gs bs d t:=by
 have H:=Td (TL V)
 have hs:=V.si
 have e:lV gs (RJ gs (zu cs os ks gs bs d t))=zu cs os ks gs bs d t:=wo (by rw [Js,(zq hs).1]) fun j j0 j1=>by
  rw [(zq hs).1] at j1
  obtain ⟨k,⟨k0,k1⟩,ek⟩:=afz (t:=t) hs j0 j1
  rw [kW j0 j1,Ot j0 j1]
  unfold tpO
  rw [ek,(acB H j0 j1 k0 k1).2.2.2]
 have hp:yu (jC cs gs cs.length) (F5 gs l t) (zu cs os ks gs bs d t)=true:=by
  have h:=afO (KY (t:=t) hs)
  change yu _ _ (zu cs os ks gs bs d t)=true at h
  unfold yu at h⊢
  rw [List.all_eq_true] at h⊢
  intro r hr
  have h1:=h r hr
  unfold rowB at h1⊢
  rw [Bool.or_eq_true] at h1⊢
  rcases h1 with h1|h1
  ·exact .inl h1
  ·right
   refine decide_eq_true (Int.le_trans (afF fun k hk=>?_) (of_decide_eq_true h1))
   have hm:=anH hr hk
   have:=hal k hm.1 hm.2
   rw [ax4 hm.1 hm.2]
   unfold mx at this⊢
   split<;>split at this<;>(try split)<;>omega
 have hq:=al8 H (by rw [e];exact hp)
 show vI cs os ks gs bs (F5 gs l t) (zu cs os ks gs bs d t) (iM d t)=_
 rw [OD (TL V),hq,e]
theorem afk (V:Vd cs os ks gs bs l rs d t n):FT cs os ks gs bs l rs d t n=true:=by
 unfold FT
 rw [V.site,V.les,decide_eq_true V.rl,decide_eq_true V.dl,dB.2 V.tb,dB.2 V.nb,V.co]
 simp only [Bool.true_and]
 rw [fE]
 intro j hj
 rw [V.ra j (by omega) hj,V.dm j (by omega) hj]
 rfl
structure Sti (cs:List Cd) (os:List ByteArray) (ks:List Ko) (gs:List Ch) (bs:List Ba) (d:List Dm) (t n k:Int) (l:List Le) (rs:List Ra) (am:List Int) (m:Int):Prop where
 vd:Vd cs os ks gs bs l rs d (t+k) m
 nn:m≤n+16*k
 le:∀x∈l,(x.2.2.2.1≤t∧x.2.2.2.2≤60)∨x.2.2.1≤gi (zu cs os ks gs bs d t) x.2.1
 rm:72≤k→∀j,0≤j→j<(gs.length:Int)→rmp (gi (zu cs os ks gs bs d t) j) (bn gs j).2.2.2.1 (k-72) (lm rs j)
 am:1≤k→am.length=gs.length∧∀j,0≤j→j<(gs.length:Int)→gi am j=(lm rs j).1
theorem azR {am:List Int}(V:Vd cs os ks gs bs l rs d t n) (h:∀x∈l,x.2.2.2.1≤t∧x.2.2.2.2≤60):Sti cs os ks gs bs d t n 0 l rs am n:=
 ⟨by rw [Int.add_zero];exact V,by omega,fun x hx=> .inl (h x hx),fun h=>by omega,fun h=>by omega⟩
theorem amf {k m:Int}{am:List Int}(S:Sti cs os ks gs bs d t n k l rs am m) (hk:72≤k) {j:Int}(j0:0≤j) (j1:j<(gs.length:Int)):gi (F5 gs l (t+k)) j≤mx (yg (bn gs j)) (gi (zu cs os ks gs bs d (t+k)) j):=by
 rw [Zp (u:=t)]
 have hT:0≤gi (zu cs os ks gs bs d t) j:=(abj (a:=0) (b:=80) (by decide) (zq S.vd.si).2).1
 have h:=aqM (t:=t+k) (j:=j) (b:=gi (zu cs os ks gs bs d t) j) S.vd.les S.vd.co j0 hT (fun x hx ha e=>by
  rcases S.le x hx with h1|h1
  ·exfalso
   unfold Ju QF at ha
   simp only [Bool.and_eq_true,decide_eq_true_eq] at ha
   have:=aEx h1.2
   omega
  ·rw [e] at h1
   exact h1)
 rw [aqL j0 j1]
 unfold mx
 split<;>split<;>omega
theorem afC {k m:Int}{am:List Int}(S:Sti cs os ks gs bs d t n k l rs am m) (h0:0≤k) (hk:k≤200) (ht:t≤999700) (hn:n≤900000):
  Sti cs os ks gs bs d t n (k+1) (Ug l (Rq cs os ks gs bs l rs d (t+k) m) (t+k)) (deR cs os ks gs bs l rs d (t+k) m) (deA cs os ks gs bs l rs d (t+k) m) (m+((Rq cs os ks gs bs l rs d (t+k) m).length:Int)):=by
 have V:=S.vd
 obtain ⟨ea,er,el,_⟩:=X4 (afk V)
 have hl:(Rq cs os ks gs bs l rs d (t+k) m).length≤gs.length:=by rw [el];exact uI
 have M:NwL gs (UE gs rs (TM cs os ks gs bs l d (t+k)) gs.length) (t+k) m (Rq cs os ks gs bs l rs d (t+k) m):=by rw [el];exact (ajZ (Nat.le_refl _)).1
 have gl:=V.gl
 have tb:=V.tb
 have nb:=V.nb
 have nn:=S.nn
 obtain ⟨g1,g2⟩:=aje (m:=Rq cs os ks gs bs l rs d (t+k) m) V.les (t:=t+k) (dB.2 (by omega))
 have hco:below gs.length (Ug l (Rq cs os ks gs bs l rs d (t+k) m) (t+k))=true:=by
  have:=akc V M (t':=t+k) (by omega) (by omega)
  unfold DT at this
  rw [Bool.and_eq_true] at this
  exact this.2
 refine ⟨⟨V.site,g1,by rw [er];exact Aq,V.dl,gl,by omega,by omega,hco,fun j j0 j1=>?_,V.dm,V.ch⟩,by omega,fun x hx=>?_,fun h72 j j0 j1=>?_,fun _=>⟨by rw [ea];exact eU,fun j j0 j1=>?_⟩⟩
 ·rw [er,QI j0 j1]
  exact aaA (Ji V j j0 j1)
 ·rcases g2 x hx with h1|h1
  ·exact S.le x h1
  ·right
   obtain ⟨i,hi,rfl⟩:=List.mem_iff_getElem.1 h1
   obtain ⟨q1,q2,_⟩:=M.at_ i (by omega) (by omega)
   rw [uF (by omega)] at q1 q2
   simp only [Int.toNat_natCast] at q1 q2
   have q3:=congrArg (fun z:Le=>z.2.2.1) q1
   simp only at q3
   have:=aB2 V q2.1 q2.2
   rw [Zp (u:=t)] at this
   omega
 ·rw [er,QI j0 j1]
  by_cases e:k=71
  ·subst e
   rw [show (71:Int)+1-72=0 from rfl]
   exact aAs (by
    have:=af9 (aaA (Ji V j j0 j1))
    exact this.1)
  ·have h1:=S.rm (by omega) j j0 j1
   have hw:=aAK V (fun j j0 j1=>amf S (by omega) j0 j1)
   have hc:=Ji V j j0 j1
   rw [hw,Zp (t:=t+k) (u:=t)] at hc⊢
   rw [show k+1-72=k-72+1 by omega]
   exact af7 hc (auC V.si j0 j1) h1 (by omega)
 ·rw [ea,er,QI j0 j1,aj0 j0 j1]
theorem ame {m:Int}{am:List Int}(S:Sti cs os ks gs bs d t n 201 l rs am m) {u:Int}:am=zu cs os ks gs bs d u:=by
 obtain ⟨h1,h2⟩:=S.am (by omega)
 have hs:=S.vd.si
 rw [Zp (u:=t)]
 refine wo (by rw [h1,(zq hs).1]) fun j j0 j1=>?_
 rw [(zq hs).1] at j1
 rw [h2 j j0 j1]
 have hc:=Jj (S.vd.ch j j0 j1)
 have hT:=(abj (a:=0) (b:=80) (j:=j) (by decide) (zq (t:=t) hs).2).2
 exact anR (S.rm (by omega) j j0 j1) (by omega) hc.2.1.1 hT
end
end Go.Proofs.YtlihnbimgclogaaGreatDoor
namespace Go.Proofs.YtlihnbimgclogaaGreatDoor
open Go.Sx
end Go.Proofs.YtlihnbimgclogaaGreatDoor
namespace Go.Proofs.YtlihnbimgclogaaGreatDoor
open Go.Sx
end Go.Proofs.YtlihnbimgclogaaGreatDoor
namespace Go.Proofs.YtlihnbimgclogaaGreatDoor
open Go.Sx
end Go.Proofs.YtlihnbimgclogaaGreatDoor
namespace Go.Proofs.YtlihnbimgclogaaGreatDoor
open Go.Sx
end Go.Proofs.YtlihnbimgclogaaGreatDoor
namespace Go.Proofs.YtlihnbimgclogaaGreatDoor
open Go.Sx
end Go.Proofs.YtlihnbimgclogaaGreatDoor
namespace Go.Proofs.YtlihnbimgclogaaGreatDoor
open Go.Sx
def akH:List LV→T LV
 | [.xl (.pair (.int .i64) (.pair (.int .i64) (.pair (.int .i64) (.pair (.int .i64) (.int .i64))))) l,.v (.agg ⟨[.int .i64 nu,.int .i64 co,.int .i64 am,.int .i64 fr,.int .i64 tk]⟩)]=> .ok (.gq [.xl ig (Qw l (nu,co,am,fr,tk)),.v (.int .i64 (Ac l (nu,co,am,fr,tk)))])
 |_=> .no
noncomputable def akp:List LV→T LV:=gQ Tryz.prog Tryz.f30.params.toList akH
noncomputable def asl:Specs:=aZ [(62,uM),(63,JI),(64,U5)]
theorem aBs:∀g S,asl g=some S→Valid Tryz.prog aS g S:=aT (l:=[(62,uM),(63,JI),(64,U5)]) ⟨Oi,afv,aq2,trivial⟩
theorem awO (l:List Le) (nu co am fr tk:Int):bV Tryz.prog aS (asl) dZ aC Tryz.f30 [.xl ig l,.v (.agg #[.int .i64 nu,.int .i64 co,.int .i64 am,.int .i64 fr,.int .i64 tk])]=.br ((!(gK l)) ||(!(KA (nu,co,am,fr,tk)))) (.ok (.gq [.xl ig ([]:List Le),.v (.int .i64 1)])) (.br (decide ((List.length l:Int)>0)) (.req (0≤(IntKind.i64.wrap ((List.length l:Int)-1))∧(IntKind.i64.wrap ((List.length l:Int)-1))<(List.length l:Int)) (.br (!(Ak (fQ l (IntKind.i64.wrap ((List.length l:Int)-1))) (nu,co,am,fr,tk))) (.ok (.gq [.xl ig ([]:List Le),.v (.int .i64 12)])) (.br ((List.length l:Int)==64) (.ok (.gq [.xl ig ([]:List Le),.v (.int .i64 10)])) (.req (0≤(0:Int)∧(0:Int)≤(IntKind.i64.wrap ((List.length l:Int)+1))∧40*(IntKind.i64.wrap ((List.length l:Int)+1))≤2^48∧(IntKind.i64.wrap ((List.length l:Int)+1))<2^63) (.req (0+(0:Int).toNat=List.length (List.replicate (0:Int).toNat ((0:Int),((0:Int),((0:Int),((0:Int),(0:Int))))))∧(((0:Int).toNat+List.length l:Nat):Int)*40≤2^47∧(((0:Int).toNat+List.length l:Nat):Int)<2^62) (.req (0+((0:Int).toNat+List.length l)=List.length ((List.replicate (0:Int).toNat ((0:Int),((0:Int),((0:Int),((0:Int),(0:Int))))))++l)∧(((0:Int).toNat+List.length l+List.length ([(nu,(co,(am,(fr,tk))))]):Nat):Int)*40≤2^47∧(((0:Int).toNat+List.length l+List.length ([(nu,(co,(am,(fr,tk))))]):Nat):Int)<2^62) (.req (0+((0:Int).toNat+List.length l+List.length ([(nu,(co,(am,(fr,tk))))]))≤List.length (((List.replicate (0:Int).toNat ((0:Int),((0:Int),((0:Int),((0:Int),(0:Int))))))++l)++([(nu,(co,(am,(fr,tk))))]))) (.ok (.gq [.xl ig (((((List.replicate (0:Int).toNat ((0:Int),((0:Int),((0:Int),((0:Int),(0:Int))))))++l)++([(nu,(co,(am,(fr,tk))))])).drop 0).take ((0:Int).toNat+List.length l+List.length ([(nu,(co,(am,(fr,tk))))]))),.v (.int .i64 0)]))))))))) (.br ((List.length l:Int)==64) (.ok (.gq [.xl ig ([]:List Le),.v (.int .i64 10)])) (.req (0≤(0:Int)∧(0:Int)≤(IntKind.i64.wrap ((List.length l:Int)+1))∧40*(IntKind.i64.wrap ((List.length l:Int)+1))≤2^48∧(IntKind.i64.wrap ((List.length l:Int)+1))<2^63) (.req (0+(0:Int).toNat=List.length (List.replicate (0:Int).toNat ((0:Int),((0:Int),((0:Int),((0:Int),(0:Int))))))∧(((0:Int).toNat+List.length l:Nat):Int)*40≤2^47∧(((0:Int).toNat+List.length l:Nat):Int)<2^62) (.req (0+((0:Int).toNat+List.length l)=List.length ((List.replicate (0:Int).toNat ((0:Int),((0:Int),((0:Int),((0:Int),(0:Int))))))++l)∧(((0:Int).toNat+List.length l+List.length ([(nu,(co,(am,(fr,tk))))]):Nat):Int)*40≤2^47∧(((0:Int).toNat+List.length l+List.length ([(nu,(co,(am,(fr,tk))))]):Nat):Int)<2^62) (.req (0+((0:Int).toNat+List.length l+List.length ([(nu,(co,(am,(fr,tk))))]))≤List.length (((List.replicate (0:Int).toNat ((0:Int),((0:Int),((0:Int),((0:Int),(0:Int))))))++l)++([(nu,(co,(am,(fr,tk))))]))) (.ok (.gq [.xl ig (((((List.replicate (0:Int).toNat ((0:Int),((0:Int),((0:Int),((0:Int),(0:Int))))))++l)++([(nu,(co,(am,(fr,tk))))])).drop 0).take ((0:Int).toNat+List.length l+List.length ([(nu,(co,(am,(fr,tk))))]))),.v (.int .i64 0)])))))))):=by kernel_rfl
theorem azJ:Valid Tryz.prog aS 30 akp:=aH Tryz.func30 rfl aBs aF (aX (by kernel_rfl)) (fun args lv h=>by
 unfold akH at h
 split at h
 ·simp only [canL,canX]
  rw [awO]
  rename_i l nu co am fr tk
  obtain rfl:=h
  have bad:∀e:Int,e≠0→Ac l (nu,co,am,fr,tk)=e→LV.gq [.xl ig ([]:List Le),.v (.int .i64 e)]=LV.gq [.xl ig (Qw l (nu,co,am,fr,tk)),.v (.int .i64 (Ac l (nu,co,am,fr,tk)))]:=fun e h0 h1=>by
   unfold Qw
   rw [h1,if_neg h0]
  refine ⟨fun c=>bad 1 (by decide) ?_,fun c=>?_⟩
  ·unfold Ac
   rw [if_neg (by revert c;cases gK l<;>cases KA (nu,co,am,fr,tk)<;>simp)]
  have hk:(gK l&&KA (nu,co,am,fr,tk))=true:=by revert c;cases gK l<;>cases KA (nu,co,am,fr,tk)<;>simp
  have hl:l.length≤64:=by rw [Bool.and_eq_true] at hk;exact (kH hk.1).1
  have w1:IntKind.i64.wrap ((List.length l:Int)+1)=(List.length l:Int)+1:=aK (by omega) (by omega)
  have fin:(decide (l.length>0)&&!Ak (fQ l ((l.length:Int)-1)) (nu,co,am,fr,tk))=false→l.length≠64→LV.gq [.xl ig ((l++[(nu,co,am,fr,tk)]).take (0+l.length+1)),.v (.int .i64 0)]=LV.gq [.xl ig (Qw l (nu,co,am,fr,tk)),.v (.int .i64 (Ac l (nu,co,am,fr,tk)))]:=fun h1 h2=>by
   have e:Ac l (nu,co,am,fr,tk)=0:=by unfold Ac;rw [if_pos hk,if_neg (by rw [h1];simp),if_neg h2]
   unfold Qw
   rw [e,if_pos rfl,List.take_of_length_le (by simp)]
  have rq:(0≤(0:Int)∧(0:Int)≤IntKind.i64.wrap ((List.length l:Int)+1)∧40*IntKind.i64.wrap ((List.length l:Int)+1)≤2^48∧IntKind.i64.wrap ((List.length l:Int)+1)<2^63):=by rw [w1];omega
  refine ⟨fun c2=>?_,fun c2=>?_⟩
  ·have c2:0<l.length:=by have:=of_decide_eq_true c2;omega
   have w2:IntKind.i64.wrap ((List.length l:Int)-1)=(List.length l:Int)-1:=aK (by omega) (by omega)
   rw [w2]
   refine ⟨by omega,fun c3=>bad 12 (by decide) ?_,fun c3=>⟨fun c4=>bad 10 (by decide) ?_,fun c4=>⟨rq,⟨rfl,by simp;omega,by simp;omega⟩,⟨by simp,by simp;omega,by simp;omega⟩,by simp,?_⟩⟩⟩
   ·unfold Ac
    rw [if_pos hk,if_pos (by rw [c3,decide_eq_true c2];rfl)]
   ·unfold Ac
    rw [if_pos hk,if_neg (by rw [c3];simp),if_pos (by simp at c4;omega)]
   ·exact fin (by rw [c3,Bool.and_false]) (by simp at c4;omega)
  ·have c2:¬l.length>0:=by have:=of_decide_eq_false c2;omega
   refine ⟨fun c4=>bad 10 (by decide) ?_,fun c4=>⟨rq,⟨rfl,by simp;omega,by simp;omega⟩,⟨by simp,by simp;omega,by simp;omega⟩,by simp,?_⟩⟩
   ·simp at c4;omega
   ·exact fin (by rw [decide_eq_false c2,Bool.false_and]) (by omega)
 ·cases h)
end Go.Proofs.YtlihnbimgclogaaGreatDoor
namespace Go.Proofs.YtlihnbimgclogaaGreatDoor
open Go.Sx
structure nI where
 out:List Le
 t22:List Le
 t23:Int
 t24:Int
def aD6 (s:nI):List LV:=[.xl ig s.out,.xl ig s.t22,.v (.int .i64 s.t23),.v (.int .i64 s.t24)]
def aC6 (_:nI):List aU:=[]
noncomputable def BM:Code:=((aB (Tryz.f31.body.getD .skip))[0]?).getD .skip
def SG (s:nI):T (Rd nI):=
 .br (decide (s.t24<s.t23)) (.req (0≤s.t24∧s.t24<(List.length s.t22:Int)) (.br ((Ac s.out (fQ s.t22 s.t24))==0) (.ok (.next {s with out:=(Qw s.out (fQ s.t22 s.t24)),t24:=(IntKind.i64.wrap (s.t24+1))})) (.ok (.next {s with t24:=(IntKind.i64.wrap (s.t24+1))})))) (.ok (.stop (.exit 0) s))
abbrev abN (s:nI):=(SG s).rd s
def adZ (s:nI):Prop:=s.t24=0∧s.t23=(List.length s.t22:Int)∧s.t23≤1000
def VA (s:nI):Prop:=(0≤s.t24∧s.t24≤s.t23)∧s.t23=(List.length s.t22:Int)∧s.t23≤1000
def PY (s:nI):Nat:=(s.t23-s.t24).toNat
def atv (_:Ex) (_ _:nI):Prop:=True
theorem aBn:∀s,adZ s→VA s:=by
 intro s h
 obtain ⟨h0,h1⟩:=h
 exact ⟨by omega,h1⟩
theorem axj (s:nI) (hI:VA s):bJ (fun s'=>VA s'∧PY s'<PY s) (fun x s'=>atv x s s') (abN s):=by
 unfold abN SG
 dsimp only [T.rd,T.rl]
 obtain ⟨⟨h0,h1⟩,h2,h3⟩:=hI
 refine au (fun c1=>?_) (fun c1=>trivial)
 have c1:s.t24<s.t23:=by simpa using c1
 rw [aK (x:=s.t24+1) (by omega) (by omega)]
 refine au (fun c2=>?_) (fun c2=>?_)<;>exact ⟨⟨⟨by simp only;omega,by simp only;omega⟩,h2,h3⟩,by simp only [PY];omega⟩
def Fv:bM nI:=⟨0,39,[7,22,23,24],[],aD6,aC6,fun v _=>⟨aQ ig (v.getD 0 .junk),aQ ig (v.getD 1 .junk),gI (v.getD 2 .junk),gI (v.getD 3 .junk)⟩,SG,fun s r=> {r with t22:=s.t22,t23:=s.t23},fun s=>s,fun _ s=>s,[.exit 0],adZ,VA,PY⟩
abbrev OH:=Fv.run
abbrev aqe:=Fv.jJ
abbrev ay1:=Fv.q
theorem avJ (s:nI) (hI:VA s):(SG s).all (fun _=>True):=by
 refine ⟨fun c1=>⟨?_,fun _=>trivial,fun _=>trivial⟩,fun _=>trivial⟩
 ·(obtain ⟨⟨h0,h1⟩,h2,h3⟩:=hI;simp only [decide_eq_true_eq] at c1;omega)
noncomputable def XT:Specs:=aZ [(30,akp),(65,YV)]
theorem ajl:∀g S,XT g=some S→Valid Tryz.prog aS g S:=aT (l:=[(30,akp),(65,YV)]) ⟨azJ,aun,trivial⟩
theorem ahR:Fv.Ok:=⟨fun s=>by kernel_rfl,fun s=>by kernel_rfl,fun s=>rfl,fun s t r=>rfl,fun s=>rfl,fun s=>by kernel_rfl⟩
theorem agO:Fv.Pf (atv):=⟨aBn,fun _ _=>rfl,axj,avJ⟩
theorem am8:bg Tryz.prog aS (AN 0) (.loop BM) Fv.lp:=bM.snd ahR agO (aP (Γ:=XT) (K:=dZ) (L:=aC) ajl aF BM (fun b hb=>by rw [show aB BM=[] by kernel_rfl] at hb;cases hb)) (fun s=>by kernel_rfl)
theorem apE (s:nI) (hE:adZ s):(fun (x:Ex) (s':nI) (v:List Le)=>x=.exit 0∧s'.out=v) (aqe s) (OH s) ((fun s:nI=>(s.t22.drop s.t24.toNat).foldl grS s.out) s):=by
 exact bM.wC ahR agO (fun s:nI=>(s.t22.drop s.t24.toNat).foldl grS s.out) (fun x s' v=>x=.exit 0∧s'.out=v) (fun s hI=>by
  show bJ _ _ (abN s)
  unfold abN SG
  dsimp only [T.rd,T.rl]
  obtain ⟨⟨h0,h1⟩,h2,h3⟩:=hI
  refine au (fun c1=>?_) (fun c1=>?_)
  ·have c1:s.t24<s.t23:=by simpa using c1
   have e:=(wz h0 (show s.t24<(List.length s.t22:Int) by omega)).1
   rw [aK (x:=s.t24+1) (by omega) (by omega)]
   refine au (fun c2=>?_) (fun c2=>?_)
   ·show List.foldl _ _ _=List.foldl _ _ _
    rw [e,List.foldl_cons]
    simp only
    unfold grS
    rw [if_pos (eq_of_beq c2)]
   ·show List.foldl _ _ _=List.foldl _ _ _
    rw [e,List.foldl_cons]
    simp only
    have c2:¬Ac s.out (fQ s.t22 s.t24)=0:=by simpa using c2
    conv=>rhs;arg 2;unfold grS;rw [if_neg c2]
  ·have c1:s.t23≤s.t24:=by simpa using c1
   refine ⟨rfl,?_⟩
   rw [List.drop_eq_nil_of_le (by omega)]
   rfl) s hE
def adn:List LV→T LV
 | [.xl (.pair (.int .i64) (.pair (.int .i64) (.pair (.int .i64) (.pair (.int .i64) (.int .i64))))) l,.xl (.pair (.int .i64) (.pair (.int .i64) (.pair (.int .i64) (.pair (.int .i64) (.int .i64))))) m,.v (.int .i64 t)]=> .req (Jf l t=true∧(List.length m:Int)≤1000) (.ok (.xl ig (Ug l m t)))
 |_=> .no
noncomputable def YR:List LV→T LV:=gQ Tryz.prog Tryz.f31.params.toList adn
theorem ao1 (l m:List Le) (t:Int):bV Tryz.prog aS (XT) dZ (fun i=>if i=5 then Fv.lp else aC i) Tryz.f31 [.xl ig l,.xl ig m,.v (.int .i64 t)]=.br ((aeR l t) !=0) (.ok (.xl ig l)) (.req (ay1 (⟨(Jg l t),m,(List.length m:Int),(0:Int)⟩:nI)) (.ok (.xl ig (OH (⟨(Jg l t),m,(List.length m:Int),(0:Int)⟩:nI)).out))):=by kernel_rfl
theorem auj:Valid Tryz.prog aS 31 YR:=aH Tryz.func31 rfl ajl aF (L:=(fun i=>if i=5 then Fv.lp else aC i)) (fun b hb=>by
 rw [show aB _=[BM] by kernel_rfl] at hb
 simp only [List.mem_cons,List.not_mem_nil,or_false] at hb
 subst hb
 exact am8) (fun args lv h=>by
 unfold adn at h
 split at h
 ·simp only [canL,canX]
  rw [ao1]
  rename_i l m t
  obtain ⟨⟨ho,hm⟩,rfl⟩:=h
  have ee:aeR l t=0:=by unfold aeR;rw [if_pos ho]
  rw [ee]
  have hE:adZ ⟨Jg l t,m,(List.length m:Int),0⟩:=⟨rfl,rfl,hm⟩
  obtain ⟨q1,q2⟩:=apE _ hE
  have q2:(OH ⟨Jg l t,m,(List.length m:Int),0⟩).out=Ug l m t:=q2.trans (by show List.foldl grS _ (List.drop (0:Int).toNat m)=_;rfl)
  refine ⟨fun c=>absurd c (by decide),fun _=>⟨⟨hE,rfl,rfl⟩,?_⟩⟩
  rw [q2]
  rfl
 ·cases h)
end Go.Proofs.YtlihnbimgclogaaGreatDoor
namespace Go.Proofs.YtlihnbimgclogaaGreatDoor
open Go.Sx
end Go.Proofs.YtlihnbimgclogaaGreatDoor
namespace Go.Proofs.YtlihnbimgclogaaGreatDoor
open Go.Sx
structure kM where
 l:List Le
 jv:List Ra
 d:List Dm
 tick:Int
 number:Int
 t12:Bool
 uQ:Bool
 t56:List Le
 t57:Int
 t58:Int
 ah:List Cd
 aA:List ByteArray
 ai:List Ko
 aj:List Ch
 aI:List Ba
def aDw (s:kM):List LV:=[.xl ig s.l,.xl CZ s.jv,.xl pR s.d,.v (.int .i64 s.tick),.v (.int .i64 s.number),.own 0 0,.v (.bool s.t12),.v (.bool s.uQ),.xl ig s.t56,.v (.int .i64 s.t57),.v (.int .i64 s.t58)]
def aCw (s:kM):List aU:=[⟨[.xl dU s.ah,.xl .str s.aA,.xl dV s.ai,.xl dP s.aj,.xl dW s.aI],28,.cl,false⟩]
noncomputable def AU:Code:=((aB (Tryz.f9.body.getD .skip))[0]?).getD .skip
def Zy (s:kM):T (Rd kM):=
 .br (decide (s.t58<s.t57)) (.req (0≤s.t58∧s.t58<(List.length s.t56:Int)) (.br ((decide ((fQ s.t56 s.t58).2.2.2.2>60)) ||((decide ((fQ s.t56 s.t58).2.2.2.1>s.tick)) ||((s.t58==(IntKind.i64.wrap ((List.length s.l:Int)-1)))&&(decide ((fQ s.t56 s.t58).1≥s.number))))) (.ok (.stop (.ret) {s with t12:=s.uQ})) (.ok (.next {s with t58:=(IntKind.i64.wrap (s.t58+1))})))) (.ok (.stop (.exit 0) s))
abbrev asI (s:kM):=(Zy s).rd s
def adN (s:kM):Prop:=s.t58=0∧(s.t57=(List.length s.t56:Int)∧s.t57≤1000)
def Nh (s:kM):Prop:=(0≤s.t58∧s.t58≤s.t57)∧(s.t57=(List.length s.t56:Int)∧s.t57≤1000)∧∀j:Int,0≤j→j<s.t58→(fQ s.t56 j).2.2.2.1≤s.tick∧(fQ s.t56 j).2.2.2.2≤60
def O5 (s:kM):Nat:=(s.t57-s.t58).toNat
def akR (x:Ex) (_ s':kM):Prop:=(x=.ret∧s'.t12=s'.uQ)∨(x=.exit 0∧∀j:Int,0≤j→j<(List.length s'.t56:Int)→(fQ s'.t56 j).2.2.2.1≤s'.tick∧(fQ s'.t56 j).2.2.2.2≤60)
theorem azV:∀s,adN s→Nh s:=by
 intro s h
 obtain ⟨h0,h1⟩:=h
 exact ⟨by have:=h1.1;omega,h1,fun j j0 j1=>by omega⟩
theorem auI (s:kM) (hI:Nh s):bJ (fun s'=>Nh s'∧O5 s'<O5 s) (fun x s'=>akR x s s') (asI s):=by
 unfold asI Zy
 dsimp only [T.rd,T.rl]
 obtain ⟨⟨h0,h1⟩,⟨h2,h3⟩,h4⟩:=hI
 refine au (fun c1=>au (fun c2=> .inl ⟨rfl,rfl⟩) (fun c2=>?_)) (fun c1=>?_)
 ·have c1:s.t58<s.t57:=by simpa using c1
  rw [Bool.or_eq_false_iff,Bool.or_eq_false_iff] at c2
  have q1:=of_decide_eq_false c2.1
  have q2:=of_decide_eq_false c2.2.1
  rw [aK (x:=s.t58+1) (by omega) (by omega)]
  refine ⟨⟨⟨by simp only;omega,by simp only;omega⟩,⟨h2,h3⟩,fun j j0 j1=>?_⟩,by simp only [O5];omega⟩
  simp only at j1⊢
  by_cases e:j=s.t58
  ·subst e
   exact ⟨by omega,by omega⟩
  ·exact h4 j j0 (by omega)
 ·have c1:s.t57≤s.t58:=by simpa using c1
  exact .inr ⟨rfl,fun j j0 j1=>h4 j j0 (by omega)⟩
def EJ:bM kM:=⟨0,145,[1,2,3,4,5,6,12,13,56,57,58],[],aDw,aCw,fun v b=>⟨aQ ig (v.getD 0 .junk),aQ CZ (v.getD 1 .junk),aQ pR (v.getD 2 .junk),gI (v.getD 3 .junk),gI (v.getD 4 .junk),vF (v.getD 6 .junk),vF (v.getD 7 .junk),aQ ig (v.getD 8 .junk),gI (v.getD 9 .junk),gI (v.getD 10 .junk),aQ dU (aY (aO b 0) 0),aQ .str (aY (aO b 0) 1),aQ dV (aY (aO b 0) 2),aQ dP (aY (aO b 0) 3),aQ dW (aY (aO b 0) 4)⟩,Zy,fun s r=> {r with l:=s.l,jv:=s.jv,d:=s.d,tick:=s.tick,number:=s.number,uQ:=s.uQ,t56:=s.t56,t57:=s.t57,ah:=s.ah,aA:=s.aA,ai:=s.ai,aj:=s.aj,aI:=s.aI},fun s=>s,fun _ s=>s,[.ret,.exit 0],adN,Nh,O5⟩
abbrev nY:=EJ.run
abbrev abX:=EJ.jJ
abbrev ayu:=EJ.q
theorem au8 (s:kM) (hI:Nh s):(Zy s).all (fun _=>True):=by
 refine ⟨fun c1=>⟨?_,fun _=>trivial,fun _=>trivial⟩,fun _=>trivial⟩
 ·(obtain ⟨⟨h0,h1⟩,⟨h2,h3⟩,h4⟩:=hI;simp only [decide_eq_true_eq] at c1;omega)
noncomputable def Qx:Specs:=aZ [(11,YQ),(12,YC),(14,JK),(16,CG),(22,YB),(23,YL),(31,YR)]
theorem XM:∀g S,Qx g=some S→Valid Tryz.prog aS g S:=aT (l:=[(11,YQ),(12,YC),(14,JK),(16,CG),(22,YB),(23,YL),(31,YR)]) ⟨aui,atX,afx,Zh,atW,aud,auj,trivial⟩
theorem ahq:EJ.Ok:=⟨fun s=>by kernel_rfl,fun s=>by kernel_rfl,fun s=>rfl,fun s t r=>rfl,fun s=>rfl,fun s=>by kernel_rfl⟩
theorem agm:EJ.Pf (akR):=⟨azV,fun _ _=>rfl,auI,au8⟩
theorem amv:bg Tryz.prog aS (AN 0) (.loop AU) EJ.lp:=bM.snd ahq agm (aP (Γ:=Qx) (K:=dZ) (L:=aC) XM aF AU (fun b hb=>by rw [show aB AU=[] by kernel_rfl] at hb;cases hb)) (fun s=>by kernel_rfl)
theorem ami (s:kM) (hE:adN s):∃s',Nh s'∧akR (abX s) s' (nY s):=bM.fin ahq agm s hE
structure nD where
 l:List Le
 jv:List Ra
 d:List Dm
 tick:Int
 number:Int
 t12:Bool
 uQ:Bool
 yh:List Int
 t87:Int
 ah:List Cd
 aA:List ByteArray
 ai:List Ko
 aj:List Ch
 aI:List Ba
def aDv (s:nD):List LV:=[.xl ig s.l,.xl CZ s.jv,.xl pR s.d,.v (.int .i64 s.tick),.v (.int .i64 s.number),.own 0 0,.v (.bool s.t12),.v (.bool s.uQ),.xl (.int .i64) s.yh,.v (.int .i64 s.t87)]
def aCv (s:nD):List aU:=[⟨[.xl dU s.ah,.xl .str s.aA,.xl dV s.ai,.xl dP s.aj,.xl dW s.aI],28,.cl,false⟩]
noncomputable def AQ:Code:=((aB (Tryz.f9.body.getD .skip))[1]?).getD .skip
def Zx (s:nD):T (Rd nD):=
 .br (decide (s.t87<201)) (.req (xY s.d (IntKind.i64.wrap (s.tick+s.t87))∧s.d.length≤19) (.br (((deE s.ah s.aA s.ai s.aj s.aI s.l s.jv s.d (IntKind.i64.wrap (s.tick+s.t87)) s.number) !=0) ||((List.length (deR s.ah s.aA s.ai s.aj s.aI s.l s.jv s.d (IntKind.i64.wrap (s.tick+s.t87)) s.number):Int) !=(List.length s.aj:Int))) (.ok (.stop (.ret) {s with t12:=false})) (.req (Jf s.l (IntKind.i64.wrap (s.tick+s.t87))=true∧(List.length (Rq s.ah s.aA s.ai s.aj s.aI s.l s.jv s.d (IntKind.i64.wrap (s.tick+s.t87)) s.number):Int)≤1000) (.ok (.next {s with l:=(Ug s.l (Rq s.ah s.aA s.ai s.aj s.aI s.l s.jv s.d (IntKind.i64.wrap (s.tick+s.t87)) s.number) (IntKind.i64.wrap (s.tick+s.t87))),jv:=(deR s.ah s.aA s.ai s.aj s.aI s.l s.jv s.d (IntKind.i64.wrap (s.tick+s.t87)) s.number),number:=(IntKind.i64.wrap (s.number+(List.length (Rq s.ah s.aA s.ai s.aj s.aI s.l s.jv s.d (IntKind.i64.wrap (s.tick+s.t87)) s.number):Int))),yh:=(deA s.ah s.aA s.ai s.aj s.aI s.l s.jv s.d (IntKind.i64.wrap (s.tick+s.t87)) s.number),t87:=(IntKind.i64.wrap (s.t87+1))}))))) (.ok (.stop (.exit 2) s))
abbrev asH (s:nD):=(Zx s).rd s
def adM (s:nD):Prop:=s.t87=0∧s.tick≤999700∧∃n,n≤900000∧Sti s.ah s.aA s.ai s.aj s.aI s.d s.tick n s.t87 s.l s.jv s.yh s.number
def Nc (s:nD):Prop:=(0≤s.t87∧s.t87≤201)∧s.tick≤999700∧∃n,n≤900000∧Sti s.ah s.aA s.ai s.aj s.aI s.d s.tick n s.t87 s.l s.jv s.yh s.number
def O4 (s:nD):Nat:=(201-s.t87).toNat
def akQ (x:Ex) (_ s':nD):Prop:=x=.exit 2∧s'.yh=zu s'.ah s'.aA s'.ai s'.aj s'.aI s'.d (s'.tick+200)
theorem azU:∀s,adM s→Nc s:=by
 intro s h
 obtain ⟨h0,h1⟩:=h
 exact ⟨by omega,h1⟩
theorem auH (s:nD) (hI:Nc s):bJ (fun s'=>Nc s'∧O4 s'<O4 s) (fun x s'=>akQ x s s') (asH s):=by
 unfold asH Zx
 dsimp only [T.rd,T.rl]
 obtain ⟨⟨h0,h1⟩,h2,n,hn,S⟩:=hI
 have tb:=S.vd.tb
 have nb:=S.vd.nb
 have nn:=S.nn
 have gl:=S.vd.gl
 refine au (fun c1=>?_) (fun c1=>?_)
 ·have c1:s.t87<201:=by simpa using c1
  have ew:IntKind.i64.wrap (s.tick+s.t87)=s.tick+s.t87:=aK (by omega) (by omega)
  rw [ew]
  obtain ⟨ea,er,el,ee⟩:=X4 (afk S.vd)
  have hl:(Rq s.ah s.aA s.ai s.aj s.aI s.l s.jv s.d (s.tick+s.t87) s.number).length≤s.aj.length:=by rw [el];exact uI
  refine au (fun c2=>?_) (fun c2=>?_)
  ·exfalso
   rw [ee,er,Aq] at c2
   simp at c2
  ·rw [aK (x:=s.t87+1) (by omega) (by omega),aK (x:=s.number+_) (by omega) (by omega)]
   exact ⟨⟨⟨by simp only;omega,by simp only;omega⟩,h2,n,hn,afC S h0 (by omega) h2 hn⟩,by simp only [O4];omega⟩
 ·have c1:201≤s.t87:=by simpa using c1
  have e:s.t87=201:=by omega
  rw [e] at S
  exact ⟨rfl,ame S⟩
def EI:bM nD:=⟨0,145,[1,2,3,4,5,6,12,13,16,87],[.pb 16 (.int .i64)],aDv,aCv,fun v b=>⟨aQ ig (v.getD 0 .junk),aQ CZ (v.getD 1 .junk),aQ pR (v.getD 2 .junk),gI (v.getD 3 .junk),gI (v.getD 4 .junk),vF (v.getD 6 .junk),vF (v.getD 7 .junk),aQ (.int .i64) (v.getD 8 .junk),gI (v.getD 9 .junk),aQ dU (aY (aO b 0) 0),aQ .str (aY (aO b 0) 1),aQ dV (aY (aO b 0) 2),aQ dP (aY (aO b 0) 3),aQ dW (aY (aO b 0) 4)⟩,Zx,fun s r=> {r with d:=s.d,tick:=s.tick,uQ:=s.uQ,ah:=s.ah,aA:=s.aA,ai:=s.ai,aj:=s.aj,aI:=s.aI},fun s=>s,fun _ s=>s,[.ret,.exit 2],adM,Nc,O4⟩
abbrev zD:=EI.run
abbrev abW:=EI.jJ
abbrev ayt:=EI.q
theorem au7 (s:nD) (hI:Nc s):(Zx s).all (fun _=>True):=by
 refine ⟨fun c1=>⟨?_,fun _=>trivial,fun c2=>⟨?_,trivial⟩⟩,fun _=>trivial⟩
 all_goals ((obtain ⟨⟨h0,h1⟩,h2,n,hn,S⟩:=hI;simp only [decide_eq_true_eq] at c1;have tb:=S.vd.tb;have gl:=S.vd.gl;have ew:IntKind.i64.wrap (s.tick+s.t87)=s.tick+s.t87:=aK (by omega) (by omega);rw [ew];have hl:(Rq s.ah s.aA s.ai s.aj s.aI s.l s.jv s.d (s.tick+s.t87) s.number).length≤s.aj.length:=(by rw [(X4 (afk S.vd)).2.2.1];exact uI);first|exact aqZ S.vd|(refine ⟨?_,by omega⟩;unfold Jf;rw [S.vd.les,dB.2 (by omega)];rfl)))
theorem ahp:EI.Ok:=⟨fun s=>by kernel_rfl,fun s=>by kernel_rfl,fun s=>rfl,fun s t r=>rfl,fun s=>rfl,fun s=>by kernel_rfl⟩
theorem agl:EI.Pf (akQ):=⟨azU,fun _ _=>rfl,auH,au7⟩
theorem amu:bg Tryz.prog aS (AN 0) (.loop AQ) EI.lp:=bM.snd ahp agl (aP (Γ:=Qx) (K:=dZ) (L:=aC) XM aF AQ (fun b hb=>by rw [show aB AQ=[] by kernel_rfl] at hb;cases hb)) (fun s=>by kernel_rfl)
theorem amh (s:nD) (hE:adM s):∃s',Nc s'∧akQ (abW s) s' (zD s):=bM.fin ahp agl s hE
def ate:List LV→T LV
 | [.agg [.xl (.pair .str (.pair (.int .i64) (.pair (.int .i64) (.pair (.int .i64) (.pair (.pair (.int .i64) (.int .i64)) (.pair (.int .i64) (.pair (.int .i64) (.pair (.int .i64) (.pair (.int .i64) (.int .i64)))))))))) cs,.xl (.str) os,.xl (.pair .str (.pair (.int .i64) (.pair (.int .i64) (.int .i64)))) ks,.xl (.pair .str (.pair (.int .i64) (.pair (.int .i64) (.pair (.int .i64) (.pair (.int .i64) (.pair (.int .i64) (.pair (.int .i64) (.int .i64)))))))) gs,.xl (.pair .str (.int .i64)) bs],.xl (.pair (.int .i64) (.pair (.int .i64) (.pair (.int .i64) (.pair (.int .i64) (.int .i64))))) _,.xl (.pair (.int .i64) (.int .i64)) _,.xl (.pair .bool (.pair (.int .i64) (.pair (.int .i64) (.int .i64)))) _,.v (.int .i64 _),.v (.int .i64 _)]=> .req (nmR (gB cs os ks gs bs)) (.ok (.v (.bool true)))
 |_=> .no
noncomputable def aCf:List LV→T LV:=gQ Tryz.prog Tryz.f9.params.toList ate
theorem aAT (cs:List Cd) (os:List ByteArray) (ks:List Ko) (gs:List Ch) (bs:List Ba) (l:List Le) (rs:List Ra) (d:List Dm) (t n:Int):bV Tryz.prog aS (Qx) dZ (fun i=>if i=5 then EJ.lp else if i=12 then EI.lp else aC i) Tryz.f9 [.agg [.xl dU cs,.xl .str os,.xl dV ks,.xl dP gs,.xl dW bs],.xl ig l,.xl CZ rs,.xl pR d,.v (.int .i64 t),.v (.int .i64 n)]=.br (!(apO cs os ks gs bs l rs d)) (.ok (.v (.bool true))) (.req (nmR (gB cs os ks gs bs)∧(List.length l:Int)≤1000) (.br ((!(FT cs os ks gs bs l rs d t n)) ||((decide ((List.length gs:Int)>4)) ||((decide (t>999700)) ||(decide (n>900000))))) (.ok (.v (.bool true))) (.req (ayu (⟨l,rs,d,t,n,false,true,l,(List.length l:Int),(0:Int),cs,os,ks,gs,bs⟩:kM)) (.br (iG (abX (⟨l,rs,d,t,n,false,true,l,(List.length l:Int),(0:Int),cs,os,ks,gs,bs⟩:kM)) (.ret)) (.ok (.v (.bool (nY (⟨l,rs,d,t,n,false,true,l,(List.length l:Int),(0:Int),cs,os,ks,gs,bs⟩:kM)).t12))) (.req (ayt (⟨l,rs,d,t,n,(nY (⟨l,rs,d,t,n,false,true,l,(List.length l:Int),(0:Int),cs,os,ks,gs,bs⟩:kM)).t12,true,([]:List Int),(0:Int),cs,os,ks,gs,bs⟩:nD)) (.br (iG (abW (⟨l,rs,d,t,n,(nY (⟨l,rs,d,t,n,false,true,l,(List.length l:Int),(0:Int),cs,os,ks,gs,bs⟩:kM)).t12,true,([]:List Int),(0:Int),cs,os,ks,gs,bs⟩:nD)) (.ret)) (.ok (.v (.bool (zD (⟨l,rs,d,t,n,(nY (⟨l,rs,d,t,n,false,true,l,(List.length l:Int),(0:Int),cs,os,ks,gs,bs⟩:kM)).t12,true,([]:List Int),(0:Int),cs,os,ks,gs,bs⟩:nD)).t12))) (.req (Si cs os ks gs bs d∧xY d (IntKind.i64.wrap (t+200))∧d.length≤19) (.br true (.br ((0:Int)==0) (.req ((List.length (zD (⟨l,rs,d,t,n,(nY (⟨l,rs,d,t,n,false,true,l,(List.length l:Int),(0:Int),cs,os,ks,gs,bs⟩:kM)).t12,true,([]:List Int),(0:Int),cs,os,ks,gs,bs⟩:nD)).yh:Int)≤1000) (.ok (.v (.bool ((zD (⟨l,rs,d,t,n,(nY (⟨l,rs,d,t,n,false,true,l,(List.length l:Int),(0:Int),cs,os,ks,gs,bs⟩:kM)).t12,true,([]:List Int),(0:Int),cs,os,ks,gs,bs⟩:nD)).yh==(zu cs os ks gs bs d (IntKind.i64.wrap (t+200)))))))) (.ok (.v (.bool false)))) (.ok (.v (.bool false))))))))))):=by kernel_rfl
theorem aEy:Valid Tryz.prog aS 9 aCf:=aH Tryz.func9 rfl XM aF (L:=(fun i=>if i=5 then EJ.lp else if i=12 then EI.lp else aC i)) (fun b hb=>by
 rw [show aB _=[AU,AQ] by kernel_rfl] at hb
 simp only [List.mem_cons,List.not_mem_nil,or_false] at hb
 rcases hb with rfl|rfl
 ·exact amv
 ·exact amu) (fun args lv h=>by
 unfold ate at h
 split at h
 ·simp only [canL,canX]
  rw [aAT]
  rename_i cs os ks gs bs l rs d t n
  obtain ⟨hn,rfl⟩:=h
  refine ⟨fun c=>rfl,fun c=>⟨⟨hn,asA c⟩,fun c2=>rfl,fun c2=>?_⟩⟩
  rw [Bool.or_eq_false_iff,Bool.or_eq_false_iff,Bool.or_eq_false_iff] at c2
  have V:=aq0 (OY c2.1)
  have ht:=of_decide_eq_false c2.2.2.1
  have hnn:=of_decide_eq_false c2.2.2.2
  have hlen:=asA c
  have tb:=V.tb
  have gl:=V.gl
  have hE:adN ⟨l,rs,d,t,n,false,true,l,(List.length l:Int),(0:Int),cs,os,ks,gs,bs⟩:=⟨rfl,rfl,by show (List.length l:Int)≤1000;omega⟩
  obtain ⟨_,_,q⟩:=ami _ hE
  refine ⟨⟨hE,rfl,rfl⟩,?_⟩
  rcases q with ⟨q1,q2⟩ |⟨q1,q2⟩
  ·have q2:(nY ⟨l,rs,d,t,n,false,true,l,(List.length l:Int),(0:Int),cs,os,ks,gs,bs⟩).t12=true:=q2
   rw [q1]
   exact ⟨fun _=>congrArg (fun z=>LV.v (.bool z)) q2,fun h=>by cases h⟩
  ·have q2:∀j:Int,0≤j→j<(List.length l:Int)→(fQ l j).2.2.2.1≤t∧(fQ l j).2.2.2.2≤60:=q2
   rw [q1]
   refine ⟨fun h=>(by cases h),fun _=>?_⟩
   have hf:∀x∈l,x.2.2.2.1≤t∧x.2.2.2.2≤60:=fun x hx=>by
    obtain ⟨k,hk,rfl⟩:=List.mem_iff_getElem.1 hx
    have:=q2 k (by omega) (by omega)
    rw [uF (by omega)] at this
    simpa using this
   have hE2:adM ⟨l,rs,d,t,n,(nY ⟨l,rs,d,t,n,false,true,l,(List.length l:Int),(0:Int),cs,os,ks,gs,bs⟩).t12,true,([]:List Int),(0:Int),cs,os,ks,gs,bs⟩:=⟨rfl,by show t≤999700;omega,n,by omega,azR V hf⟩
   obtain ⟨_,_,q3,q4⟩:=amh _ hE2
   have q4:(zD ⟨l,rs,d,t,n,(nY ⟨l,rs,d,t,n,false,true,l,(List.length l:Int),(0:Int),cs,os,ks,gs,bs⟩).t12,true,([]:List Int),(0:Int),cs,os,ks,gs,bs⟩).yh=zu cs os ks gs bs d (t+200):=q4
   have et:IntKind.i64.wrap (t+200)=t+200:=aK (by omega) (by omega)
   have hs:=V.si
   have hw:=aqZ V
   have tl:=(zq (t:=t+200) hs).1
   rw [q3,q4,et]
   refine ⟨⟨hE2,rfl,rfl⟩,fun h=>(by cases h),fun _=>⟨⟨hs,⟨hw.1.1,by omega,by omega⟩,hw.2⟩,⟨fun _=>⟨fun _=>⟨by rw [tl];omega,?_⟩,fun h=>absurd h (by decide)⟩,fun h=>by cases h⟩⟩⟩
   exact congrArg (fun z=>LV.v (.bool z)) (by simp)
 ·cases h)
end Go.Proofs.YtlihnbimgclogaaGreatDoor
namespace Go.Sx
open Go Go.RowKit Go.Proofs.YtlihnbimgclogaaGreatDoor
def mb:Ty→Nat
 | .int k=>k.bits / 8
 | .bool=>1
 | .str=>16
 | .sl _=>24
 | .pair a b=>mb a+mb b
def V7:(t:Ty)→t.D→Prop
 | .int k,n=>(Lit.int k n).wf=true
 | .bool,_=>True
 | .str,s=>s.size≤maxLen
 | .sl e,l=>(List.length l≤maxLen∧List.length l*mb e≤reachBytes)∧∀d,d∈l→V7 e d
 | .pair a b,d=>V7 a d.1∧V7 b d.2
def Dq (P:Program):Nat→List Field→Bool
 |_,[]=>true
 |o,f::fs=>decide (f.offset=o)&&Dq P (o+P.cellsOf f.type) fs
def G8 (P:Program):Nat→TypeId→Bool
 |0,_=>false
 |m+1,t=>match P.underlying t with
  |some (.int _) |some .bool|some .string=>decide (P.cellsOf t=1)
  |some (.struct fs)=>Dq P 0 fs.toList&&decide (P.cellsOf t=((fs.toList.map (·.type)).map P.cellsOf).sum)&&fs.toList.all (fun f=>G8 P m f.type)
  |some (.array n e)=>decide (P.cellsOf t=((List.replicate n e).map P.cellsOf).sum)&&G8 P m e
  |some (.slice e)=>decide (P.cellsOf t=1)&&decide (1≤P.cellsOf e)&&(xZ P m e).any (fun ty=>ty.n==P.cellsOf e&&decide (mb ty≤P.bytesOf e))&&G8 P m e
  |_=>false
variable {H : Type} {enc : TypeId × Value → H} {P : Program} {w : World} {base : Nat} {spare : Nat → Bool} {held : Bool} {β : Nat → Loc}
def Good (enc:TypeId×Value→H) (P:Program) (w:World) (base:Nat) (spare:Nat→Bool) (held:Bool) (t:TypeId) (cs:List Value):Prop:=∃n x,DataW.trod enc P w base spare held n t cs=some x∧∀k,k∈x.1.weights P t→k≤reachBytes
theorem GL {e:TypeId}{d:DataW H}{k:Nat}(hk:k∈d.weights P e):∀ {l:List (DataW H)}{i:Nat},l[i]? =some d→k∈DataW.weightsAll P e l
 | [],_,h=>by cases h
 |x::l,0,h=>by
  simp only [List.getElem?_cons_zero,Option.some.injEq] at h
  subst h
  simp only [DataW.weightsAll,List.mem_append]
  exact .inl hk
 |x::l,i+1,h=>by
  simp only [List.getElem?_cons_succ] at h
  simp only [DataW.weightsAll,List.mem_append]
  exact .inr (GL hk h)
theorem KR {t:TypeId}{d:DataW H}{k:Nat}(hk:k∈d.weights P t):∀ {ts:List TypeId}{l:List (DataW H)}{i:Nat},ts[i]? =some t→l[i]? =some d→k∈DataW.weightsEach P ts l
 | [],_,_,h,_=>by cases h
 |_::_,[],_,_,h=>by cases h
 |u::ts,x::l,0,h1,h2=>by
  simp only [List.getElem?_cons_zero,Option.some.injEq] at h1 h2
  subst h1
  subst h2
  simp only [DataW.weightsEach,List.mem_append]
  exact .inl hk
 |u::ts,x::l,i+1,h1,h2=>by
  simp only [List.getElem?_cons_succ] at h1 h2
  simp only [DataW.weightsEach,List.mem_append]
  exact .inr (KR hk h1 h2)
theorem KT:∀ {ts us:List TypeId}{ds gs:List (DataW H)},ds.length=ts.length→∀k,k∈DataW.weightsEach P ts ds→k∈DataW.weightsEach P (ts++us) (ds++gs)
 | [],_,[],_,_,_,h=>by simp [DataW.weightsEach] at h
 | [],_,_::_,_,h,_,_=>by cases h
 |_::_,_,[],_,h,_,_=>by cases h
 |t::ts,us,d::ds,gs,h,k,hk=>by
  simp only [DataW.weightsEach,List.mem_append,List.cons_append] at hk⊢
  rcases hk with hk|hk
  ·exact .inl hk
  ·exact .inr (KT (by simpa using h) k hk)
theorem DZ:∀ {ts:List TypeId}{vs:List Value}{ds:List (DataW H)}{ps:List MemPlace},DataW.TrodAll enc P w base spare held ts vs ds ps→ds.length=ts.length
 | [],[],[],_,_=>rfl
 | [],_::_,_,_,h=>by cases h
 | [],[],_::_,_,h=>by cases h
 |_::_,[],_,_,h=>by cases h
 |_::_,_::_,[],_,h=>by cases h
 |_::_,_::_,_::_,_,h=>by
  obtain ⟨_,_,_,h2,_⟩:=h
  simp [DZ h2]
theorem RL.append' {Z:Nat→Prop}:∀ {l1 l2:List LV}{y1 y2:List Value},RL β Z w l1 y1→RL β Z w l2 y2→RL β Z w (l1++l2) (y1++y2)
 | [],l2,y1,y2,h1,h2=>by simp only [RL] at h1;subst h1;exact h2
 |x::xs,l2,y1,y2,h1,h2=>by
  simp only [RL,List.cons_append] at h1⊢
  obtain ⟨y,zs,rfl,h3,h4⟩:=h1
  exact ⟨y,zs++y2,rfl,h3,RL.append' h4 h2⟩
theorem X3 {Z:Nat→Prop}:∀(t:Ty) (d:t.D) (cs:List Value) (b o:Nat),RL β Z w (fD t d) cs→(∀(j:Nat) v,cs[j]? =some v→w.cell? ⟨b,o+j,none⟩=some v)→RD Z w t d b o
 | .int k,d,cs,b,o,h,hc=>by
  simp only [fD,RL,R] at h
  obtain ⟨y,zs,rfl,rfl,_⟩:=h
  simp only [RD];exact hc 0 _ rfl
 | .bool,d,cs,b,o,h,hc=>by
  simp only [fD,RL,R] at h
  obtain ⟨y,zs,rfl,rfl,_⟩:=h
  simp only [RD];exact hc 0 _ rfl
 | .str,d,cs,b,o,h,hc=>by
  simp only [fD,RL,R] at h
  obtain ⟨y,zs,rfl,rfl,_⟩:=h
  simp only [RD];exact hc 0 _ rfl
 | .sl e,d,cs,b,o,h,hc=>by
  simp only [fD,RL,R] at h
  obtain ⟨y,zs,rfl,⟨a,cap,rfl,h2,h3⟩,_⟩:=h
  simp only [RD];exact ⟨a,cap,hc 0 _ rfl,h2,h3⟩
 | .pair p q,d,cs,b,o,h,hc=>by
  simp only [fD] at h
  have hl:=RL.length h
  simp only [List.length_append,bY] at hl
  have h1:=h.take_drop 0 p.n
  have h2:RL β Z w ((fD p d.1++fD q d.2).drop p.n) (cs.drop p.n):=by
   refine RL.cO (by simp [hl,bY]) fun i z hz=>?_
   rw [List.getElem?_drop] at hz⊢
   exact RL.get _ _ h hz
  have t1:((fD p d.1++fD q d.2).drop 0).take p.n=fD p d.1:=by
   rw [List.drop_zero,List.take_append_of_le_length (by rw [bY];exact Nat.le_refl _),List.take_of_length_le (by rw [bY];exact Nat.le_refl _)]
  have t2:(fD p d.1++fD q d.2).drop p.n=fD q d.2:=by
   rw [List.drop_append_of_le_length (by rw [bY];exact Nat.le_refl _),List.drop_eq_nil_of_le (by rw [bY];exact Nat.le_refl _),List.nil_append]
  rw [t1,List.drop_zero] at h1
  rw [t2] at h2
  simp only [RD]
  refine ⟨X3 p d.1 _ b o h1 (fun j v hv=>?_),X3 q d.2 _ b (o+p.n) h2 (fun j v hv=>?_)⟩
  ·rw [List.getElem?_take] at hv
   split at hv
   ·exact hc j v hv
   ·cases hv
  ·rw [List.getElem?_drop] at hv
   have:=hc (p.n+j) v hv
   rwa [←Nat.add_assoc] at this
theorem HY {Z:Nat→Prop}{r:TypeId→Option Ty}{sz:TypeId→Nat}{Gd:TypeId→List Value→Prop}:∀(ts:List TypeId) (ty:Ty) (cs:List Value),Wl r ts=some ty→
  (∀t∈ts,∀ty c,r t=some ty→Gd t c→∃d:ty.D,RL β Z w (fD ty d) c∧V7 ty d)→cs.length=(ts.map sz).sum→(∀pre t post,ts=pre++t::post→Gd t ((cs.drop (pre.map sz).sum).take (sz t)))→∃d:ty.D,RL β Z w (fD ty d) cs∧V7 ty d
 | [],ty,cs,h,_,_,_=>by simp [Wl] at h
 | [t],ty,cs,h,ih,hl,hg=>by
  simp only [Wl] at h
  have:=ih t (by simp) ty _ h (hg [] t [] rfl)
  have e:(cs.drop (List.map sz []).sum).take (sz t)=cs:=by
   simp at hl⊢
   exact List.take_of_length_le (by omega)
  rw [e] at this
  exact this
 | t::u::ts,ty,cs,h,ih,hl,hg=>by
  simp only [Wl] at h
  split at h
  ·rename_i a b ha hb
   simp only [Option.some.injEq] at h
   subst h
   obtain ⟨d1,a1,a2⟩:=ih t (by simp) a _ ha (hg [] t (u::ts) rfl)
   obtain ⟨d2,b1,b2⟩:=HY (sz:=sz) (Gd:=Gd) (u::ts) b (cs.drop (sz t)) hb (fun t' ht=>ih t' (by simp at ht⊢;exact .inr ht)) (by simp at hl⊢;omega) (fun pre t' post e=>by
    have:=hg (t::pre) t' post (by rw [e];rfl)
    rw [List.drop_drop]
    simpa using this)
   refine ⟨(d1,d2),?_,by simp only [V7];exact ⟨a2,b2⟩⟩
   have:=RL.append' a1 b1
   simp only [fD]
   simpa using this
  ·cases h
theorem OU:∀(fs:List Field) (o:Nat),Dq P o fs=true→∀pre f post,fs=pre++f::post→f.offset=o+((pre.map (·.type)).map P.cellsOf).sum
 | [],o,_,pre,f,post,e=>by cases pre<;>cases e
 |g::fs,o,h,[],f,post,e=>by
  simp only [Dq,Bool.and_eq_true,decide_eq_true_eq] at h
  simp only [List.nil_append,List.cons.injEq] at e
  rw [←e.1];simpa using h.1
 |g::fs,o,h,p::pre,f,post,e=>by
  simp only [Dq,Bool.and_eq_true,decide_eq_true_eq] at h
  simp only [List.cons_append,List.cons.injEq] at e
  have:=OU fs _ h.2 pre f post e.2
  rw [this,←e.1];simp;omega
theorem Gg {Z:Nat→Prop}(hZ:∀b,b<w.heap.size→Z b):∀(m:Nat) (t:TypeId) (ty:Ty),G8 P m t=true→xZ P m t=some ty→∀cs,Good enc P w base spare held t cs→∃d:ty.D,RL β Z w (fD ty d) cs∧V7 ty d
 |0,t,_,h,_,_,_=>by cases h
 | m + 1,t,ty,h,hty,cs,⟨n,x,hx,hwt⟩=>by
  simp only [G8] at h
  simp only [xZ] at hty
  split at h
  ·rename_i k hu
   obtain ⟨z,rfl,_,hw⟩:=DataW.trod_int hu hx
   simp only [hu,Option.some.injEq] at hty
   subst hty
   exact ⟨z,by simp [fD,RL,R],hw⟩
  ·rename_i hu
   obtain ⟨z,rfl,_⟩:=DataW.trod_bool hu hx
   simp only [hu,Option.some.injEq] at hty
   subst hty
   exact ⟨z,by simp [fD,RL,R],trivial⟩
  ·rename_i hu
   obtain ⟨z,rfl,_,hs⟩:=DataW.trod_string hu hx
   simp only [hu,Option.some.injEq] at hty
   subst hty
   exact ⟨z,by simp [fD,RL,R],hs⟩
  ·rename_i fs hu
   simp only [Bool.and_eq_true,decide_eq_true_eq,List.all_eq_true] at h
   obtain ⟨⟨h1,h2⟩,h3⟩:=h
   obtain ⟨xs,n',_,rfl,hl,hxl,hf⟩:=DataW.trod_struct hu hx
   simp only [DataW.weights,hu] at hwt
   simp only [hu] at hty
   refine HY (Gd:=Good enc P w base spare held) (sz:=P.cellsOf) (fs.toList.map (·.type)) ty cs hty (fun t' ht ty' c hty' hc=>?_) (by rw [hl,h2]) (fun pre t' post e=>?_)
   ·obtain ⟨f,hf1,rfl⟩:=List.mem_map.1 ht
    exact Gg hZ m f.type ty' (h3 f hf1) hty' c hc
   ·obtain ⟨fpre,frest,e1,e2,e3⟩:=List.map_eq_append_iff.1 e
    obtain ⟨f,fpost,rfl,e4,e5⟩:=List.map_eq_cons_iff.1 e3
    have ho:=OU fs.toList 0 h1 fpre f fpost e1
    have hi:fs[fpre.length]? =some f:=by
     have:fs.toList[fpre.length]? =some f:=by rw [e1];simp
     simpa using this
    have hg:=hf _ f hi
    have hlt:fpre.length<fs.size:=(Array.getElem?_eq_some_iff.1 hi).1
    rw [ho,Nat.zero_add] at hg
    refine ⟨n',xs[fpre.length]'(by omega),?_,fun k hk=>?_⟩
    ·rw [←e2,←e4,hg,List.getElem?_eq_getElem]
    ·rw [←e4] at hk
     exact hwt k (KR hk (i:=fpre.length) (by rw [e1];simp) (by rw [List.getElem?_map,List.getElem?_eq_getElem (by omega)];rfl))
  ·rename_i n0 e hu
   simp only [Bool.and_eq_true,decide_eq_true_eq] at h
   obtain ⟨h2,h3⟩:=h
   obtain ⟨xs,n',_,rfl,hl,hxl,hf⟩:=DataW.trod_array hu hx
   simp only [DataW.weights,hu] at hwt
   simp only [hu] at hty
   refine HY (Gd:=Good enc P w base spare held) (sz:=P.cellsOf) (List.replicate n0 e) ty cs hty (fun t' ht ty' c hty' hc=>?_) (by rw [hl,h2]) (fun pre t' post e'=>?_)
   ·rw [(List.mem_replicate.1 ht).2] at hc hty'
    exact Gg hZ m e ty' h3 hty' c hc
   ·obtain ⟨c1,c2,c3⟩:=List.replicate_eq_append_iff.1 e'
    have ht':t'=e:=by
     have:t'∈List.replicate n0 e:=by rw [e'];simp
     exact (List.mem_replicate.1 this).2
    have hlen:pre.length<n0:=by
     have:=congrArg List.length e'
     simp at this;omega
    have hg:=hf pre.length hlen
    refine ⟨n',xs[pre.length]'(by omega),?_,fun k hk=>?_⟩
    ·have hs:(pre.map P.cellsOf).sum=pre.length*P.cellsOf e:=by rw [c2];simp
     rw [hs,ht',hg,List.getElem?_eq_getElem]
    ·rw [ht'] at hk
     exact hwt k (GL hk (i:=pre.length) (by rw [List.getElem?_map,List.getElem?_eq_getElem (by omega)];rfl))
  ·rename_i e hu
   simp only [Bool.and_eq_true,decide_eq_true_eq] at h
   obtain ⟨⟨⟨h1,h2⟩,h4⟩,h3⟩:=h
   simp only [hu,Option.map_eq_some_iff] at hty
   obtain ⟨te,hte,rfl⟩:=hty
   rw [hte] at h4
   simp only [Option.any_some,Bool.and_eq_true,decide_eq_true_eq,beq_iff_eq] at h4
   obtain ⟨h4,h5⟩:=h4
   rcases DataW.trod_slice hu hx with ⟨rfl,_⟩ |⟨a,len,cap,elems,rest,n',_,rfl,rfl,hb,hlc,hm,hlen,hel,_,_⟩
   ·refine ⟨([]:List te.D),?_,⟨Nat.zero_le _,by simp⟩,fun d hd=>by cases hd⟩
    simp only [fD,RL,R]
    exact ⟨_,[],rfl,⟨none,0,rfl,Nat.le_refl _,fun h=>absurd h (Nat.lt_irrefl 0)⟩,rfl⟩
   ·simp only [DataW.weights,hu] at hwt
    have hroom:=hwt _ (List.mem_cons_self ..)
    have each:∀i,∃d:te.D,i<len→∃c,w.cells? base (a.add (i*P.cellsOf e)) (P.cellsOf e)=some c∧RL β Z w (fD te d) c∧V7 te d:=fun i=>by
     by_cases hi:i<len
     ·have he:=hel i hi
      rw [List.getElem?_eq_getElem (by omega)] at he
      obtain ⟨c,hc,ht⟩:=Option.bind_eq_some_iff.1 he
      obtain ⟨d,l1,l2⟩:=Gg hZ m e te h3 hte c ⟨n',_,ht,fun k hk=>hwt k (by
       simp only [List.mem_cons,List.mem_append]
       exact .inr (.inl (GL hk (i:=i) (by rw [List.getElem?_map,List.getElem?_eq_getElem (by omega)];rfl))))⟩
      exact ⟨d,fun _=>⟨c,hc,l1,l2⟩⟩
     ·exact ⟨te.dflt,fun h=>absurd h hi⟩
    have ⟨g,hg⟩:=Classical.axiomOfChoice each
    have hlg:List.length ((List.range len).map g)=len:=by simp
    refine ⟨(List.range len).map g,?_,⟨by rw [hlg];omega,by rw [hlg];exact Nat.le_trans (Nat.mul_le_mul (by simp;omega) h5) hroom⟩,fun d hd=>?_⟩
    ·simp only [fD,RL,R]
     refine ⟨_,[],rfl,⟨some a,cap,by rw [hlg],by rw [hlg];omega,fun hn=>?_⟩,rfl⟩
     rw [hlg] at hn
     obtain ⟨c0,hc0,hr0,_⟩:=hg 0 hn
     obtain ⟨_,hcl0,hat0⟩:=World.cells?_some hc0
     have hcell0:∃z,w.cell? ((a.add (0*P.cellsOf e)).add 0)=some z:=by
      rw [hat0 0 (by omega)];exact ⟨_,List.getElem?_eq_getElem (by omega)⟩
     obtain ⟨z0,hz0⟩:=hcell0
     obtain ⟨b,off,spot⟩:=a
     have hsp:spot=none:=by
      cases spot with
      |none=>rfl
      |some q=>
       unfold World.cell? at hz0
       split at hz0
       ·simp [Addr.add] at hz0
       ·cases hz0
     subst hsp
     have hbl:b<w.heap.size:=by
      simp only [addr_add] at hz0
      unfold World.cell? at hz0
      split at hz0
      ·rename_i hh;exact (Array.getElem?_eq_some_iff.1 hh).1
      ·cases hz0
     refine ⟨b,off,rfl,hZ b hbl,fun i d hd=>?_⟩
     have hi:i<len:=by
      have:=(List.getElem?_eq_some_iff.1 hd).1
      rwa [hlg] at this
     have hdd:d=g i:=by
      rw [List.getElem?_map,List.getElem?_range hi] at hd
      simpa using hd.symm
     subst hdd
     obtain ⟨c,hc,hr,_⟩:=hg i hi
     obtain ⟨_,hcl,hat⟩:=World.cells?_some hc
     refine X3 te (g i) c b _ hr (fun j v hv=>?_)
     have hj:j<P.cellsOf e:=by
      have:=(List.getElem?_eq_some_iff.1 hv).1
      omega
     have:=hat j hj
     rw [hv] at this
     rw [h4]
     simpa [addr_add,Nat.add_assoc] using this
    ·obtain ⟨i,hi,rfl⟩:=List.mem_map.1 hd
     obtain ⟨_,_,_,hw⟩:=hg i (by simpa using hi)
     exact hw
  ·cases h
def Rk (P:Program) (m:Nat) (t:TypeId) (l:List LV):Prop:=∃(ty:Ty) (d:ty.D),xZ P m t=some ty∧l=fD ty d∧V7 ty d
theorem Dc {P:Program}{m:Nat}{t:TypeId}{l:List LV}{ty:Ty}(ht:xZ P m t=some ty) (h:Rk P m t l):∃d:ty.D,l=fD ty d∧V7 ty d:=by
 obtain ⟨ty',d,h1,h2,h3⟩:=h
 obtain rfl:=Option.some.inj (ht.symm.trans h1)
 exact ⟨d,h2,h3⟩
theorem ahg {Z:Nat→Prop}(hZ:∀b,b<w.heap.size→Z b) (m:Nat) (t:TypeId) (hs:G8 P m t=true) (ht:(xZ P m t).isSome=true) (cs:List Value) (hg:Good enc P w base spare held t cs):∃l,RL β Z w l cs∧dn 0 l∧Rk P m t l:=by
 obtain ⟨ty,hty⟩:=Option.isSome_iff_exists.1 ht
 obtain ⟨d,h1,h2⟩:=Gg (β:=β) hZ m t ty hs hty cs hg
 exact ⟨fD ty d,h1,oq 0 ty d,ty,d,hty,rfl,h2⟩
end Go.Sx
namespace Go.Sx
open Go Go.RowKit Go.Proofs.YtlihnbimgclogaaGreatDoor Go.ChangeShapes Go.WideShapes
variable {H : Type} {enc : TypeId × Value → H} {P : Program} {β : Nat → Loc} {Z : Nat → Prop}
theorem yj (hl:laidOutB P=true) {W W':World}(hb:Below W.heap.size W W'):∀(ts:List TypeId) (vs:List Value) (ds:List (DataW H)) (ps:List MemPlace),ts.all (fun t=>P.readableRec t&&decide (t<P.types.size))=true→
  DataW.TrodAll enc P W 0 (fun _=>true) true ts vs ds ps→(∀x∈ps,x.block<W.heap.size)→DataW.TrodAll enc P W' 0 (fun b=>decide (b<W.heap.size)) true ts vs ds ps
 | [],vs,ds,ps,_,h,_=>by
  cases vs<;>cases ds<;>first|exact h|exact h.elim
 | t::ts,vs,ds,ps,hr,h,hlt=>by
  cases vs with
  |nil=>cases ds<;>exact h.elim
  | cons v vs=>
   cases ds with
   |nil=>exact h.elim
   |cons d ds=>
    obtain ⟨p,q,h1,h2,rfl⟩:=h
    simp only [List.all_cons,Bool.and_eq_true,decide_eq_true_eq] at hr
    refine ⟨p,q,Below.trod hl hr.1.1 hr.1.2 h1 hb (fun x hx=>hlt x (by simp [hx])),?_,rfl⟩
    exact yj hl hb ts vs ds q (by simpa using hr.2) h2 (fun x hx=>hlt x (by simp [hx]))
theorem aiM {fn:Func}{s:ChangeSpec}{tb:TypeId}{apart:Bool}{W W':World}{args:Array Value}{ds gs:List (DataW H)}{before:List MemPlace}
  (hl:laidOutB P=true) (hr:fn.params.toList.all (fun t=>P.readableRec t&&decide (t<P.types.size))=true) (hres:fn.resultTypes=#[tb]) (hb:P.underlying tb=some .bool) (hvars:s.vars=[])
  (hfn:(s.fn H ds).results=[.lit (.bool true)]∧(s.fn H ds).args=ds∧(s.fn H ds).vars=[])
  (hW:DataW.Whole enc P fn.params.toList s.vars apart W args.toList ds gs before) (hB:Below W.heap.size W W'):s.post enc P fn apart true false false W args (.bool true) W':=by
 have hW':=hW
 obtain ⟨p,q,hA,hV,rfl,hfz,hnd⟩:=hW
 have hg:gs=[]∧q=[]:=by
  rw [hvars] at hV
  cases gs with
  |nil=>exact ⟨rfl,hV⟩
  |cons g r=>exact hV.elim
 obtain ⟨rfl,rfl⟩:=hg
 have hlt:∀x∈p,x.block<W.heap.size:=fun x hx=>hW'.lt x (by simp [hx])
 refine ⟨ds,[],p++[],[],p,[],hW',?_,?_,?_,hB.frame _,fun h=>by cases h⟩
 ·rw [List.append_nil,hfn.1,hres]
  exact trodAll_mk1 (shut_bool hb true)
 ·rw [List.append_nil,hfn.2.1]
  exact yj hl hB _ _ _ _ hr hA hlt
 ·rw [List.append_nil,hfn.2.2,hvars]
  rfl
def pLV (P:Program) (t:TypeId) (l:List LV):LV:=
 match P.underlying t with
 |some (.struct _)=>ru l
 |some (.array _ _)=> .junk
 |_=>match l with
  | [x]=>x
  |_=> .junk
theorem cell_of {w:World}{b0:Nat}{r:Reach}{m:Nat}{t:TypeId}(hs:G8 P m t=true) {v:Value}(hv:Value.okWide P w r b0 t v) (h1:∀fs,P.underlying t=some (.struct fs)→False) (h2:∀n e,P.underlying t=some (.array n e)→False):v.cells.toList=[v]:=by
 cases m with
 |zero=>cases hs
 | succ m=>
  simp only [G8] at hs
  split at hs
  ·rename_i k hu
   obtain ⟨n,rfl⟩:=okWide_int hu hv
   rfl
  ·rename_i hu
   obtain ⟨n,rfl⟩:=okWide_bool hu hv
   rfl
  ·rename_i hu
   obtain ⟨n,rfl⟩:=okWide_string hu hv
   rfl
  ·rename_i fs hu
   exact (h1 fs hu).elim
  ·rename_i n e hu
   exact (h2 n e hu).elim
  ·rename_i e hu
   obtain ⟨a,l,c,rfl⟩:=okWide_slice hu hv
   rfl
  ·cases hs
theorem WX {w:World}{base b0:Nat}{spare:Nat→Bool}{held:Bool}{r:Reach}(hZ:∀b,b<w.heap.size→Z b) {m:Nat}{t:TypeId}(hs:G8 P m t=true) (ht:(xZ P m t).isSome=true) {v:Value}{d:DataW H}{p:List MemPlace}(hv:Value.okWide P w r b0 t v) (h:DataW.Trod enc P w base spare held t v d p) (hwt:∀k,k∈d.weights P t→k≤reachBytes):
  ∃l,okV 0 (pLV P t l)∧R β Z w (pLV P t l) v∧Rk P m t l:=by
 obtain ⟨fuel,hf⟩:=h
 obtain ⟨l,h1,h2,h3⟩:=ahg (β:=β) hZ m t hs ht v.cells.toList ⟨fuel,_,hf,hwt⟩
 refine ⟨l,?_,?_,h3⟩
 ·unfold pLV
  split
  ·exact oJ h2
  ·trivial
  ·split
   ·exact h2.1
   ·trivial
 ·unfold pLV
  split
  ·rename_i fs hu
   obtain ⟨cs,rfl,_⟩:=okWide_struct hu hv
   exact qZ h1
  ·simp only [R]
  ·split
   ·rename_i x
    simp only [RL] at h1
    obtain ⟨y,zs,e1,e2,rfl⟩:=h1
    have hc:=cell_of hs hv (by assumption) (by assumption)
    have:v=y:=by rw [hc] at e1;simpa using e1
    rw [this];exact e2
   ·simp only [R]
def WU (P:Program):List TypeId→List (List LV)→List LV
 |t::ts,l::ls=>pLV P t l::WU P ts ls
 |_,_=>[]
def He (P:Program) (m:Nat):List TypeId→List (List LV)→Prop
 | [],ls=>ls=[]
 |t::ts,ls=>∃l r,ls=l::r∧Rk P m t l∧He P m ts r
theorem D8 {w:World}{base b0:Nat}{spare:Nat→Bool}{held:Bool}{r:Reach}(hZ:∀b,b<w.heap.size→Z b) {m:Nat}:∀(ts:List TypeId) (vs:List Value) (ds:List (DataW H)) (ps:List MemPlace),ts.all (fun t=>G8 P m t&&(xZ P m t).isSome)=true→
  (∀(j:Nat) t v,ts[j]? =some t→vs[j]? =some v→Value.okWide P w r b0 t v)→DataW.TrodAll enc P w base spare held ts vs ds ps→(∀k,k∈DataW.weightsEach P ts ds→k≤reachBytes)→∃ls,dn 0 (WU P ts ls)∧RL β Z w (WU P ts ls) vs∧He P m ts ls
 | [],vs,ds,ps,_,_,h,_=>by
  cases vs with
  |nil=>exact ⟨[],trivial,by simp [WU,RL],rfl⟩
  |cons _ _=>cases ds<;>exact h.elim
 | t::ts,vs,ds,ps,hs,hv,h,hwt=>by
  cases vs with
  |nil=>cases ds<;>exact h.elim
  | cons v vs=>
   cases ds with
   |nil=>exact h.elim
   |cons d ds=>
    obtain ⟨p,q,h1,h2,rfl⟩:=h
    simp only [List.all_cons,Bool.and_eq_true] at hs
    simp only [DataW.weightsEach,List.mem_append] at hwt
    obtain ⟨l,a1,a2,a3⟩:=WX (β:=β) hZ hs.1.1 hs.1.2 (hv 0 t v rfl rfl) h1 (fun k hk=>hwt k (.inl hk))
    obtain ⟨ls,b1,b2,b3⟩:=D8 hZ ts vs ds q hs.2 (fun j t' v' e1 e2=>hv (j+1) t' v' (by simpa using e1) (by simpa using e2)) h2 (fun k hk=>hwt k (.inr hk))
    exact ⟨l::ls,⟨a1,b1⟩,⟨v,vs,rfl,a2,b2⟩,l,ls,rfl,a3,b3⟩
theorem Qu {G:bW}{f:FuncId}{fn:Func}{S:List LV→T LV}{s:ChangeSpec}{tb:TypeId}{apart:Bool}{m:Nat}{W:World}{base:Nat}{args:Array Value}{ds gs:List (DataW H)}{before:List MemPlace}
  (hv:Valid P G f S) (hl:laidOutB P=true) (hr:fn.params.toList.all (fun t=>P.readableRec t&&decide (t<P.types.size))=true) (hres:fn.resultTypes=#[tb]) (hb:P.underlying tb=some .bool) (hvars:s.vars=[])
  (hfn:(s.fn H ds).results=[.lit (.bool true)]∧(s.fn H ds).args=ds∧(s.fn H ds).vars=[]) (hs:fn.params.toList.all (fun t=>G8 P m t&&(xZ P m t).isSome)=true)
  (hS:∀ls,He P m fn.params.toList ls→(S (WU P fn.params.toList ls)).all (fun x=>x=.v (.bool true)))
  (hg:VF G (fun b=>b<W.heap.size) W)
  (hval:∀(j:Nat) t v,fn.params[j]? =some t→args[j]? =some v→Value.okWide P W .any base t v)
  (hW:DataW.Whole enc P fn.params.toList s.vars apart W args.toList ds gs before) {us:List TypeId} (hz:(DataW.weightsEach P (fn.params.toList++us) (ds++gs)).all (·≤reachBytes)=true):
  Calls P f args W fun e W'=>∃v,e=.returned v∧s.post enc P fn apart true false false W args v W':=by
 have hA:∃p,DataW.TrodAll enc P W 0 (fun _=>true) true fn.params.toList args.toList ds p:=by
  obtain ⟨p,q,hA,_⟩:=hW
  exact ⟨p,hA⟩
 obtain ⟨p,hA⟩:=hA
 obtain ⟨ls,h1,h2,h3⟩:=D8 (β:=β0) (Z:=fun b=>b<W.heap.size) (fun _ h=>h) fn.params.toList args.toList ds p hs (fun j t v e1 e2=>hval j t v (by simpa using e1) (by simpa using e2)) hA (fun k hk=>of_decide_eq_true (List.all_eq_true.1 hz k (KT (DZ hA) k hk)))
 refine (hv _ args W _ _ (fun _ h=>h) hg h1 h2 (hS ls h3)).mono fun e W' ⟨hB,v,he,_,hR⟩=>⟨v,he,?_⟩
 simp only [R] at hR
 rw [hR]
 exact aiM hl hr hres hb hvars hfn hW hB
end Go.Sx
namespace Go.Sx
open Go Go.RowKit Go.Proofs.YtlihnbimgclogaaGreatDoor
variable {H : Type} {enc : TypeId × Value → H} {P : Program} {w : World} {base : Nat} {spare : Nat → Bool} {held : Bool}
def Et {H:Type}:Nat→DataW H→List Value
 |0,_=>[]
 |_+1,.lit (.int k n)=>[.int k n]
 |_+1,.lit (.bool b)=>[.bool b]
 |m+1,.agg l=>l.flatMap (Et m)
 |_,_=>[]
def Ht (P:Program):Nat→TypeId→Bool
 |0,_=>false
 |m+1,t=>match P.underlying t with
  |some (.int _) |some .bool=>true
  |some (.struct fs)=>Dq P 0 fs.toList&&decide (P.cellsOf t=((fs.toList.map (·.type)).map P.cellsOf).sum)&&fs.toList.all (fun f=>Ht P m f.type)
  |some (.array n e)=>decide (P.cellsOf t=((List.replicate n e).map P.cellsOf).sum)&&Ht P m e
  |_=>false
theorem Jc {sz:TypeId→Nat}{g:DataW H→List Value}{Tr:TypeId→List Value→DataW H→Prop}:∀(ts:List TypeId) (cs:List Value) (ds:List (DataW H)),
  (∀t∈ts,∀c d,Tr t c d→g d=c)→ds.length=ts.length→cs.length=(ts.map sz).sum→(∀pre t post,ts=pre++t::post→∃d,ds[pre.length]? =some d∧Tr t ((cs.drop (pre.map sz).sum).take (sz t)) d)→ds.flatMap g=cs
 | [],cs,ds,_,h0,hl,_=>by
  have:cs=[]:=by simpa using hl
  have h2:ds=[]:=by simpa using h0
  rw [this,h2];rfl
 |t::ts,cs,[],_,h0,_,_=>by simp at h0
 | t::ts,cs,d::ds,ih,h0,hl,hg=>by
  obtain ⟨d',e1,e2⟩:=hg [] t ts rfl
  simp at e1
  subst e1
  have r:=Jc (sz:=sz) (g:=g) (Tr:=Tr) ts (cs.drop (sz t)) ds (fun t' ht=>ih t' (by simp [ht])) (by simpa using h0) (by simp at hl⊢;omega) (fun pre t' post e=>by
   obtain ⟨q,q1,q2⟩:=hg (t::pre) t' post (by rw [e];rfl)
   refine ⟨q,by simpa using q1,?_⟩
   rw [List.drop_drop]
   simpa using q2)
  rw [List.flatMap_cons,r,ih t (by simp) _ _ e2]
  simp
theorem QA:∀(m:Nat) (t:TypeId),Ht P m t=true→∀(n:Nat) (cs:List Value) (x:DataW H×List MemPlace),DataW.trod enc P w base spare held n t cs=some x→Et m x.1=cs
 |0,t,h,_,_,_,_=>by cases h
 | m +1,t,h,n,cs,x,hx=>by
  simp only [Ht] at h
  split at h
  ·rename_i k hu
   obtain ⟨z,rfl,rfl,hw⟩:=DataW.trod_int hu hx
   rfl
  ·rename_i hu
   obtain ⟨z,rfl,rfl⟩:=DataW.trod_bool hu hx
   rfl
  ·rename_i fs hu
   simp only [Bool.and_eq_true,decide_eq_true_eq,List.all_eq_true] at h
   obtain ⟨⟨h1,h2⟩,h3⟩:=h
   obtain ⟨xs,n',_,rfl,hl,hxl,hf⟩:=DataW.trod_struct hu hx
   simp only [Et]
   refine Jc (sz:=P.cellsOf) (Tr:=fun t c d=>∃y,DataW.trod enc P w base spare held n' t c=some y∧y.1=d) (fs.toList.map (·.type)) cs _ (fun t' ht c d hc=>?_) (by simp [hxl]) (by rw [hl,h2]) (fun pre t' post e=>?_)
   ·obtain ⟨f,hf1,rfl⟩:=List.mem_map.1 ht
    obtain ⟨y,hy,rfl⟩:=hc
    exact QA m f.type (h3 f hf1) n' c y hy
   ·obtain ⟨fpre,frest,e1,e2,e3⟩:=List.map_eq_append_iff.1 e
    obtain ⟨f,fpost,rfl,e4,e5⟩:=List.map_eq_cons_iff.1 e3
    have ho:=OU fs.toList 0 h1 fpre f fpost e1
    have hi:fs[fpre.length]? =some f:=by
     have:fs.toList[fpre.length]? =some f:=by rw [e1];simp
     simpa using this
    have hg:=hf _ f hi
    have hlt:fpre.length<fs.size:=(Array.getElem?_eq_some_iff.1 hi).1
    rw [ho,Nat.zero_add] at hg
    refine ⟨(xs[fpre.length]'(by omega)).1,?_,xs[fpre.length]'(by omega),?_,rfl⟩
    ·rw [←e2,List.length_map,List.getElem?_map,List.getElem?_eq_getElem (by omega)];rfl
    ·rw [←e2,←e4,hg,List.getElem?_eq_getElem]
  ·rename_i n0 e hu
   simp only [Bool.and_eq_true,decide_eq_true_eq] at h
   obtain ⟨h2,h3⟩:=h
   obtain ⟨xs,n',_,rfl,hl,hxl,hf⟩:=DataW.trod_array hu hx
   simp only [Et]
   refine Jc (sz:=P.cellsOf) (Tr:=fun t c d=>∃y,DataW.trod enc P w base spare held n' t c=some y∧y.1=d) (List.replicate n0 e) cs _ (fun t' ht c d hc=>?_) (by simp [hxl]) (by rw [hl,h2]) (fun pre t' post e'=>?_)
   ·rw [(List.mem_replicate.1 ht).2] at hc
    obtain ⟨y,hy,rfl⟩:=hc
    exact QA m e h3 n' c y hy
   ·obtain ⟨c1,c2,c3⟩:=List.replicate_eq_append_iff.1 e'
    have ht':t'=e:=by
     have:t'∈List.replicate n0 e:=by rw [e'];simp
     exact (List.mem_replicate.1 this).2
    have hlen:pre.length<n0:=by
     have:=congrArg List.length e'
     simp at this;omega
    have hg:=hf pre.length hlen
    have hs:(pre.map P.cellsOf).sum=pre.length*P.cellsOf e:=by rw [c2];simp
    refine ⟨(xs[pre.length]'(by omega)).1,?_,xs[pre.length]'(by omega),?_,rfl⟩
    ·rw [List.getElem?_map,List.getElem?_eq_getElem (by omega)];rfl
    ·rw [hs,ht',hg,List.getElem?_eq_getElem]
  ·cases h
theorem KL {W:World}{name:String}{d:DataW Unit}{rest:List (String×DataW Unit)}{g:Nat}{t:TypeId}{m:Nat}(hg:P.globalNamed name=some g) (hty:(P.globals[g]?).map (·.type)=some t) (hp:Ht P m t=true)
  (h:laidMet P ((name,d)::rest) W):(∀i,W.cell? ⟨g,i,none⟩=(Et m d)[i]?)∧((Et m d)≠ []→g<W.heap.size):=by
 obtain ⟨ps,⟨g',t',cs,fuel,p,q,hg',ht',hvar,hd,_,_⟩,_⟩:=h
 obtain rfl:=Option.some.inj (hg.symm.trans hg')
 obtain rfl:=Option.some.inj (hty.symm.trans ht')
 have hf:=QA m t hp fuel _ _ hd
 simp only at hf
 have hcell:∀i,W.cell? ⟨g,i,none⟩=(Et m d)[i]? :=fun i=>by
  rw [World.var?_cell hg hvar i,hf];simp
 refine ⟨hcell,fun hne=>?_⟩
 have h0:=hcell 0
 cases hh:(Et m d)[0]? with
 |none=>exact absurd (List.getElem?_eq_none_iff.1 hh) (by have:=List.length_pos_iff.2 hne;omega)
 |some z=>
  rw [hh] at h0
  unfold World.cell? at h0
  split at h0
  ·rename_i hb;exact (Array.getElem?_eq_some_iff.1 hb).1
  ·cases h0
end Go.Sx
namespace Go.Proofs.YtlihnbimgclogaaGreatDoor
open Go.Sx Go.ChangeShapes Go.WideShapes Go.ChangeAt Go.RowKit
theorem own:ownKnob Tryz.prog.godebug=none:=by kernel_rfl
theorem laidOut:laidOutB Tryz.prog=true:=by kernel_rfl
theorem aES:Tryz.prog.globalNamed "chargepark/ramp.happens"=some 0:=by kernel_rfl
theorem aBJ:(Tryz.prog.globals[0]?).map (·.type)=some 130:=by kernel_rfl
theorem ajp {W:World}(h:laidMetH Tryz.prog [("chargepark/ramp.happens",Rows.laid_chargepark_ramp_happens)] W):VF aS (fun b=>b<W.heap.size) W:=by
 obtain ⟨h1,h2⟩:=KL (m:=4) aES aBJ (by kernel_rfl) (show laidMet Tryz.prog [("chargepark/ramp.happens",Rows.laid_chargepark_ramp_happens)] W from h)
 intro g n f hg
 unfold aS at hg
 split at hg
 ·simp only [Option.some.injEq,Prod.mk.injEq] at hg
  obtain ⟨rfl,rfl⟩:=hg
  refine ⟨h2 (by decide),fun j hj=>?_⟩
  rw [h1 j]
  match j,hj with
  |0,_=>rfl
  |1,_=>rfl
  |2,_=>rfl
  |3,_=>rfl
  |4,_=>rfl
  |5,_=>rfl
  |6,_=>rfl
  |7,_=>rfl
 ·cases hg
theorem MH {H:Type}{enc:TypeId×Value→H}{P:Program}{w:World}{base:Nat}{spare:Nat→Bool}{held:Bool}:∀ {ts:List TypeId}{vs:List Value}{ds:List (DataW H)}{ps:List MemPlace},DataW.TrodAll enc P w base spare held ts vs ds ps→ds.length=ts.length
 | [],[],[],_,_=>rfl
 | [],_::_,_,_,h=>by cases h
 | [],[],_::_,_,h=>by cases h
 |_::_,[],_,_,h=>by cases h
 |_::_,_::_,[],_,h=>by cases h
 |_::_,_::_,_::_,_,h=>by
  obtain ⟨_,_,_,h2,_⟩:=h
  simp [MH h2]
noncomputable def laidWorld (os:Os):World:=
 { World.holding Tryz.prog os ⟨#[],#[],[]⟩ with heap:=(World.holding Tryz.prog os ⟨#[],#[],[]⟩).heap.modify 0 fun
   | .cells _ t frozen=> .cells #[.int .i64 1,.int .i64 1,.int .i64 1,.int .i64 0,.int .i64 2,.int .i64 2,.int .i64 3,.int .i64 3] t frozen
   |o=>o}
theorem alU {cs:List Cd}{os:List ByteArray}{ks:List Ko}{gs:List Ch}{bs:List Ba}(h1:V7 (.sl dU) cs) (h2:V7 (.sl .str) os) (h3:V7 (.sl dV) ks) (h4:V7 (.sl dP) gs) (h5:V7 (.sl dW) bs):nmR (gB cs os ks gs bs):=by
 intro w hw
 have key:∀n:Nat,n≤maxLen→(n:Int)≤9223372036854775807:=fun n h=>by
  unfold maxLen at h
  omega
 refine key _ ?_
 unfold gB at hw
 simp only [List.mem_append,List.mem_map] at hw
 rcases hw with (((⟨x,hx,rfl⟩ |hx) |⟨x,hx,rfl⟩) |⟨x,hx,rfl⟩) |⟨x,hx,rfl⟩
 ·exact (h1.2 x hx).1
 ·exact h2.2 w hx
 ·exact (h3.2 x hx).1
 ·exact (h4.2 x hx).1
 ·exact (h5.2 x hx).1
end Go.Proofs.YtlihnbimgclogaaGreatDoor
namespace Go.Proofs.YtlihnbimgclogaaGreatDoor
open Go.Sx Go.ChangeShapes Go.WideShapes Go.ChangeAt Go.RowKit
namespace ControlSettles
set_option maxRecDepth 100000 in
theorem opened (ls:List (List LV)) (h:He Tryz.prog 8 Tryz.f9.params.toList ls):(aCf (WU Tryz.prog Tryz.f9.params.toList ls)).all (fun x=>x=.v (.bool true)):=by
 rw [Tryz.params9] at h⊢
 simp only [He] at h
 obtain ⟨l0,_,rfl,h0,l1,_,rfl,h1,l2,_,rfl,h2,l3,_,rfl,h3,l4,_,rfl,h4,l5,_,rfl,h5,rfl⟩:=h
 obtain ⟨d0,rfl,w0⟩:=Dc (ty:=(.pair (.sl dU) (.pair (.sl .str) (.pair (.sl dV) (.pair (.sl dP) (.sl dW)))))) (by kernel_rfl) h0
 obtain ⟨d1,rfl,w1⟩:=Dc (ty:=(.sl ig)) (by kernel_rfl) h1
 obtain ⟨d2,rfl,w2⟩:=Dc (ty:=(.sl CZ)) (by kernel_rfl) h2
 obtain ⟨d3,rfl,w3⟩:=Dc (ty:=(.sl pR)) (by kernel_rfl) h3
 obtain ⟨d4,rfl,w4⟩:=Dc (ty:=(.int .i64)) (by kernel_rfl) h4
 obtain ⟨d5,rfl,w5⟩:=Dc (ty:=(.int .i64)) (by kernel_rfl) h5
 simp only [WU,pLV,Tryz.underlying31,Tryz.underlying29,Tryz.underlying30,Tryz.underlying28,Tryz.underlying3]
 refine ae0 (t':=T.req (nmR (gB d0.1 d0.2.1 d0.2.2.1 d0.2.2.2.1 d0.2.2.2.2)) (T.ok (LV.v (Value.bool true)))) (by kernel_rfl) ?_
 exact ⟨(alU w0.1 w0.2.1 w0.2.2.1 w0.2.2.2.1 w0.2.2.2.2),rfl⟩
set_option maxRecDepth 100000 in
theorem contract (H:Type) (enc:TypeId×Value→H) (W:World) (base:Nat) (args:Array Value) (ds gs:List (DataW H)) (before:List MemPlace)
  (hval:∀(j:Nat) t v,Tryz.f9.params[j]? =some t→args[j]? =some v→Value.okWide Tryz.prog W .any base t v)
  (hW:DataW.Whole enc Tryz.prog Tryz.f9.params.toList Rows.controlSettlesSpec.vars false W args.toList ds gs before) (hL:laidMetH Tryz.prog Rows.controlSettlesRow.laid W) {us:List TypeId} (hz:(DataW.weightsEach Tryz.prog (Tryz.f9.params.toList++us) (ds++gs)).all (·≤reachBytes)=true):
  Calls Tryz.prog 9 args W fun e W'=>∃v,e=.returned v∧Rows.controlSettlesSpec.post enc Tryz.prog Tryz.f9 false true false false W args v W':=by
 refine Qu (m:=8) (tb:=4) aEy laidOut (by kernel_rfl) (by kernel_rfl) Tryz.underlying4 rfl ?_ (by kernel_rfl) opened (ajp hL) hval hW hz
 obtain ⟨p,q,hA,_⟩:=hW
 have hl:=MH hA
 rw [Tryz.params9] at hl
 match ds,hl with
 | [_,_,_,_,_,_],_=>exact ⟨rfl,rfl,rfl⟩
theorem laid_met (os:Os):laidMet Tryz.prog Rows.controlSettlesRow.laid ((laidWorld os).forCall (fun _ _=>0) ⟨#[],#[.agg #[.slice none 0 0,.slice none 0 0,.slice none 0 0,.slice none 0 0,.slice none 0 0],.slice none 0 0,.slice none 0 0,.slice none 0 0,.int .i64 0,.int .i64 0],[]⟩).memory:=
 laidMet_of_run' 8 (by kernel_rfl) (by kernel_rfl)
theorem reads (os:Os) {H:Type}(enc:TypeId×Value→H):∃places,DataW.whole enc Tryz.prog ((laidWorld os).forCall (fun _ _=>0) ⟨#[],#[.agg #[.slice none 0 0,.slice none 0 0,.slice none 0 0,.slice none 0 0,.slice none 0 0],.slice none 0 0,.slice none 0 0,.slice none 0 0,.int .i64 0,.int .i64 0],[]⟩).memory Tryz.f9.params.toList Rows.controlSettlesSpec.vars false #[.agg #[.slice none 0 0,.slice none 0 0,.slice none 0 0,.slice none 0 0,.slice none 0 0],.slice none 0 0,.slice none 0 0,.slice none 0 0,.int .i64 0,.int .i64 0].toList 8=some ([.agg [.nil,.nil,.nil,.nil,.nil],.nil,.nil,.nil,.lit (.int .i64 0),.lit (.int .i64 0)],[],places):=
 ⟨[],by kernel_rfl⟩
set_option maxRecDepth 100000 in
theorem lifted (os:Os) (started:os.Started) (H:Type) (enc:TypeId×Value→H) (F:Stop.Interp):
  ReturnsInHanded {} Tryz.checked os 9 .any ((OpenSpec.ofChange Rows.controlSettlesSpec).preRow enc Tryz.prog Tryz.f9 Rows.controlSettlesRow.domain false Rows.controlSettlesRow.laid) (((OpenSpec.ofChange Rows.controlSettlesSpec).at F).post enc Tryz.prog Tryz.f9 false true false false):=by
 obtain ⟨places,hx⟩:=reads os enc
 refine returnsInHanded_of_row (C:=Tryz.checked) (s:=OpenSpec.ofChange Rows.controlSettlesSpec) own started (by kernel_rfl) Tryz.func9
  (witness_row_at (enc:=enc) (C:=Tryz.checked) false (laidWorld os) #[.agg #[.slice none 0 0,.slice none 0 0,.slice none 0 0,.slice none 0 0,.slice none 0 0],.slice none 0 0,.slice none 0 0,.slice none 0 0,.int .i64 0,.int .i64 0] rfl (by kernel_rfl) (by kernel_rfl) (by kernel_rfl)
   (OpenSpec.preRow_of_cond 8 hx (by kernel_rfl) (fun k hk=>by cases hk) (by kernel_rfl) (laid_met os))) ?_
 intro W base args ds gs before hval hW _ _ hz hL _ _
 exact contract H enc W base args ds gs before hval hW hL hz
theorem said:Rows.ControlSettlesSaid:=
 OpenClaim.holds_of_cond 9 Tryz.f9 rfl rfl rfl rfl rfl rfl rfl ⟨rfl,rfl,rfl,rfl,rfl⟩ rfl rfl rfl rfl rfl (by kernel_rfl) Tryz.func9 (by kernel_rfl)
  (of_decide_eq_true (by kernel_rfl)) (by unfold Func.isWrapper;first|(rw [if_pos (by decide+kernel)];kernel_rfl) |(rw [if_neg (by decide+kernel)];exact ⟨rfl,rfl⟩))
  (fun os started H enc _ F=>by rw [OpenClaim.pre_eq_preRow];exact lifted os started H enc F)
theorem plain (f:FuncId) (fn:Func) (hf:Tryz.pinned.checked.prog.funcNamed "chargepark/chargeparklaw25.ControlSettles"=some f) (hfn:Tryz.pinned.checked.prog.funcs[f]? =some fn):
  false=Tryz.pinned.checked.prog.looks []∧∀(j:Nat) t,fn.params[j]? =some t→Tryz.pinned.checked.prog.wantsStandIn t=false:=by
 obtain rfl:f=9:=Option.some.inj ((show Tryz.prog.funcNamed "chargepark/chargeparklaw25.ControlSettles"=some 9 by kernel_rfl).symm.trans hf) |>.symm
 obtain rfl:fn=Tryz.f9:=(Option.some.inj (Tryz.func9.symm.trans hfn)).symm
 refine ⟨by kernel_rfl,fun j t ht=>?_⟩
 have h:Tryz.f9.params.toList.all (fun t=>!Tryz.prog.wantsStandIn t)=true:=by kernel_rfl
 have:=List.all_eq_true.1 h t (by simpa using Array.mem_of_getElem? ht)
 show Tryz.prog.wantsStandIn t=false
 simpa using this
theorem card:Rows.ControlSettlesCardSaid:=
 Claim7.holds_tied_plain_at .later [] _ _ _ _ said (fun _ h=>by cases h) (by kernel_rfl) (fun _ h=>by cases h) controlSettles_row_tie rfl ⟨rfl,rfl⟩ (by kernel_rfl) rfl plain (by kernel_rfl)
end ControlSettles
theorem controlSettles_card:Rows.ControlSettlesCardSaid:=ControlSettles.card
end Go.Proofs.YtlihnbimgclogaaGreatDoor
