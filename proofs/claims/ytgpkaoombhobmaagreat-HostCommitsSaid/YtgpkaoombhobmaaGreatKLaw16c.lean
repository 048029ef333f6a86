import Derived.Test.YtgpkaoombhobmaaGreatKLaw16b
set_option linter.unusedVariables false
set_option linter.unusedSimpArgs false
namespace Go.Proofs.YtgpkaoombhobmaaGreat
open Go.Cx Tab
set_option maxHeartbeats 8000000
set_option maxRecDepth 40000
@[simp] theorem all_MsgR (l:List MsgR):(l.flatMap MsgR.enc).all neat=true:=Zap MsgR.neat l
@[simp high] theorem len_MsgR (l:List MsgR):(l.flatMap MsgR.enc).length=l.length*14:=Zac (enc:=MsgR.enc) (k:=14) (λ_=>rfl) l
@[simp high] theorem take_MsgR (l:List MsgR):(l.flatMap MsgR.enc).take (l.length*14)=l.flatMap MsgR.enc:=Zar (enc:=MsgR.enc) (k:=14) (λ_=>rfl) l
@[simp high] theorem at_MsgR {l:List MsgR} {i:Nat} (h:i<l.length):List.take 14 (List.drop (i*14) (l.flatMap MsgR.enc))=(l[i]).enc:=Zaq (enc:=MsgR.enc) (k:=14) (λ_=>rfl) l i l[i] (by simp[h])
@[simp high] theorem one_MsgR (l:List MsgR):(l.flatMap MsgR.enc).all Zy=true:=Zas MsgR.one l
end Go.Proofs.YtgpkaoombhobmaaGreat
