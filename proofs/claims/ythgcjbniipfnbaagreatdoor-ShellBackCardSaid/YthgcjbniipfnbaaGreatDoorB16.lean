/- fsys.caught, deferred where nobody panics, does nothing. -/
import Derived.Test.YthgcjbniipfnbaaGreatDoorB6g
import Derived.Test.YthgcjbniipfnbaaGreatDoorL1
import Derived.RecoverIn
import Derived.WalkKit
namespace Go.Proofs.YthgcjbniipfnbaaGreatDoor
namespace Abs
set_option linter.unusedVariables false
set_option linter.unusedSimpArgs false
section
variable {F:Fence} {n:Nat} {P:Program} {Q:Exit→Act→List Frame→World→Prop} {a:Act} {cs:List Frame} {w:World}
theorem opS_val {ops:Array Oper} {i:Nat} {rest:List Nat} {o:Oper} {v:Value} {w':World} (ho:ops[i]? = some o) (hw:Region.wanted o (yielded ops a.tmps)=true) (hab:∀ f,o.about P w a.eval=some f→F.fn f) (hx:(execOp a.eval o).run P w=.ok (.value v) w') (h:wpOpsSIn F n P ops Q rest (a.put o.dst v) cs w'):wpOpsSIn F n P ops Q (i::rest) a cs w:=by
 simp only [wpOpsSIn,ho,hw,if_true,hx]
 exact ⟨hab,h⟩
theorem opS_rec {ops:Array Oper} {i:Nat} {rest:List Nat} {o:Oper} {w':World} (ho:ops[i]? = some o) (hw:Region.wanted o (yielded ops a.tmps)=true) (hab:∀ f,o.about P w a.eval=some f→F.fn f) (hx:(execOp a.eval o).run P w=.ok .recover w') (hr:recoverD cs=none) (h:wpOpsSIn F n P ops Q rest (a.put o.dst .nilIface) cs w'):wpOpsSIn F n P ops Q (i::rest) a cs w:=by
 simp only [wpOpsSIn,ho,hw,if_true,hx,hr]
 exact ⟨hab,h⟩
theorem eval_put {a:Act} {t:Nat} {v:Value} (h:t<a.tmps.size):(a.put (some t) v).eval (.tmp t)=v:=by
 simp [Act.put,Act.eval,h]
theorem size_put {a:Act} {t:Option Nat} {v:Value}:(a.put t v).tmps.size=a.tmps.size:=by
 cases t <;> simp [Act.put]
end
theorem neq_run (w:World):(binOp .neq 20 .nilIface .nilIface).run Tryz.prog w=.ok (.bool false) w:=by kernel_rfl
theorem neq_nil {dst:Option Nat} {t:TypeId} {pos:String} {after:Array Edge} {guard:Option (Nat × Bool)} (ev:Operand→Value) (w:World) (h1:ev (.tmp 6)=.nilIface) (h2:ev (.const .nilIface)=.nilIface):(execOp ev ⟨dst,.binOp .neq 20 (.tmp 6) (.const .nilIface) 20,t,pos,after,guard⟩).run Tryz.prog w=.ok (.value (.bool false)) w:=by
 simp only [execOp,h1,h2]
 kernel_rfl
theorem caught_idle (args:Array Value) (w:World) (n:Nat):CallsDIn Fence.wide n Tryz.prog 205 args .returning w fun e u' w'=>u'=.returning∧(∃ v,e=.returned v)∧w'=w:=by
 refine callsDIn_of_wpSIn Tryz.func205 rfl trivial (fun c0 cs hc=>?_)
 have hsz:20≤(args++Array.replicate (Tryz.f205.ntmps-args.size) undef).size:=by
  have:Tryz.f205.ntmps=20:=rfl
  simp [this];omega
 generalize args++Array.replicate (Tryz.f205.ntmps-args.size) undef=T at hsz
 have hr:recoverD (c0::cs)=none:=by simp [recoverD,hc]
 refine wpSIn_seq (wpSIn_region ?_)
 show wpOpsSIn _ _ _ _ _ [0,1] _ _ _
 refine opS_rec rfl rfl (fun _ _=>trivial) rfl hr ?_
 refine opS_val (v:=.nilIface) (w':=w) rfl rfl (fun _ _=>trivial) (congrArg (fun v=>Result.ok (Next.value v) w) (eval_put (a:=⟨T,[]⟩) (t:=5) (by show 5<T.size;omega))) ?_
 refine wpSIn_seq (wpSIn_region ?_)
 show wpOpsSIn _ _ _ _ _ [0,1] _ _ _
 refine opS_val (v:=.nilIface) (w':=w) rfl rfl (fun _ _=>trivial) (congrArg (fun v=>Result.ok (Next.value v) w) (eval_put (t:=2) (by simp only [size_put];show 2<T.size;omega))) ?_
 refine opS_val (v:=.bool false) (w':=w) rfl rfl (fun _ _=>trivial) ?_ ?_
 ·refine neq_nil _ _ (eval_put (t:=6) (by simp only [size_put];show 6<T.size;omega)) rfl
 refine wpSIn_cond (t:=false) (eval_put (t:=7) (by simp only [size_put];show 7<T.size;omega)) ?_
 show Code.wpSIn _ _ _ Code.skip _ _ _ _
 refine wpSIn_of_wpIn rfl ?_
 refine wpIn_skip ?_
 refine ⟨rfl,.returning,?_,.tuple #[],?_,rfl,⟨_,rfl⟩,rfl⟩
 ·rw [←hc]
 ·kernel_rfl
theorem cfgI_tab:TableOk Tryz.prog cfgI:=⟨fun f af h=>tab_row f af h,fun f hf args w=>by
 obtain rfl:=Nat.eq_of_beq_eq_true hf
 exact ⟨enters_of Tryz.func205 rfl (by kernel_rfl) args w,fun n=>caught_idle args w n⟩⟩
theorem cfgI_sum (B:Nat) (w0:World):SumOk Tryz.prog B w0 cfgI:=fun f args h v h' hx=>all_sum B w0 f args h v h' hx
end Abs
end Go.Proofs.YthgcjbniipfnbaaGreatDoor
