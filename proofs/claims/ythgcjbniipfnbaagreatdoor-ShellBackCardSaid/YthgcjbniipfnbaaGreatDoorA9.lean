/- The abstract machine: its values, its memory, its code. Nothing here speaks of the model's memory. The abstract machine: its operations. The abstract machine: how its code is read off the model's. The abstract machine's memory and the model's: what it is that they agree. The abstract machine's memory and the model's: what writes, appends and new blocks do to both. The abstract machine's memory and the model's: reading; new blocks; appends; maps. The abstract machine's single operations are the model's. The abstract machine's appends are the model's. The abstract machine's aggregates, slice expressions, maps and copies are the model's. -/
import Derived.CallsIn
import Derived.OrdersIn
import Derived.RowKit3
import Derived.Below
import Derived.Laws.Sem
import Derived.Laws.World
import Derived.Laws.Cells
import Derived.Laws.Append
import Derived.Laws.NewBlocks
import Derived.Laws.Strings
import Derived.Laws.StructEq
import Derived.Laws.AppendOwn
namespace Go.Proofs.YthgcjbniipfnbaaGreatDoor
namespace Abs
set_option linter.unusedVariables false
noncomputable section
/-! ### A table by numbers -/
inductive Tr (α:Type) where
 | nil
 | node (l:Tr α) (v:Option α) (r:Tr α)
inductive Pth where
 | e
 | l (p:Pth)
 | r (p:Pth)
 deriving DecidableEq
def pathF:Nat→Nat→Pth
 | 0,_=>.e
 | f+1,n=>if n=0 then .e else if n % 2=1 then .l (pathF f (n / 2)) else .r (pathF f (n / 2-1))
def path (n:Nat):Pth:=pathF (n+1) n
def Tr.getP {α:Type} (p:Pth):Tr α→Option α :=
 Pth.rec (motive:=fun _=>Tr α→Option α) (fun t=>Tr.rec (motive:=fun _=>Option α) none (fun _ v _ _ _=>v) t)
  (fun _ ih t=>Tr.rec (motive:=fun _=>Option α) none (fun l _ _ _ _=>ih l) t) (fun _ ih t=>Tr.rec (motive:=fun _=>Option α) none (fun _ _ r _ _=>ih r) t) p
def Tr.setP {α:Type} (x:Option α) (p:Pth):Tr α→Tr α :=
 Pth.rec (motive:=fun _=>Tr α→Tr α) (fun t=>Tr.rec (motive:=fun _=>Tr α) (.node .nil x .nil) (fun l _ r _ _=>.node l x r) t)
  (fun _ ih t=>Tr.rec (motive:=fun _=>Tr α) (.node (ih .nil) none .nil) (fun l v r _ _=>.node (ih l) v r) t)
  (fun _ ih t=>Tr.rec (motive:=fun _=>Tr α) (.node .nil none (ih .nil)) (fun l v r _ _=>.node l v (ih r)) t) p
def Tr.get {α:Type} (t:Tr α) (n:Nat):Option α:=Tr.getP (path n) t
def Tr.set {α:Type} (t:Tr α) (n:Nat) (x:α):Tr α:=Tr.setP (some x) (path n) t
theorem pathF_stable:∀ (f g n:Nat),n<f→n<g→pathF f n=pathF g n
 | 0,_,_,h,_=>by omega
 | _,0,_,_,h=>by omega
 | f+1,g+1,n,h1,h2=>by
  unfold pathF
  by_cases h0:n=0
  ·rw [if_pos h0,if_pos h0]
  ·rw [if_neg h0,if_neg h0]
   by_cases h:n % 2=1
   ·rw [if_pos h,if_pos h,pathF_stable f g (n / 2) (by omega) (by omega)]
   ·rw [if_neg h,if_neg h,pathF_stable f g (n / 2-1) (by omega) (by omega)]
theorem path_eq (n:Nat):path n=if n=0 then .e else if n % 2=1 then .l (path (n / 2)) else .r (path (n / 2-1)):=by
 unfold path
 conv=>lhs;unfold pathF
 by_cases h0:n=0
 ·rw [if_pos h0,if_pos h0]
 ·rw [if_neg h0,if_neg h0]
  by_cases h:n % 2=1
  ·rw [if_pos h,if_pos h,pathF_stable n (n / 2+1) (n / 2) (by omega) (by omega)]
  ·rw [if_neg h,if_neg h,pathF_stable n (n / 2-1+1) (n / 2-1) (by omega) (by omega)]
theorem path_inj:∀ (n m:Nat),path n=path m→n=m:=by
 intro n
 induction n using Nat.strongRecOn with
 | _ n ih =>
  intro m h
  rw [path_eq n,path_eq m] at h
  by_cases h0:n=0
  ·by_cases h1:m=0
   ·omega
   ·rw [if_pos h0,if_neg h1] at h
    split at h <;> cases h
  ·rw [if_neg h0] at h
   by_cases h1:m=0
   ·rw [if_pos h1] at h
    split at h <;> cases h
   ·rw [if_neg h1] at h
    by_cases hn:n % 2=1
    ·rw [if_pos hn] at h
     by_cases hm:m % 2=1
     ·rw [if_pos hm] at h
      have:=ih (n / 2) (by omega) (m / 2) (Pth.l.inj h)
      omega
     ·rw [if_neg hm] at h;cases h
    ·rw [if_neg hn] at h
     by_cases hm:m % 2=1
     ·rw [if_pos hm] at h;cases h
     ·rw [if_neg hm] at h
      have:=ih (n / 2-1) (by omega) (m / 2-1) (Pth.r.inj h)
      omega
theorem Tr.getP_nil {α:Type}:∀ p:Pth,Tr.getP p (Tr.nil:Tr α)=none
 | .e=>rfl
 | .l p=>rfl
 | .r p=>rfl
theorem Tr.getP_setP {α:Type} (x:Option α):∀ (p q:Pth) (t:Tr α),Tr.getP q (Tr.setP x p t)=if q=p then x else Tr.getP q t
 | .e,.e,t=>by cases t <;> rfl
 | .e,.l q,t=>by
  rw [if_neg (by simp)]
  cases t with
  | nil=>exact Tr.getP_nil q
  | node=>rfl
 | .e,.r q,t=>by
  rw [if_neg (by simp)]
  cases t with
  | nil=>exact Tr.getP_nil q
  | node=>rfl
 | .l p,.e,t=>by rw [if_neg (by simp)];cases t <;> rfl
 | .r p,.e,t=>by rw [if_neg (by simp)];cases t <;> rfl
 | .l p,.r q,t=>by
  rw [if_neg (by simp)]
  cases t with
  | nil=>exact Tr.getP_nil q
  | node=>rfl
 | .r p,.l q,t=>by
  rw [if_neg (by simp)]
  cases t with
  | nil=>exact Tr.getP_nil q
  | node=>rfl
 | .l p,.l q,t=>by
  have e:(Pth.l q=Pth.l p)=(q=p):=by simp
  simp only [e]
  cases t with
  | nil=>rw [Tr.getP_nil];exact (Tr.getP_setP x p q .nil).trans (by rw [Tr.getP_nil])
  | node l v r=>exact Tr.getP_setP x p q l
 | .r p,.r q,t=>by
  have e:(Pth.r q=Pth.r p)=(q=p):=by simp
  simp only [e]
  cases t with
  | nil=>rw [Tr.getP_nil];exact (Tr.getP_setP x p q .nil).trans (by rw [Tr.getP_nil])
  | node l v r=>exact Tr.getP_setP x p q r
theorem Tr.get_nil {α:Type} (n:Nat):(Tr.nil:Tr α).get n=none:=Tr.getP_nil _
theorem Tr.get_set {α:Type} (t:Tr α) (n m:Nat) (x:α):(t.set n x).get m=if m=n then some x else t.get m:=by
 unfold Tr.get Tr.set
 rw [Tr.getP_setP]
 by_cases h:m=n
 ·rw [if_pos h,if_pos (by rw [h])]
 ·rw [if_neg h,if_neg (fun e=>h (path_inj _ _ e))]
/-! ### Values -/
inductive V where
 | bool (b:Bool)
 | int (k:IntKind) (n:Int)
 | str (s:List Nat)
 | ptr (a:Option (Nat × Nat))
 | slice (a:Option (Nat × Nat)) (len cap:Nat)
 | oslice (b o len cap sz:Nat)
 | map (r:Option Nat)
 | func (fn:Fn) (first caps:List V)
 | nilFunc
 | iface (t:Nat) (v:V)
 | nilIface
 | agg (vs:List V)
 | tuple (vs:List V)
 | yld (b:Nat)
/-! ### The temporaries: a table of sixteen ways -/
inductive Dg where
 | d0 | d1 | d2 | d3 | d4 | d5 | d6 | d7 | d8 | d9 | d10 | d11 | d12 | d13 | d14 | d15
 deriving DecidableEq
def dg (n:Nat):Dg:=cond (Nat.beq n 0) .d0 (cond (Nat.beq n 1) .d1 (cond (Nat.beq n 2) .d2 (cond (Nat.beq n 3) .d3 (cond (Nat.beq n 4) .d4 (cond (Nat.beq n 5) .d5 (cond (Nat.beq n 6) .d6 (cond (Nat.beq n 7) .d7 (cond (Nat.beq n 8) .d8 (cond (Nat.beq n 9) .d9 (cond (Nat.beq n 10) .d10 (cond (Nat.beq n 11) .d11 (cond (Nat.beq n 12) .d12 (cond (Nat.beq n 13) .d13 (cond (Nat.beq n 14) .d14 .d15))))))))))))))
theorem dg_inj {n m:Nat} (hn:n<16) (hm:m<16) (h:dg n=dg m):n=m:=by
 have q:∀ a b:Fin 16,dg a.val=dg b.val→a=b:=by decide
 exact congrArg Fin.val (q ⟨n,hn⟩ ⟨m,hm⟩ h)
structure RowV where
 mk ::
 a0:Option V
 a1:Option V
 a2:Option V
 a3:Option V
 a4:Option V
 a5:Option V
 a6:Option V
 a7:Option V
 a8:Option V
 a9:Option V
 a10:Option V
 a11:Option V
 a12:Option V
 a13:Option V
 a14:Option V
 a15:Option V
def RowV.zero:RowV:=⟨none,none,none,none,none,none,none,none,none,none,none,none,none,none,none,none⟩
def RowV.get (d:Dg):RowV→Option V:=Dg.rec (motive:=fun _=>RowV→Option V) RowV.a0 RowV.a1 RowV.a2 RowV.a3 RowV.a4 RowV.a5 RowV.a6 RowV.a7 RowV.a8 RowV.a9 RowV.a10 RowV.a11 RowV.a12 RowV.a13 RowV.a14 RowV.a15 d
def RowV.s0 (r:RowV):Option V→RowV:=RowV.rec (motive:=fun _=>Option V→RowV) (fun a0 a1 a2 a3 a4 a5 a6 a7 a8 a9 a10 a11 a12 a13 a14 a15 x=>⟨x,a1,a2,a3,a4,a5,a6,a7,a8,a9,a10,a11,a12,a13,a14,a15⟩) r
def RowV.s1 (r:RowV):Option V→RowV:=RowV.rec (motive:=fun _=>Option V→RowV) (fun a0 a1 a2 a3 a4 a5 a6 a7 a8 a9 a10 a11 a12 a13 a14 a15 x=>⟨a0,x,a2,a3,a4,a5,a6,a7,a8,a9,a10,a11,a12,a13,a14,a15⟩) r
def RowV.s2 (r:RowV):Option V→RowV:=RowV.rec (motive:=fun _=>Option V→RowV) (fun a0 a1 a2 a3 a4 a5 a6 a7 a8 a9 a10 a11 a12 a13 a14 a15 x=>⟨a0,a1,x,a3,a4,a5,a6,a7,a8,a9,a10,a11,a12,a13,a14,a15⟩) r
def RowV.s3 (r:RowV):Option V→RowV:=RowV.rec (motive:=fun _=>Option V→RowV) (fun a0 a1 a2 a3 a4 a5 a6 a7 a8 a9 a10 a11 a12 a13 a14 a15 x=>⟨a0,a1,a2,x,a4,a5,a6,a7,a8,a9,a10,a11,a12,a13,a14,a15⟩) r
def RowV.s4 (r:RowV):Option V→RowV:=RowV.rec (motive:=fun _=>Option V→RowV) (fun a0 a1 a2 a3 a4 a5 a6 a7 a8 a9 a10 a11 a12 a13 a14 a15 x=>⟨a0,a1,a2,a3,x,a5,a6,a7,a8,a9,a10,a11,a12,a13,a14,a15⟩) r
def RowV.s5 (r:RowV):Option V→RowV:=RowV.rec (motive:=fun _=>Option V→RowV) (fun a0 a1 a2 a3 a4 a5 a6 a7 a8 a9 a10 a11 a12 a13 a14 a15 x=>⟨a0,a1,a2,a3,a4,x,a6,a7,a8,a9,a10,a11,a12,a13,a14,a15⟩) r
def RowV.s6 (r:RowV):Option V→RowV:=RowV.rec (motive:=fun _=>Option V→RowV) (fun a0 a1 a2 a3 a4 a5 a6 a7 a8 a9 a10 a11 a12 a13 a14 a15 x=>⟨a0,a1,a2,a3,a4,a5,x,a7,a8,a9,a10,a11,a12,a13,a14,a15⟩) r
def RowV.s7 (r:RowV):Option V→RowV:=RowV.rec (motive:=fun _=>Option V→RowV) (fun a0 a1 a2 a3 a4 a5 a6 a7 a8 a9 a10 a11 a12 a13 a14 a15 x=>⟨a0,a1,a2,a3,a4,a5,a6,x,a8,a9,a10,a11,a12,a13,a14,a15⟩) r
def RowV.s8 (r:RowV):Option V→RowV:=RowV.rec (motive:=fun _=>Option V→RowV) (fun a0 a1 a2 a3 a4 a5 a6 a7 a8 a9 a10 a11 a12 a13 a14 a15 x=>⟨a0,a1,a2,a3,a4,a5,a6,a7,x,a9,a10,a11,a12,a13,a14,a15⟩) r
def RowV.s9 (r:RowV):Option V→RowV:=RowV.rec (motive:=fun _=>Option V→RowV) (fun a0 a1 a2 a3 a4 a5 a6 a7 a8 a9 a10 a11 a12 a13 a14 a15 x=>⟨a0,a1,a2,a3,a4,a5,a6,a7,a8,x,a10,a11,a12,a13,a14,a15⟩) r
def RowV.s10 (r:RowV):Option V→RowV:=RowV.rec (motive:=fun _=>Option V→RowV) (fun a0 a1 a2 a3 a4 a5 a6 a7 a8 a9 a10 a11 a12 a13 a14 a15 x=>⟨a0,a1,a2,a3,a4,a5,a6,a7,a8,a9,x,a11,a12,a13,a14,a15⟩) r
def RowV.s11 (r:RowV):Option V→RowV:=RowV.rec (motive:=fun _=>Option V→RowV) (fun a0 a1 a2 a3 a4 a5 a6 a7 a8 a9 a10 a11 a12 a13 a14 a15 x=>⟨a0,a1,a2,a3,a4,a5,a6,a7,a8,a9,a10,x,a12,a13,a14,a15⟩) r
def RowV.s12 (r:RowV):Option V→RowV:=RowV.rec (motive:=fun _=>Option V→RowV) (fun a0 a1 a2 a3 a4 a5 a6 a7 a8 a9 a10 a11 a12 a13 a14 a15 x=>⟨a0,a1,a2,a3,a4,a5,a6,a7,a8,a9,a10,a11,x,a13,a14,a15⟩) r
def RowV.s13 (r:RowV):Option V→RowV:=RowV.rec (motive:=fun _=>Option V→RowV) (fun a0 a1 a2 a3 a4 a5 a6 a7 a8 a9 a10 a11 a12 a13 a14 a15 x=>⟨a0,a1,a2,a3,a4,a5,a6,a7,a8,a9,a10,a11,a12,x,a14,a15⟩) r
def RowV.s14 (r:RowV):Option V→RowV:=RowV.rec (motive:=fun _=>Option V→RowV) (fun a0 a1 a2 a3 a4 a5 a6 a7 a8 a9 a10 a11 a12 a13 a14 a15 x=>⟨a0,a1,a2,a3,a4,a5,a6,a7,a8,a9,a10,a11,a12,a13,x,a15⟩) r
def RowV.s15 (r:RowV):Option V→RowV:=RowV.rec (motive:=fun _=>Option V→RowV) (fun a0 a1 a2 a3 a4 a5 a6 a7 a8 a9 a10 a11 a12 a13 a14 a15 x=>⟨a0,a1,a2,a3,a4,a5,a6,a7,a8,a9,a10,a11,a12,a13,a14,x⟩) r
def RowV.set (d:Dg):RowV→Option V→RowV:=Dg.rec (motive:=fun _=>RowV→Option V→RowV) RowV.s0 RowV.s1 RowV.s2 RowV.s3 RowV.s4 RowV.s5 RowV.s6 RowV.s7 RowV.s8 RowV.s9 RowV.s10 RowV.s11 RowV.s12 RowV.s13 RowV.s14 RowV.s15 d
theorem RowV.get_same (d:Dg) (r:RowV) (x:Option V):RowV.get d (RowV.set d r x)=x:=by cases d <;> rfl
theorem RowV.get_ne {d e:Dg} (h:d≠e) (r:RowV) (x:Option V):RowV.get d (RowV.set e r x)=RowV.get d r:=by cases e <;> cases d <;> first | rfl | exact absurd rfl h
theorem RowV.get_zero (d:Dg):RowV.get d RowV.zero=none:=by cases d <;> rfl
structure TabV where
 mk ::
 a0:RowV
 a1:RowV
 a2:RowV
 a3:RowV
 a4:RowV
 a5:RowV
 a6:RowV
 a7:RowV
 a8:RowV
 a9:RowV
 a10:RowV
 a11:RowV
 a12:RowV
 a13:RowV
 a14:RowV
 a15:RowV
def TabV.zero:TabV:=⟨RowV.zero,RowV.zero,RowV.zero,RowV.zero,RowV.zero,RowV.zero,RowV.zero,RowV.zero,RowV.zero,RowV.zero,RowV.zero,RowV.zero,RowV.zero,RowV.zero,RowV.zero,RowV.zero⟩
def TabV.get (d:Dg):TabV→RowV:=Dg.rec (motive:=fun _=>TabV→RowV) TabV.a0 TabV.a1 TabV.a2 TabV.a3 TabV.a4 TabV.a5 TabV.a6 TabV.a7 TabV.a8 TabV.a9 TabV.a10 TabV.a11 TabV.a12 TabV.a13 TabV.a14 TabV.a15 d
def TabV.s0 (r:TabV):RowV→TabV:=TabV.rec (motive:=fun _=>RowV→TabV) (fun a0 a1 a2 a3 a4 a5 a6 a7 a8 a9 a10 a11 a12 a13 a14 a15 x=>⟨x,a1,a2,a3,a4,a5,a6,a7,a8,a9,a10,a11,a12,a13,a14,a15⟩) r
def TabV.s1 (r:TabV):RowV→TabV:=TabV.rec (motive:=fun _=>RowV→TabV) (fun a0 a1 a2 a3 a4 a5 a6 a7 a8 a9 a10 a11 a12 a13 a14 a15 x=>⟨a0,x,a2,a3,a4,a5,a6,a7,a8,a9,a10,a11,a12,a13,a14,a15⟩) r
def TabV.s2 (r:TabV):RowV→TabV:=TabV.rec (motive:=fun _=>RowV→TabV) (fun a0 a1 a2 a3 a4 a5 a6 a7 a8 a9 a10 a11 a12 a13 a14 a15 x=>⟨a0,a1,x,a3,a4,a5,a6,a7,a8,a9,a10,a11,a12,a13,a14,a15⟩) r
def TabV.s3 (r:TabV):RowV→TabV:=TabV.rec (motive:=fun _=>RowV→TabV) (fun a0 a1 a2 a3 a4 a5 a6 a7 a8 a9 a10 a11 a12 a13 a14 a15 x=>⟨a0,a1,a2,x,a4,a5,a6,a7,a8,a9,a10,a11,a12,a13,a14,a15⟩) r
def TabV.s4 (r:TabV):RowV→TabV:=TabV.rec (motive:=fun _=>RowV→TabV) (fun a0 a1 a2 a3 a4 a5 a6 a7 a8 a9 a10 a11 a12 a13 a14 a15 x=>⟨a0,a1,a2,a3,x,a5,a6,a7,a8,a9,a10,a11,a12,a13,a14,a15⟩) r
def TabV.s5 (r:TabV):RowV→TabV:=TabV.rec (motive:=fun _=>RowV→TabV) (fun a0 a1 a2 a3 a4 a5 a6 a7 a8 a9 a10 a11 a12 a13 a14 a15 x=>⟨a0,a1,a2,a3,a4,x,a6,a7,a8,a9,a10,a11,a12,a13,a14,a15⟩) r
def TabV.s6 (r:TabV):RowV→TabV:=TabV.rec (motive:=fun _=>RowV→TabV) (fun a0 a1 a2 a3 a4 a5 a6 a7 a8 a9 a10 a11 a12 a13 a14 a15 x=>⟨a0,a1,a2,a3,a4,a5,x,a7,a8,a9,a10,a11,a12,a13,a14,a15⟩) r
def TabV.s7 (r:TabV):RowV→TabV:=TabV.rec (motive:=fun _=>RowV→TabV) (fun a0 a1 a2 a3 a4 a5 a6 a7 a8 a9 a10 a11 a12 a13 a14 a15 x=>⟨a0,a1,a2,a3,a4,a5,a6,x,a8,a9,a10,a11,a12,a13,a14,a15⟩) r
def TabV.s8 (r:TabV):RowV→TabV:=TabV.rec (motive:=fun _=>RowV→TabV) (fun a0 a1 a2 a3 a4 a5 a6 a7 a8 a9 a10 a11 a12 a13 a14 a15 x=>⟨a0,a1,a2,a3,a4,a5,a6,a7,x,a9,a10,a11,a12,a13,a14,a15⟩) r
def TabV.s9 (r:TabV):RowV→TabV:=TabV.rec (motive:=fun _=>RowV→TabV) (fun a0 a1 a2 a3 a4 a5 a6 a7 a8 a9 a10 a11 a12 a13 a14 a15 x=>⟨a0,a1,a2,a3,a4,a5,a6,a7,a8,x,a10,a11,a12,a13,a14,a15⟩) r
def TabV.s10 (r:TabV):RowV→TabV:=TabV.rec (motive:=fun _=>RowV→TabV) (fun a0 a1 a2 a3 a4 a5 a6 a7 a8 a9 a10 a11 a12 a13 a14 a15 x=>⟨a0,a1,a2,a3,a4,a5,a6,a7,a8,a9,x,a11,a12,a13,a14,a15⟩) r
def TabV.s11 (r:TabV):RowV→TabV:=TabV.rec (motive:=fun _=>RowV→TabV) (fun a0 a1 a2 a3 a4 a5 a6 a7 a8 a9 a10 a11 a12 a13 a14 a15 x=>⟨a0,a1,a2,a3,a4,a5,a6,a7,a8,a9,a10,x,a12,a13,a14,a15⟩) r
def TabV.s12 (r:TabV):RowV→TabV:=TabV.rec (motive:=fun _=>RowV→TabV) (fun a0 a1 a2 a3 a4 a5 a6 a7 a8 a9 a10 a11 a12 a13 a14 a15 x=>⟨a0,a1,a2,a3,a4,a5,a6,a7,a8,a9,a10,a11,x,a13,a14,a15⟩) r
def TabV.s13 (r:TabV):RowV→TabV:=TabV.rec (motive:=fun _=>RowV→TabV) (fun a0 a1 a2 a3 a4 a5 a6 a7 a8 a9 a10 a11 a12 a13 a14 a15 x=>⟨a0,a1,a2,a3,a4,a5,a6,a7,a8,a9,a10,a11,a12,x,a14,a15⟩) r
def TabV.s14 (r:TabV):RowV→TabV:=TabV.rec (motive:=fun _=>RowV→TabV) (fun a0 a1 a2 a3 a4 a5 a6 a7 a8 a9 a10 a11 a12 a13 a14 a15 x=>⟨a0,a1,a2,a3,a4,a5,a6,a7,a8,a9,a10,a11,a12,a13,x,a15⟩) r
def TabV.s15 (r:TabV):RowV→TabV:=TabV.rec (motive:=fun _=>RowV→TabV) (fun a0 a1 a2 a3 a4 a5 a6 a7 a8 a9 a10 a11 a12 a13 a14 a15 x=>⟨a0,a1,a2,a3,a4,a5,a6,a7,a8,a9,a10,a11,a12,a13,a14,x⟩) r
def TabV.set (d:Dg):TabV→RowV→TabV:=Dg.rec (motive:=fun _=>TabV→RowV→TabV) TabV.s0 TabV.s1 TabV.s2 TabV.s3 TabV.s4 TabV.s5 TabV.s6 TabV.s7 TabV.s8 TabV.s9 TabV.s10 TabV.s11 TabV.s12 TabV.s13 TabV.s14 TabV.s15 d
theorem TabV.get_same (d:Dg) (r:TabV) (x:RowV):TabV.get d (TabV.set d r x)=x:=by cases d <;> rfl
theorem TabV.get_ne {d e:Dg} (h:d≠e) (r:TabV) (x:RowV):TabV.get d (TabV.set e r x)=TabV.get d r:=by cases e <;> cases d <;> first | rfl | exact absurd rfl h
theorem TabV.get_zero (d:Dg):TabV.get d TabV.zero=RowV.zero:=by cases d <;> rfl
structure TM where
 tab:TabV
 rest:Tr V
def TM.nil:TM:=⟨TabV.zero,.nil⟩
def TM.get (t:TM) (n:Nat):Option V:=Bool.rec (motive:=fun _=>Option V) (t.rest.get (Nat.sub n 256)) (RowV.get (dg (Nat.mod n 16)) (TabV.get (dg (Nat.div n 16)) t.tab)) (Nat.ble n 255)
def TM.set (t:TM) (n:Nat) (x:V):TM:=Bool.rec (motive:=fun _=>TM) ⟨t.tab,t.rest.set (Nat.sub n 256) x⟩ ⟨TabV.set (dg (Nat.div n 16)) t.tab (RowV.set (dg (Nat.mod n 16)) (TabV.get (dg (Nat.div n 16)) t.tab) (some x)),t.rest⟩ (Nat.ble n 255)
theorem TM.get_lo (t:TM) {n:Nat} (h:n≤255):t.get n=RowV.get (dg (n % 16)) (TabV.get (dg (n / 16)) t.tab):=by
 unfold TM.get;rw [Nat.ble_eq_true_of_le h];rfl
theorem TM.get_hi (t:TM) {n:Nat} (h:¬ n≤255):t.get n=t.rest.get (n-256):=by
 unfold TM.get;rw [show Nat.ble n 255=false from Bool.eq_false_iff.2 fun e=>h (Nat.le_of_ble_eq_true e)];rfl
theorem TM.set_lo (t:TM) {n:Nat} (h:n≤255) (x:V):t.set n x=⟨TabV.set (dg (n / 16)) t.tab (RowV.set (dg (n % 16)) (TabV.get (dg (n / 16)) t.tab) (some x)),t.rest⟩:=by
 unfold TM.set;rw [Nat.ble_eq_true_of_le h];rfl
theorem TM.set_hi (t:TM) {n:Nat} (h:¬ n≤255) (x:V):t.set n x=⟨t.tab,t.rest.set (n-256) x⟩:=by
 unfold TM.set;rw [show Nat.ble n 255=false from Bool.eq_false_iff.2 fun e=>h (Nat.le_of_ble_eq_true e)];rfl
theorem TM.get_nil (n:Nat):TM.nil.get n=none:=by
 by_cases h:n≤255
 ·rw [TM.get_lo _ h];show RowV.get _ (TabV.get _ TabV.zero)=none;rw [TabV.get_zero,RowV.get_zero]
 ·rw [TM.get_hi _ h];exact Tr.get_nil _
theorem TM.get_set (t:TM) (n m:Nat) (x:V):(t.set n x).get m=if m=n then some x else t.get m:=by
 by_cases hn:n≤255
 ·rw [TM.set_lo _ hn]
  by_cases hm:m≤255
  ·rw [TM.get_lo _ hm,TM.get_lo t hm]
   by_cases hq:m / 16=n / 16
   ·simp only [hq,TabV.get_same]
    by_cases hr:m % 16=n % 16
    ·rw [if_pos (by omega),hr,RowV.get_same]
    ·rw [if_neg (fun e=>hr (by rw [e])),RowV.get_ne (fun e=>hr (dg_inj (by omega) (by omega) e))]
   ·rw [if_neg (fun e=>hq (by rw [e]))];simp only;rw [TabV.get_ne (fun e=>hq (dg_inj (by omega) (by omega) e))]
  ·rw [TM.get_hi _ hm,TM.get_hi t hm,if_neg (by omega)]
 ·rw [TM.set_hi _ hn]
  by_cases hm:m≤255
  ·rw [TM.get_lo _ hm,TM.get_lo t hm,if_neg (by omega)]
  ·rw [TM.get_hi _ hm,TM.get_hi t hm,Tr.get_set]
   by_cases h:m=n
   ·rw [if_pos h,if_pos (by omega)]
   ·rw [if_neg h,if_neg (by omega)]
theorem TM.get_set_same (t:TM) (n:Nat) (x:V):(t.set n x).get n=some x:=by rw [TM.get_set,if_pos rfl]
theorem TM.get_set_ne (t:TM) (n m:Nat) (x:V) (h:m≠n):(t.set n x).get m=t.get m:=by rw [TM.get_set,if_neg h]
/-! ### Code -/
inductive Opd where
 | t (i:Nat)
 | c (v:V)
inductive FK where
 | bool | int | str | ptr | slice | map | func
 deriving DecidableEq
inductive EqD where
 | flat (k:FK)                          -- bools,integers,strings,nil against a reference
 | struct (fs:List (Nat × Option Nat × EqD))  -- offset,cells of a part that is an aggregate,its own comparison
inductive K where
 | mv (x:Opd)
 | pick (c a b:Opd)
 | bad
 | sliceData (x:Opd)
 | unsStr (bt:Nat) (x n:Opd)
 | unsP (x:Opd)
 | ofUns (u n:Nat) (x:Opd)
 | alloc (ty:Option Nat) (zero:List V)
 | box (x:Opd)
 | build (zero:List V) (parts:List (Nat × Nat × Opd))
 | buildSl (ty:Option Nat) (zero:List V) (len:Nat) (parts:List (Nat × Nat × Opd))
 | load (n:Option Nat) (a:Opd)
 | store (n:Nat) (a x:Opd)
 | nilck (x:Opd)
 | bin (op:BinOp) (x y:Opd)
 | eq (neg:Bool) (d:EqD) (x y:Opd)
 | not (x:Opd)
 | neg (x:Opd)
 | inv (x:Opd)
 | toInt (k:IntKind) (x:Opd)
 | same (x:Opd)
 | toStr (x:Opd)
 | toBytes (x:Opd)
 | sliceStr (x:Opd) (lo hi:Option Opd)
 | sliceSl (sz:Nat) (x:Opd) (lo hi mx:Option Opd)
 | sliceArr (n sz:Nat) (x:Opd) (lo hi:Option Opd)
 | fieldAddr (off:Nat) (x:Opd)
 | field (off:Nat) (n:Option Nat) (x:Opd)
 | idxSl (sz:Nat) (x i:Opd)
 | idxArr (n sz:Nat) (x i:Opd)
 | atStr (x i:Opd)
 | atArr (n sz:Nat) (agg:Option Nat) (x i:Opd)
 | lenStr (x:Opd)
 | lenSl (x:Opd)
 | min2 (x y:Opd)
 | max2 (x y:Opd)
 | append (sz bytes:Nat) (ty:Option Nat) (x y:Opd)
 | appendS (ty:Option Nat) (x y:Opd)
 | copy (sz:Nat) (x y:Opd)
 | clear (sz:Nat) (zero:List V) (x:Opd)
 | makeSl (sz bytes:Nat) (zero:List V) (l c:Opd)
 | makeMap
 | lookup (kk:FK) (zero:V) (ok:Bool) (m k:Opd)
 | mapUpd (kk:FK) (m k v:Opd)
 | mapDel (kk:FK) (m k:Opd)
 | mapLen (m:Opd)
 | mkFn (fn:Fn) (first caps:List Opd)
 | extract (i:Nat) (x:Opd)
 | mkIface (t:Nat) (x:Opd)
 | call (f:Opd) (args:List Opd)
 | invoke (tbl:List (Nat × Nat)) (x:Opd) (args:List Opd)
 | assertT (t:Nat) (x:Opd)
 | isNil (neg:Bool) (x:Opd)
 | minN (mx:Bool) (xs:List Opd)
 | mapEnt (kk:FK) (zero:V) (m k:Opd)
 | entSt (m s x:Opd)
 | invokeV (tbl:List (Nat × Nat)) (tbl2:List (Nat × Nat × Option Nat)) (x:Opd) (args:List Opd)
 | rangeM (x:Opd)
 | nextM (x:Opd)
 | entM (x:Opd)
structure AOp where
 dst:Option Nat
 guard:Option (Nat × Bool)
 k:K
structure DOp where
 o:AOp
 idx:Nat
 anc:List Nat
inductive AC where
 | skip
 | ops (l:List AOp)
 | draw (l:List DOp)
 | seq (a b:AC)
 | cond (x:Opd) (a b:AC)
 | block (id:Nat) (c:AC)
 | loop (c:AC)
 | exit (id:Nat)
 | ret
 | bad
 | range (nt:Nat) (f:Opd) (ps:List Nat) (asg body:AC)
 | defr (f:Opd) (args:List Opd)
inductive Ex where
 | normal
 | exit (id:Nat)
 | ret
/-! ### Memory -/
inductive St where
 | ro
 | tip (sups:List Nat) (fz:Nat) (ty:Option Nat)
 | sup
def joinTy (a b:Option Nat) (o:Nat):Option Nat :=
 match a,b with
 | some x,some y=>if x=y∧o=0 then some x else none
 | _,_=>none
theorem joinTy_some {a b:Option Nat} {o t:Nat} (h:joinTy a b o=some t):a=some t∧b=some t∧o=0:=by
 unfold joinTy at h
 split at h
 ·rename_i x y
  by_cases hc:x=y∧o=0
  ·rw [if_pos hc] at h;cases h;exact ⟨rfl,by rw [hc.1],hc.2⟩
  ·rw [if_neg hc] at h;cases h
 ·cases h
inductive Obj where
 | cells (cs:List V) (st:St)
 | map (es:List (V × V)) (bs:List Nat) (cl:Nat)
 | loop (st:LoopState) (pend:Option Ex) (nt:Nat) (tm:TM) (ps:List Nat) (asg body:AC)
 | dfr
 | iter (m:Option Nat) (s:Nat) (seen:List Nat) (c:Nat)
 | dead
/-! The memory's table. -/
structure RowO where
 mk ::
 a0:Option Obj
 a1:Option Obj
 a2:Option Obj
 a3:Option Obj
 a4:Option Obj
 a5:Option Obj
 a6:Option Obj
 a7:Option Obj
 a8:Option Obj
 a9:Option Obj
 a10:Option Obj
 a11:Option Obj
 a12:Option Obj
 a13:Option Obj
 a14:Option Obj
 a15:Option Obj
def RowO.zero:RowO:=⟨none,none,none,none,none,none,none,none,none,none,none,none,none,none,none,none⟩
def RowO.get (d:Dg):RowO→Option Obj:=Dg.rec (motive:=fun _=>RowO→Option Obj) RowO.a0 RowO.a1 RowO.a2 RowO.a3 RowO.a4 RowO.a5 RowO.a6 RowO.a7 RowO.a8 RowO.a9 RowO.a10 RowO.a11 RowO.a12 RowO.a13 RowO.a14 RowO.a15 d
def RowO.s0 (r:RowO):Option Obj→RowO:=RowO.rec (motive:=fun _=>Option Obj→RowO) (fun a0 a1 a2 a3 a4 a5 a6 a7 a8 a9 a10 a11 a12 a13 a14 a15 x=>⟨x,a1,a2,a3,a4,a5,a6,a7,a8,a9,a10,a11,a12,a13,a14,a15⟩) r
def RowO.s1 (r:RowO):Option Obj→RowO:=RowO.rec (motive:=fun _=>Option Obj→RowO) (fun a0 a1 a2 a3 a4 a5 a6 a7 a8 a9 a10 a11 a12 a13 a14 a15 x=>⟨a0,x,a2,a3,a4,a5,a6,a7,a8,a9,a10,a11,a12,a13,a14,a15⟩) r
def RowO.s2 (r:RowO):Option Obj→RowO:=RowO.rec (motive:=fun _=>Option Obj→RowO) (fun a0 a1 a2 a3 a4 a5 a6 a7 a8 a9 a10 a11 a12 a13 a14 a15 x=>⟨a0,a1,x,a3,a4,a5,a6,a7,a8,a9,a10,a11,a12,a13,a14,a15⟩) r
def RowO.s3 (r:RowO):Option Obj→RowO:=RowO.rec (motive:=fun _=>Option Obj→RowO) (fun a0 a1 a2 a3 a4 a5 a6 a7 a8 a9 a10 a11 a12 a13 a14 a15 x=>⟨a0,a1,a2,x,a4,a5,a6,a7,a8,a9,a10,a11,a12,a13,a14,a15⟩) r
def RowO.s4 (r:RowO):Option Obj→RowO:=RowO.rec (motive:=fun _=>Option Obj→RowO) (fun a0 a1 a2 a3 a4 a5 a6 a7 a8 a9 a10 a11 a12 a13 a14 a15 x=>⟨a0,a1,a2,a3,x,a5,a6,a7,a8,a9,a10,a11,a12,a13,a14,a15⟩) r
def RowO.s5 (r:RowO):Option Obj→RowO:=RowO.rec (motive:=fun _=>Option Obj→RowO) (fun a0 a1 a2 a3 a4 a5 a6 a7 a8 a9 a10 a11 a12 a13 a14 a15 x=>⟨a0,a1,a2,a3,a4,x,a6,a7,a8,a9,a10,a11,a12,a13,a14,a15⟩) r
def RowO.s6 (r:RowO):Option Obj→RowO:=RowO.rec (motive:=fun _=>Option Obj→RowO) (fun a0 a1 a2 a3 a4 a5 a6 a7 a8 a9 a10 a11 a12 a13 a14 a15 x=>⟨a0,a1,a2,a3,a4,a5,x,a7,a8,a9,a10,a11,a12,a13,a14,a15⟩) r
def RowO.s7 (r:RowO):Option Obj→RowO:=RowO.rec (motive:=fun _=>Option Obj→RowO) (fun a0 a1 a2 a3 a4 a5 a6 a7 a8 a9 a10 a11 a12 a13 a14 a15 x=>⟨a0,a1,a2,a3,a4,a5,a6,x,a8,a9,a10,a11,a12,a13,a14,a15⟩) r
def RowO.s8 (r:RowO):Option Obj→RowO:=RowO.rec (motive:=fun _=>Option Obj→RowO) (fun a0 a1 a2 a3 a4 a5 a6 a7 a8 a9 a10 a11 a12 a13 a14 a15 x=>⟨a0,a1,a2,a3,a4,a5,a6,a7,x,a9,a10,a11,a12,a13,a14,a15⟩) r
def RowO.s9 (r:RowO):Option Obj→RowO:=RowO.rec (motive:=fun _=>Option Obj→RowO) (fun a0 a1 a2 a3 a4 a5 a6 a7 a8 a9 a10 a11 a12 a13 a14 a15 x=>⟨a0,a1,a2,a3,a4,a5,a6,a7,a8,x,a10,a11,a12,a13,a14,a15⟩) r
def RowO.s10 (r:RowO):Option Obj→RowO:=RowO.rec (motive:=fun _=>Option Obj→RowO) (fun a0 a1 a2 a3 a4 a5 a6 a7 a8 a9 a10 a11 a12 a13 a14 a15 x=>⟨a0,a1,a2,a3,a4,a5,a6,a7,a8,a9,x,a11,a12,a13,a14,a15⟩) r
def RowO.s11 (r:RowO):Option Obj→RowO:=RowO.rec (motive:=fun _=>Option Obj→RowO) (fun a0 a1 a2 a3 a4 a5 a6 a7 a8 a9 a10 a11 a12 a13 a14 a15 x=>⟨a0,a1,a2,a3,a4,a5,a6,a7,a8,a9,a10,x,a12,a13,a14,a15⟩) r
def RowO.s12 (r:RowO):Option Obj→RowO:=RowO.rec (motive:=fun _=>Option Obj→RowO) (fun a0 a1 a2 a3 a4 a5 a6 a7 a8 a9 a10 a11 a12 a13 a14 a15 x=>⟨a0,a1,a2,a3,a4,a5,a6,a7,a8,a9,a10,a11,x,a13,a14,a15⟩) r
def RowO.s13 (r:RowO):Option Obj→RowO:=RowO.rec (motive:=fun _=>Option Obj→RowO) (fun a0 a1 a2 a3 a4 a5 a6 a7 a8 a9 a10 a11 a12 a13 a14 a15 x=>⟨a0,a1,a2,a3,a4,a5,a6,a7,a8,a9,a10,a11,a12,x,a14,a15⟩) r
def RowO.s14 (r:RowO):Option Obj→RowO:=RowO.rec (motive:=fun _=>Option Obj→RowO) (fun a0 a1 a2 a3 a4 a5 a6 a7 a8 a9 a10 a11 a12 a13 a14 a15 x=>⟨a0,a1,a2,a3,a4,a5,a6,a7,a8,a9,a10,a11,a12,a13,x,a15⟩) r
def RowO.s15 (r:RowO):Option Obj→RowO:=RowO.rec (motive:=fun _=>Option Obj→RowO) (fun a0 a1 a2 a3 a4 a5 a6 a7 a8 a9 a10 a11 a12 a13 a14 a15 x=>⟨a0,a1,a2,a3,a4,a5,a6,a7,a8,a9,a10,a11,a12,a13,a14,x⟩) r
def RowO.set (d:Dg):RowO→Option Obj→RowO:=Dg.rec (motive:=fun _=>RowO→Option Obj→RowO) RowO.s0 RowO.s1 RowO.s2 RowO.s3 RowO.s4 RowO.s5 RowO.s6 RowO.s7 RowO.s8 RowO.s9 RowO.s10 RowO.s11 RowO.s12 RowO.s13 RowO.s14 RowO.s15 d
theorem RowO.get_same (d:Dg) (r:RowO) (x:Option Obj):RowO.get d (RowO.set d r x)=x:=by cases d <;> rfl
theorem RowO.get_ne {d e:Dg} (h:d≠e) (r:RowO) (x:Option Obj):RowO.get d (RowO.set e r x)=RowO.get d r:=by cases e <;> cases d <;> first | rfl | exact absurd rfl h
theorem RowO.get_zero (d:Dg):RowO.get d RowO.zero=none:=by cases d <;> rfl
structure TabO where
 mk ::
 a0:RowO
 a1:RowO
 a2:RowO
 a3:RowO
 a4:RowO
 a5:RowO
 a6:RowO
 a7:RowO
 a8:RowO
 a9:RowO
 a10:RowO
 a11:RowO
 a12:RowO
 a13:RowO
 a14:RowO
 a15:RowO
def TabO.zero:TabO:=⟨RowO.zero,RowO.zero,RowO.zero,RowO.zero,RowO.zero,RowO.zero,RowO.zero,RowO.zero,RowO.zero,RowO.zero,RowO.zero,RowO.zero,RowO.zero,RowO.zero,RowO.zero,RowO.zero⟩
def TabO.get (d:Dg):TabO→RowO:=Dg.rec (motive:=fun _=>TabO→RowO) TabO.a0 TabO.a1 TabO.a2 TabO.a3 TabO.a4 TabO.a5 TabO.a6 TabO.a7 TabO.a8 TabO.a9 TabO.a10 TabO.a11 TabO.a12 TabO.a13 TabO.a14 TabO.a15 d
def TabO.s0 (r:TabO):RowO→TabO:=TabO.rec (motive:=fun _=>RowO→TabO) (fun a0 a1 a2 a3 a4 a5 a6 a7 a8 a9 a10 a11 a12 a13 a14 a15 x=>⟨x,a1,a2,a3,a4,a5,a6,a7,a8,a9,a10,a11,a12,a13,a14,a15⟩) r
def TabO.s1 (r:TabO):RowO→TabO:=TabO.rec (motive:=fun _=>RowO→TabO) (fun a0 a1 a2 a3 a4 a5 a6 a7 a8 a9 a10 a11 a12 a13 a14 a15 x=>⟨a0,x,a2,a3,a4,a5,a6,a7,a8,a9,a10,a11,a12,a13,a14,a15⟩) r
def TabO.s2 (r:TabO):RowO→TabO:=TabO.rec (motive:=fun _=>RowO→TabO) (fun a0 a1 a2 a3 a4 a5 a6 a7 a8 a9 a10 a11 a12 a13 a14 a15 x=>⟨a0,a1,x,a3,a4,a5,a6,a7,a8,a9,a10,a11,a12,a13,a14,a15⟩) r
def TabO.s3 (r:TabO):RowO→TabO:=TabO.rec (motive:=fun _=>RowO→TabO) (fun a0 a1 a2 a3 a4 a5 a6 a7 a8 a9 a10 a11 a12 a13 a14 a15 x=>⟨a0,a1,a2,x,a4,a5,a6,a7,a8,a9,a10,a11,a12,a13,a14,a15⟩) r
def TabO.s4 (r:TabO):RowO→TabO:=TabO.rec (motive:=fun _=>RowO→TabO) (fun a0 a1 a2 a3 a4 a5 a6 a7 a8 a9 a10 a11 a12 a13 a14 a15 x=>⟨a0,a1,a2,a3,x,a5,a6,a7,a8,a9,a10,a11,a12,a13,a14,a15⟩) r
def TabO.s5 (r:TabO):RowO→TabO:=TabO.rec (motive:=fun _=>RowO→TabO) (fun a0 a1 a2 a3 a4 a5 a6 a7 a8 a9 a10 a11 a12 a13 a14 a15 x=>⟨a0,a1,a2,a3,a4,x,a6,a7,a8,a9,a10,a11,a12,a13,a14,a15⟩) r
def TabO.s6 (r:TabO):RowO→TabO:=TabO.rec (motive:=fun _=>RowO→TabO) (fun a0 a1 a2 a3 a4 a5 a6 a7 a8 a9 a10 a11 a12 a13 a14 a15 x=>⟨a0,a1,a2,a3,a4,a5,x,a7,a8,a9,a10,a11,a12,a13,a14,a15⟩) r
def TabO.s7 (r:TabO):RowO→TabO:=TabO.rec (motive:=fun _=>RowO→TabO) (fun a0 a1 a2 a3 a4 a5 a6 a7 a8 a9 a10 a11 a12 a13 a14 a15 x=>⟨a0,a1,a2,a3,a4,a5,a6,x,a8,a9,a10,a11,a12,a13,a14,a15⟩) r
def TabO.s8 (r:TabO):RowO→TabO:=TabO.rec (motive:=fun _=>RowO→TabO) (fun a0 a1 a2 a3 a4 a5 a6 a7 a8 a9 a10 a11 a12 a13 a14 a15 x=>⟨a0,a1,a2,a3,a4,a5,a6,a7,x,a9,a10,a11,a12,a13,a14,a15⟩) r
def TabO.s9 (r:TabO):RowO→TabO:=TabO.rec (motive:=fun _=>RowO→TabO) (fun a0 a1 a2 a3 a4 a5 a6 a7 a8 a9 a10 a11 a12 a13 a14 a15 x=>⟨a0,a1,a2,a3,a4,a5,a6,a7,a8,x,a10,a11,a12,a13,a14,a15⟩) r
def TabO.s10 (r:TabO):RowO→TabO:=TabO.rec (motive:=fun _=>RowO→TabO) (fun a0 a1 a2 a3 a4 a5 a6 a7 a8 a9 a10 a11 a12 a13 a14 a15 x=>⟨a0,a1,a2,a3,a4,a5,a6,a7,a8,a9,x,a11,a12,a13,a14,a15⟩) r
def TabO.s11 (r:TabO):RowO→TabO:=TabO.rec (motive:=fun _=>RowO→TabO) (fun a0 a1 a2 a3 a4 a5 a6 a7 a8 a9 a10 a11 a12 a13 a14 a15 x=>⟨a0,a1,a2,a3,a4,a5,a6,a7,a8,a9,a10,x,a12,a13,a14,a15⟩) r
def TabO.s12 (r:TabO):RowO→TabO:=TabO.rec (motive:=fun _=>RowO→TabO) (fun a0 a1 a2 a3 a4 a5 a6 a7 a8 a9 a10 a11 a12 a13 a14 a15 x=>⟨a0,a1,a2,a3,a4,a5,a6,a7,a8,a9,a10,a11,x,a13,a14,a15⟩) r
def TabO.s13 (r:TabO):RowO→TabO:=TabO.rec (motive:=fun _=>RowO→TabO) (fun a0 a1 a2 a3 a4 a5 a6 a7 a8 a9 a10 a11 a12 a13 a14 a15 x=>⟨a0,a1,a2,a3,a4,a5,a6,a7,a8,a9,a10,a11,a12,x,a14,a15⟩) r
def TabO.s14 (r:TabO):RowO→TabO:=TabO.rec (motive:=fun _=>RowO→TabO) (fun a0 a1 a2 a3 a4 a5 a6 a7 a8 a9 a10 a11 a12 a13 a14 a15 x=>⟨a0,a1,a2,a3,a4,a5,a6,a7,a8,a9,a10,a11,a12,a13,x,a15⟩) r
def TabO.s15 (r:TabO):RowO→TabO:=TabO.rec (motive:=fun _=>RowO→TabO) (fun a0 a1 a2 a3 a4 a5 a6 a7 a8 a9 a10 a11 a12 a13 a14 a15 x=>⟨a0,a1,a2,a3,a4,a5,a6,a7,a8,a9,a10,a11,a12,a13,a14,x⟩) r
def TabO.set (d:Dg):TabO→RowO→TabO:=Dg.rec (motive:=fun _=>TabO→RowO→TabO) TabO.s0 TabO.s1 TabO.s2 TabO.s3 TabO.s4 TabO.s5 TabO.s6 TabO.s7 TabO.s8 TabO.s9 TabO.s10 TabO.s11 TabO.s12 TabO.s13 TabO.s14 TabO.s15 d
theorem TabO.get_same (d:Dg) (r:TabO) (x:RowO):TabO.get d (TabO.set d r x)=x:=by cases d <;> rfl
theorem TabO.get_ne {d e:Dg} (h:d≠e) (r:TabO) (x:RowO):TabO.get d (TabO.set e r x)=TabO.get d r:=by cases e <;> cases d <;> first | rfl | exact absurd rfl h
theorem TabO.get_zero (d:Dg):TabO.get d TabO.zero=RowO.zero:=by cases d <;> rfl
structure BigO where
 mk ::
 a0:TabO
 a1:TabO
 a2:TabO
 a3:TabO
 a4:TabO
 a5:TabO
 a6:TabO
 a7:TabO
 a8:TabO
 a9:TabO
 a10:TabO
 a11:TabO
 a12:TabO
 a13:TabO
 a14:TabO
 a15:TabO
def BigO.zero:BigO:=⟨TabO.zero,TabO.zero,TabO.zero,TabO.zero,TabO.zero,TabO.zero,TabO.zero,TabO.zero,TabO.zero,TabO.zero,TabO.zero,TabO.zero,TabO.zero,TabO.zero,TabO.zero,TabO.zero⟩
def BigO.get (d:Dg):BigO→TabO:=Dg.rec (motive:=fun _=>BigO→TabO) BigO.a0 BigO.a1 BigO.a2 BigO.a3 BigO.a4 BigO.a5 BigO.a6 BigO.a7 BigO.a8 BigO.a9 BigO.a10 BigO.a11 BigO.a12 BigO.a13 BigO.a14 BigO.a15 d
def BigO.s0 (r:BigO):TabO→BigO:=BigO.rec (motive:=fun _=>TabO→BigO) (fun a0 a1 a2 a3 a4 a5 a6 a7 a8 a9 a10 a11 a12 a13 a14 a15 x=>⟨x,a1,a2,a3,a4,a5,a6,a7,a8,a9,a10,a11,a12,a13,a14,a15⟩) r
def BigO.s1 (r:BigO):TabO→BigO:=BigO.rec (motive:=fun _=>TabO→BigO) (fun a0 a1 a2 a3 a4 a5 a6 a7 a8 a9 a10 a11 a12 a13 a14 a15 x=>⟨a0,x,a2,a3,a4,a5,a6,a7,a8,a9,a10,a11,a12,a13,a14,a15⟩) r
def BigO.s2 (r:BigO):TabO→BigO:=BigO.rec (motive:=fun _=>TabO→BigO) (fun a0 a1 a2 a3 a4 a5 a6 a7 a8 a9 a10 a11 a12 a13 a14 a15 x=>⟨a0,a1,x,a3,a4,a5,a6,a7,a8,a9,a10,a11,a12,a13,a14,a15⟩) r
def BigO.s3 (r:BigO):TabO→BigO:=BigO.rec (motive:=fun _=>TabO→BigO) (fun a0 a1 a2 a3 a4 a5 a6 a7 a8 a9 a10 a11 a12 a13 a14 a15 x=>⟨a0,a1,a2,x,a4,a5,a6,a7,a8,a9,a10,a11,a12,a13,a14,a15⟩) r
def BigO.s4 (r:BigO):TabO→BigO:=BigO.rec (motive:=fun _=>TabO→BigO) (fun a0 a1 a2 a3 a4 a5 a6 a7 a8 a9 a10 a11 a12 a13 a14 a15 x=>⟨a0,a1,a2,a3,x,a5,a6,a7,a8,a9,a10,a11,a12,a13,a14,a15⟩) r
def BigO.s5 (r:BigO):TabO→BigO:=BigO.rec (motive:=fun _=>TabO→BigO) (fun a0 a1 a2 a3 a4 a5 a6 a7 a8 a9 a10 a11 a12 a13 a14 a15 x=>⟨a0,a1,a2,a3,a4,x,a6,a7,a8,a9,a10,a11,a12,a13,a14,a15⟩) r
def BigO.s6 (r:BigO):TabO→BigO:=BigO.rec (motive:=fun _=>TabO→BigO) (fun a0 a1 a2 a3 a4 a5 a6 a7 a8 a9 a10 a11 a12 a13 a14 a15 x=>⟨a0,a1,a2,a3,a4,a5,x,a7,a8,a9,a10,a11,a12,a13,a14,a15⟩) r
def BigO.s7 (r:BigO):TabO→BigO:=BigO.rec (motive:=fun _=>TabO→BigO) (fun a0 a1 a2 a3 a4 a5 a6 a7 a8 a9 a10 a11 a12 a13 a14 a15 x=>⟨a0,a1,a2,a3,a4,a5,a6,x,a8,a9,a10,a11,a12,a13,a14,a15⟩) r
def BigO.s8 (r:BigO):TabO→BigO:=BigO.rec (motive:=fun _=>TabO→BigO) (fun a0 a1 a2 a3 a4 a5 a6 a7 a8 a9 a10 a11 a12 a13 a14 a15 x=>⟨a0,a1,a2,a3,a4,a5,a6,a7,x,a9,a10,a11,a12,a13,a14,a15⟩) r
def BigO.s9 (r:BigO):TabO→BigO:=BigO.rec (motive:=fun _=>TabO→BigO) (fun a0 a1 a2 a3 a4 a5 a6 a7 a8 a9 a10 a11 a12 a13 a14 a15 x=>⟨a0,a1,a2,a3,a4,a5,a6,a7,a8,x,a10,a11,a12,a13,a14,a15⟩) r
def BigO.s10 (r:BigO):TabO→BigO:=BigO.rec (motive:=fun _=>TabO→BigO) (fun a0 a1 a2 a3 a4 a5 a6 a7 a8 a9 a10 a11 a12 a13 a14 a15 x=>⟨a0,a1,a2,a3,a4,a5,a6,a7,a8,a9,x,a11,a12,a13,a14,a15⟩) r
def BigO.s11 (r:BigO):TabO→BigO:=BigO.rec (motive:=fun _=>TabO→BigO) (fun a0 a1 a2 a3 a4 a5 a6 a7 a8 a9 a10 a11 a12 a13 a14 a15 x=>⟨a0,a1,a2,a3,a4,a5,a6,a7,a8,a9,a10,x,a12,a13,a14,a15⟩) r
def BigO.s12 (r:BigO):TabO→BigO:=BigO.rec (motive:=fun _=>TabO→BigO) (fun a0 a1 a2 a3 a4 a5 a6 a7 a8 a9 a10 a11 a12 a13 a14 a15 x=>⟨a0,a1,a2,a3,a4,a5,a6,a7,a8,a9,a10,a11,x,a13,a14,a15⟩) r
def BigO.s13 (r:BigO):TabO→BigO:=BigO.rec (motive:=fun _=>TabO→BigO) (fun a0 a1 a2 a3 a4 a5 a6 a7 a8 a9 a10 a11 a12 a13 a14 a15 x=>⟨a0,a1,a2,a3,a4,a5,a6,a7,a8,a9,a10,a11,a12,x,a14,a15⟩) r
def BigO.s14 (r:BigO):TabO→BigO:=BigO.rec (motive:=fun _=>TabO→BigO) (fun a0 a1 a2 a3 a4 a5 a6 a7 a8 a9 a10 a11 a12 a13 a14 a15 x=>⟨a0,a1,a2,a3,a4,a5,a6,a7,a8,a9,a10,a11,a12,a13,x,a15⟩) r
def BigO.s15 (r:BigO):TabO→BigO:=BigO.rec (motive:=fun _=>TabO→BigO) (fun a0 a1 a2 a3 a4 a5 a6 a7 a8 a9 a10 a11 a12 a13 a14 a15 x=>⟨a0,a1,a2,a3,a4,a5,a6,a7,a8,a9,a10,a11,a12,a13,a14,x⟩) r
def BigO.set (d:Dg):BigO→TabO→BigO:=Dg.rec (motive:=fun _=>BigO→TabO→BigO) BigO.s0 BigO.s1 BigO.s2 BigO.s3 BigO.s4 BigO.s5 BigO.s6 BigO.s7 BigO.s8 BigO.s9 BigO.s10 BigO.s11 BigO.s12 BigO.s13 BigO.s14 BigO.s15 d
theorem BigO.get_same (d:Dg) (r:BigO) (x:TabO):BigO.get d (BigO.set d r x)=x:=by cases d <;> rfl
theorem BigO.get_ne {d e:Dg} (h:d≠e) (r:BigO) (x:TabO):BigO.get d (BigO.set e r x)=BigO.get d r:=by cases e <;> cases d <;> first | rfl | exact absurd rfl h
theorem BigO.get_zero (d:Dg):BigO.get d BigO.zero=TabO.zero:=by cases d <;> rfl
structure HT where
 tab:BigO
 rest:Tr Obj
def HT.nil:HT:=⟨BigO.zero,.nil⟩
def HT.get (t:HT) (n:Nat):Option Obj:=Bool.rec (motive:=fun _=>Option Obj) (t.rest.get (Nat.sub n 4096)) (RowO.get (dg (Nat.mod n 16)) (TabO.get (dg (Nat.mod (Nat.div n 16) 16)) (BigO.get (dg (Nat.div n 256)) t.tab))) (Nat.ble n 4095)
def HT.set (t:HT) (n:Nat) (x:Obj):HT:=Bool.rec (motive:=fun _=>HT) ⟨t.tab,t.rest.set (Nat.sub n 4096) x⟩ ⟨BigO.set (dg (Nat.div n 256)) t.tab (TabO.set (dg (Nat.mod (Nat.div n 16) 16)) (BigO.get (dg (Nat.div n 256)) t.tab) (RowO.set (dg (Nat.mod n 16)) (TabO.get (dg (Nat.mod (Nat.div n 16) 16)) (BigO.get (dg (Nat.div n 256)) t.tab)) (some x))),t.rest⟩ (Nat.ble n 4095)
theorem HT.get_lo (t:HT) {n:Nat} (h:n≤4095):t.get n=RowO.get (dg (n % 16)) (TabO.get (dg (n / 16 % 16)) (BigO.get (dg (n / 256)) t.tab)):=by
 unfold HT.get;rw [Nat.ble_eq_true_of_le h];rfl
theorem HT.get_hi (t:HT) {n:Nat} (h:¬ n≤4095):t.get n=t.rest.get (n-4096):=by
 unfold HT.get;rw [show Nat.ble n 4095=false from Bool.eq_false_iff.2 fun e=>h (Nat.le_of_ble_eq_true e)];rfl
theorem HT.set_lo (t:HT) {n:Nat} (h:n≤4095) (x:Obj):t.set n x=⟨BigO.set (dg (n / 256)) t.tab (TabO.set (dg (n / 16 % 16)) (BigO.get (dg (n / 256)) t.tab) (RowO.set (dg (n % 16)) (TabO.get (dg (n / 16 % 16)) (BigO.get (dg (n / 256)) t.tab)) (some x))),t.rest⟩:=by
 unfold HT.set;rw [Nat.ble_eq_true_of_le h];rfl
theorem HT.set_hi (t:HT) {n:Nat} (h:¬ n≤4095) (x:Obj):t.set n x=⟨t.tab,t.rest.set (n-4096) x⟩:=by
 unfold HT.set;rw [show Nat.ble n 4095=false from Bool.eq_false_iff.2 fun e=>h (Nat.le_of_ble_eq_true e)];rfl
theorem HT.get_nil (n:Nat):HT.nil.get n=none:=by
 by_cases h:n≤4095
 ·rw [HT.get_lo _ h];show RowO.get _ (TabO.get _ (BigO.get _ BigO.zero))=none;rw [BigO.get_zero,TabO.get_zero,RowO.get_zero]
 ·rw [HT.get_hi _ h];exact Tr.get_nil _
theorem HT.get_set (t:HT) (n m:Nat) (x:Obj):(t.set n x).get m=if m=n then some x else t.get m:=by
 by_cases hn:n≤4095
 ·rw [HT.set_lo _ hn]
  by_cases hm:m≤4095
  ·rw [HT.get_lo _ hm,HT.get_lo t hm]
   by_cases hq:m / 256=n / 256
   ·simp only [hq,BigO.get_same]
    by_cases hs:m / 16 % 16=n / 16 % 16
    ·simp only [hs,TabO.get_same]
     by_cases hr:m % 16=n % 16
     ·rw [if_pos (by omega),hr,RowO.get_same]
     ·rw [if_neg (fun e=>hr (by rw [e])),RowO.get_ne (fun e=>hr (dg_inj (by omega) (by omega) e))]
    ·rw [if_neg (fun e=>hs (by rw [e])),TabO.get_ne (fun e=>hs (dg_inj (by omega) (by omega) e))]
   ·rw [if_neg (fun e=>hq (by rw [e]))];simp only;rw [BigO.get_ne (fun e=>hq (dg_inj (by omega) (by omega) e))]
  ·rw [HT.get_hi _ hm,HT.get_hi t hm,if_neg (by omega)]
 ·rw [HT.set_hi _ hn]
  by_cases hm:m≤4095
  ·rw [HT.get_lo _ hm,HT.get_lo t hm,if_neg (by omega)]
  ·rw [HT.get_hi _ hm,HT.get_hi t hm,Tr.get_set]
   by_cases h:m=n
   ·rw [if_pos h,if_pos (by omega)]
   ·rw [if_neg h,if_neg (by omega)]
theorem HT.get_set_ne (t:HT) (n m:Nat) (x:Obj) (h:m≠n):(t.set n x).get m=t.get m:=by rw [HT.get_set,if_neg h]
attribute [irreducible] TM.get TM.set HT.get HT.set
structure Heap where
 objs:HT
 size:Nat
 low:Nat
def Heap.get (h:Heap) (b:Nat):Option Obj:=h.objs.get b
def Heap.put (h:Heap) (b:Nat) (o:Obj):Heap:=⟨h.objs.set b o,h.size,min h.low b⟩
def Heap.push (h:Heap) (o:Obj):Heap:=⟨h.objs.set h.size o,h.size+1,h.low⟩
def Heap.kill (h:Heap):List Nat→Heap
 | []=>h
 | b::r=>if b<h.size then (h.put b .dead).kill r else h.kill r
def Heap.cells (h:Heap) (b:Nat):Option (List V) :=
 match h.get b with
 | some (.cells cs _)=>some cs
 | _=>none
def Heap.rd (h:Heap) (b o:Nat):Option V :=
 match h.get b with
 | some (.cells cs _)=>cs[o]?
 | _=>none
def Heap.rds (h:Heap) (b o n:Nat):Option (List V) :=
 match h.get b with
 | some (.cells cs _)=>if o+n≤cs.length then some ((cs.drop o).take n) else none
 | _=>none
def splice {α:Type}:List α→Nat→List α→List α
 | cs,_,[]=>cs
 | cs,o,v::vs=>splice (cs.set o v) (o+1) vs
def V.one:V→Bool
 | .agg _ | .tuple _=>false
 | _=>true
def Heap.wr (h:Heap) (b o:Nat) (vs:List V):Option Heap :=
 match h.get b with
 | some (.cells cs (.tip S fz ty)) =>
  if fz≤o∧o+vs.length≤cs.length∧vs.all V.one=true then some ((h.kill S).put b (.cells (splice cs o vs) (.tip [] fz ty))) else none
 | _=>none
/-! ### Comparing -/
def beqL:List Nat→List Nat→Bool
 | [],[]=>true
 | a::x,b::y=>a == b && beqL x y
 | _,_=>false
theorem beqL_iff:∀ (x y:List Nat),beqL x y=true↔x=y
 | [],[]=>by simp [beqL]
 | [],_::_=>by simp [beqL]
 | _::_,[]=>by simp [beqL]
 | a::x,b::y=>by simp [beqL,beqL_iff x y]
def lessL:List Nat→List Nat→Bool
 | _,[]=>false
 | [],_::_=>true
 | a::x,b::y=>decide (a<b) || (a == b && lessL x y)
mutual
def V.beq:V→V→Bool
 | .bool a,.bool b=>a == b
 | .int k a,.int k' b=>decide (k=k') && a == b
 | .str a,.str b=>beqL a b
 | .ptr a,.ptr b=>decide (a=b)
 | .slice a l c,.slice a' l' c'=>decide (a=a') && l == l' && c == c'
 | .oslice a b l c z,.oslice a' b' l' c' z'=>a == a' && b == b' && l == l' && c == c' && z == z'
 | .map a,.map b=>decide (a=b)
 | .func f x y,.func f' x' y'=>decide (f=f') && V.beqs x x' && V.beqs y y'
 | .nilFunc,.nilFunc=>true
 | .iface t v,.iface t' v'=>t == t' && V.beq v v'
 | .nilIface,.nilIface=>true
 | .agg x,.agg y=>V.beqs x y
 | .tuple x,.tuple y=>V.beqs x y
 | .yld a,.yld b=>a == b
 | _,_=>false
def V.beqs:List V→List V→Bool
 | [],[]=>true
 | a::x,b::y=>V.beq a b && V.beqs x y
 | _,_=>false
end
mutual
theorem V.beq_eq:∀ (x y:V),V.beq x y=true→x=y
 | .bool a,y,h=>by cases y <;> simp_all [V.beq]
 | .int k a,y,h=>by cases y <;> simp_all [V.beq]
 | .str a,y,h=>by cases y <;> simp_all [V.beq,beqL_iff]
 | .ptr a,y,h=>by cases y <;> simp_all [V.beq]
 | .slice a l c,y,h=>by cases y <;> simp_all [V.beq]
 | .oslice a b l c z,y,h=>by cases y <;> simp_all [V.beq]
 | .map a,y,h=>by cases y <;> simp_all [V.beq]
 | .func f x z,y,h=>by
  cases y <;> simp only [V.beq,Bool.and_eq_true,decide_eq_true_eq] at h <;> try (cases h;done)
  rename_i f' x' z'
  rw [h.1.1,V.beqs_eq _ _ h.1.2,V.beqs_eq _ _ h.2]
 | .nilFunc,y,h=>by cases y <;> simp_all [V.beq]
 | .iface t v,y,h=>by
  cases y <;> simp only [V.beq,Bool.and_eq_true,beq_iff_eq] at h <;> try (cases h;done)
  rw [h.1,V.beq_eq _ _ h.2]
 | .nilIface,y,h=>by cases y <;> simp_all [V.beq]
 | .agg x,y,h=>by
  cases y <;> simp only [V.beq] at h <;> try (cases h;done)
  rw [V.beqs_eq _ _ h]
 | .tuple x,y,h=>by
  cases y <;> simp only [V.beq] at h <;> try (cases h;done)
  rw [V.beqs_eq _ _ h]
 | .yld a,y,h=>by cases y <;> simp_all [V.beq]
theorem V.beqs_eq:∀ (x y:List V),V.beqs x y=true→x=y
 | [],[],_=>rfl
 | [],_::_,h=>by simp [V.beqs] at h
 | _::_,[],h=>by simp [V.beqs] at h
 | a::x,b::y,h=>by
  simp only [V.beqs,Bool.and_eq_true] at h
  rw [V.beq_eq a b h.1,V.beqs_eq x y h.2]
end
theorem beqL_refl (x:List Nat):beqL x x=true:=(beqL_iff x x).2 rfl
mutual
theorem V.beq_refl:∀ x:V,V.beq x x=true
 | .bool a=>by simp [V.beq]
 | .int k a=>by simp [V.beq]
 | .str a=>by simp [V.beq,beqL_refl]
 | .ptr a=>by simp [V.beq]
 | .slice a l c=>by simp [V.beq]
 | .oslice a b l c z=>by simp [V.beq]
 | .map a=>by simp [V.beq]
 | .func f x z=>by simp [V.beq,V.beqs_refl x,V.beqs_refl z]
 | .nilFunc=>rfl
 | .iface t v=>by simp [V.beq,V.beq_refl v]
 | .nilIface=>rfl
 | .agg x=>by simp [V.beq,V.beqs_refl x]
 | .tuple x=>by simp [V.beq,V.beqs_refl x]
 | .yld a=>by simp [V.beq]
theorem V.beqs_refl:∀ x:List V,V.beqs x x=true
 | []=>rfl
 | a::x=>by simp [V.beqs,V.beq_refl a,V.beqs_refl x]
end
/-! ### Are a value's addresses all below n? -/
mutual
def V.scopd (n:Nat):V→Bool
 | .ptr (some (b,_))=>decide (b<n)
 | .slice (some (b,_)) _ _=>decide (b<n)
 | .oslice b _ _ _ _=>decide (b<n)
 | .map (some b)=>decide (b<n)
 | .func _ x y=>V.scopeds n x && V.scopeds n y
 | .iface _ v=>V.scopd n v
 | .agg x=>V.scopeds n x
 | .tuple x=>V.scopeds n x
 | .yld b=>decide (b<n)
 | _=>true
def V.scopeds (n:Nat):List V→Bool
 | []=>true
 | a::x=>V.scopd n a && V.scopeds n x
end
end
end Abs
end Go.Proofs.YthgcjbniipfnbaaGreatDoor
namespace Go.Proofs.YthgcjbniipfnbaaGreatDoor
namespace Abs
set_option linter.unusedVariables false
noncomputable section
inductive Res where
 | tmp (t:Nat)
 | cell (t:Nat) (n:Option Nat)
structure AFunc where
 nparams:Nat
 results:List Res
 body:AC
def ev (tm:TM):Opd→Option V
 | .t i=>tm.get i
 | .c v=>some v
def evs (tm:TM):List Opd→Option (List V)
 | []=>some []
 | x::r=>match ev tm x,evs tm r with
  | some v,some vs=>some (v::vs)
  | _,_=>none
def evo (tm:TM):Option Opd→Option (Option V)
 | none=>some none
 | some x=>match ev tm x with
  | some v=>some (some v)
  | none=>none
def V.cellsOf:V→List V
 | .agg vs=>vs
 | v=>[v]
def undefV:V:=.tuple []
/-! ### What single operations come to -/
def fillV (cells:List V):List (Nat × Nat × V)→Option (List V)
 | []=>some cells
 | (off,size,v)::r=>if v.cellsOf.length=size∧off+size≤cells.length then fillV (splice cells off v.cellsOf) r else none
def evParts (tm:TM):List (Nat × Nat × Opd)→Option (List (Nat × Nat × V))
 | []=>some []
 | (o,s,x)::r=>match ev tm x,evParts tm r with
  | some v,some vs=>some ((o,s,v)::vs)
  | _,_=>none
def aggOf (n:Option Nat) (cs:List V) (off:Nat):Option V :=
 match n with
 | none=>cs[off]?
 | some n=>if off+n≤cs.length then some (.agg ((cs.drop off).take n)) else none
def loadA (h:Heap) (n:Option Nat) (v:V):Option V :=
 match v with
 | .ptr (some (b,o)) =>
  match n with
  | none=>h.rd b o
  | some n=>match h.rds b o n with
   | some cs=>some (.agg cs)
   | none=>none
 | _=>none
def storeA (h:Heap) (n:Nat) (a x:V):Option Heap :=
 match a with
 | .ptr (some (b,o))=>if x.cellsOf.length=n then h.wr b o x.cellsOf else none
 | _=>none
def shiftA (op:BinOp) (k:IntKind) (x y:Int):Option V :=
 if y<0 then none else
 match op with
 | .shl=>some (.int k (k.wrap (x*2 ^ (min y.toNat k.bits))))
 | .shr=>some (.int k (x.fdiv (2 ^ (min y.toNat k.bits))))
 | _=>none
def binA (op:BinOp) (x y:V):Option V :=
 match x,y with
 | .int k a,.int k' b =>
  match op with
  | .shl | .shr=>shiftA op k a b
  | .add=>if k=k' then some (.int k (k.wrap (a+b))) else none
  | .sub=>if k=k' then some (.int k (k.wrap (a-b))) else none
  | .mul=>if k=k' then some (.int k (k.wrap (a*b))) else none
  | .quo=>if k=k'∧b≠0 then some (.int k (k.wrap (a.tdiv b))) else none
  | .rem=>if k=k'∧b≠0 then some (.int k (a.tmod b)) else none
  | .and=>if k=k' then some (.int k (k.wrap (BitVec.ofInt k.bits a &&& BitVec.ofInt k.bits b).toNat)) else none
  | .or=>if k=k' then some (.int k (k.wrap (BitVec.ofInt k.bits a ||| BitVec.ofInt k.bits b).toNat)) else none
  | .xor=>if k=k' then some (.int k (k.wrap (BitVec.ofInt k.bits a ^^^ BitVec.ofInt k.bits b).toNat)) else none
  | .andNot=>if k=k' then some (.int k (k.wrap (BitVec.ofInt k.bits a &&& ~~~ BitVec.ofInt k.bits b).toNat)) else none
  | .eql=>if k=k' then some (.bool (a == b)) else none
  | .neq=>if k=k' then some (.bool (a != b)) else none
  | .lss=>if k=k' then some (.bool (decide (a<b))) else none
  | .leq=>if k=k' then some (.bool (decide (a≤b))) else none
  | .gtr=>if k=k' then some (.bool (decide (a > b))) else none
  | .geq=>if k=k' then some (.bool (decide (a≥b))) else none
 | .str a,.str b =>
  match op with
  | .add=>if a.length+b.length≤4611686018427387904 then some (.str (a++b)) else none
  | .eql=>some (.bool (beqL a b))
  | .neq=>some (.bool (!beqL a b))
  | .lss=>some (.bool (lessL a b))
  | .leq=>some (.bool (lessL a b || beqL a b))
  | .gtr=>some (.bool (!(lessL a b || beqL a b)))
  | .geq=>some (.bool (!lessL a b))
  | _=>none
 | _,_=>none
def flatEq (k:FK) (x y:V):Option Bool :=
 match k,x,y with
 | .bool,.bool a,.bool b=>some (a == b)
 | .int,.int k a,.int k' b=>if k=k' then some (a == b) else none
 | .str,.str a,.str b=>some (beqL a b)
 | .ptr,.ptr none,.ptr b=>some b.isNone
 | .ptr,.ptr (some _),.ptr none=>some false
 | .ptr,.ptr (some (b,o)),.ptr (some (b',o'))=>if b=b' then some (o == o') else none
 | .slice,.slice none _ _,.slice b _ _=>some b.isNone
 | .slice,.slice (some _) _ _,.slice none _ _=>some false
 | .slice,.slice none _ _,.oslice ..=>some false
 | .slice,.oslice ..,.slice none _ _=>some false
 | .map,.map none,.map b=>some b.isNone
 | .map,.map (some _),.map none=>some false
 | .func,.nilFunc,.nilFunc=>some true
 | .func,.nilFunc,.func ..=>some false
 | .func,.func ..,.nilFunc=>some false
 | _,_,_=>none
mutual
def eqA:EqD→V→V→Option Bool
 | .flat k,x,y=>flatEq k x y
 | .struct fs,.agg xs,.agg ys=>eqAs fs xs ys
 | .struct _,_,_=>none
def eqAs:List (Nat × Option Nat × EqD)→List V→List V→Option Bool
 | [],_,_=>some true
 | (off,n,d)::r,xs,ys =>
  match aggOf n xs off,aggOf n ys off with
  | some x,some y =>
   match eqA d x y with
   | some true=>eqAs r xs ys
   | some false=>some false
   | none=>none
  | _,_=>none
end
def intV:V→Option Int
 | .int _ n=>some n
 | _=>none
def boundsA (len cap:Nat) (lo hi:Option V):Option (Nat × Nat) :=
 let h:Option Nat:=match hi with
  | none=>some len
  | some v=>match intV v with
   | some i=>if 0≤i∧i≤cap then some i.toNat else none
   | none=>none
 match h with
 | none=>none
 | some h =>
  match lo with
  | none=>some (0,h)
  | some v=>match intV v with
   | some i=>if 0≤i∧i≤h then some (i.toNat,h) else none
   | none=>none
def sliceSlA (sz:Nat) (x:V) (lo hi mx:Option V):Option V :=
 match x with
 | .slice a len cap =>
  match mx with
  | none=>match boundsA len cap lo hi with
   | some (l,h)=>some (.slice (a.map fun p=>(p.1,p.2+l*sz)) (h-l) (cap-l))
   | none=>none
  | some m=>match intV m with
   | some m=>if 0≤m∧m≤cap∧hi.isSome=true then
     match boundsA len m.toNat lo hi with
     | some (l,h)=>some (.slice (a.map fun p=>(p.1,p.2+l*sz)) (h-l) (m.toNat-l))
     | none=>none
    else none
   | none=>none
 | .oslice b o len cap z =>
  if z=sz∨z=0 then
  match mx with
  | none=>match boundsA len cap lo hi with
   | some (l,h)=>some (.oslice b (o+l*sz) (h-l) (cap-l) z)
   | none=>none
  | some m=>match intV m with
   | some m=>if 0≤m∧m≤cap∧hi.isSome=true then
     match boundsA len m.toNat lo hi with
     | some (l,h)=>some (.slice (some (b,o+l*sz)) (h-l) (m.toNat-l))
     | none=>none
    else none
   | none=>none
  else none
 | _=>none
def sliceStrA (x:V) (lo hi:Option V):Option V :=
 match x with
 | .str s=>match boundsA s.length s.length lo hi with
  | some (l,h)=>some (.str ((s.drop l).take (h-l)))
  | none=>none
 | _=>none
def sliceArrA (n sz:Nat) (x:V) (lo hi:Option V):Option V :=
 match x with
 | .ptr (some (b,o))=>match boundsA n n lo hi with
  | some (l,h)=>some (.slice (some (b,o+l*sz)) (h-l) (n-l))
  | none=>none
 | _=>none
def slCells (h:Heap) (sz n:Nat):V→Option (List V)
 | .slice none _ _=>some []
 | .slice (some (b,o)) _ _=>if n=0 then some [] else h.rds b o (n*sz)
 | .oslice b o _ _ _=>if n=0 then some [] else h.rds b o (n*sz)
 | _=>none
def slLen:V→Option Nat
 | .slice _ n _=>some n
 | .oslice _ _ n _ _=>some n
 | _=>none
def idxSlA (sz:Nat) (x i:V):Option V :=
 match intV i with
 | some i =>
  match x with
  | .slice (some (b,o)) len _=>if 0≤i∧i<len then some (.ptr (some (b,o+i.toNat*sz))) else none
  | .oslice b o len _ _=>if 0≤i∧i<len then some (.ptr (some (b,o+i.toNat*sz))) else none
  | _=>none
 | none=>none
def idxArrA (n sz:Nat) (x i:V):Option V :=
 match intV i,x with
 | some i,.ptr (some (b,o))=>if 0≤i∧i<n then some (.ptr (some (b,o+i.toNat*sz))) else none
 | _,_=>none
def atStrA (x i:V):Option V :=
 match x,intV i with
 | .str s,some i=>if 0≤i then match s[i.toNat]? with
   | some b=>some (.int .u8 b)
   | none=>none
  else none
 | _,_=>none
def atArrA (n sz:Nat) (agg:Option Nat) (x i:V):Option V :=
 match x,intV i with
 | .agg cs,some i=>if 0≤i∧i<n then aggOf agg cs (i.toNat*sz) else none
 | _,_=>none
def roomy (need bytes:Nat):Bool:=decide ((2*need+2000)*bytes≤281474976710656)
def appendCore (h:Heap) (sz bytes:Nat) (tyK:Option Nat) (x:V) (n:Nat) (items:List V):Option (V × Heap) :=
 match x with
 | .slice none _ _ =>
  if n=0 then some (.slice none 0 0,h)
  else if roomy n bytes=true then some (.oslice h.size 0 n n sz,h.push (.cells items (.tip [] 0 tyK))) else none
 | .slice (some (b,o)) len cap =>
  if len+n≤cap then
   if n=0 then some (.slice (some (b,o)) len cap,h)
   else match h.wr b (o+len*sz) items with
    | some h'=>some (.slice (some (b,o)) (len+n) cap,h')
    | none=>none
  else if roomy (len+n) bytes=true then
   match slCells h sz len x with
   | some old=>some (.oslice h.size 0 (len+n) (len+n) sz,h.push (.cells (old++items) (.tip [] 0 tyK)))
   | none=>none
  else none
 | .oslice b o len cap z =>
  if len+n≤cap then
   if n=0 then some (.oslice b o len cap z,h)
   else match h.wr b (o+len*sz) items with
    | some h'=>some (.oslice b o (len+n) cap z,h')
    | none=>none
  else if z=sz∧len≠0∧roomy (len+n) bytes=true then
   match h.get b with
   | some (.cells cs (.tip S fz ty)) =>
    if o+len*sz=cs.length∧fz≤cs.length then
     some (.oslice h.size 0 (len+n) (len+n) sz,(h.put b (.cells cs .sup)).push (.cells (cs.drop o++items) (.tip (b::S) (fz-o) (joinTy tyK ty o))))
    else none
   | _=>none
  else none
 | _=>none
def appendA (h:Heap) (sz bytes:Nat) (tyK:Option Nat) (x y:V):Option (V × Heap) :=
 match slLen y with
 | some n=>match slCells h sz n y with
  | some items=>if sz≠0∧bytes≠0∧items.length=n*sz∧items.all V.one=true then appendCore h sz bytes tyK x n items else none
  | none=>none
 | none=>none
def bytesV (s:List Nat):List V:=s.map fun b=>.int .u8 (Int.ofNat b)
def appendSA (h:Heap) (tyK:Option Nat) (x y:V):Option (V × Heap) :=
 match y with
 | .str s=>appendCore h 1 1 tyK x s.length (bytesV s)
 | _=>none
def copyA (h:Heap) (sz:Nat) (x y:V):Option (V × Heap) :=
 match slLen x,slLen y with
 | some n,some m =>
  match slCells h sz (min m n) y with
  | some items =>
   match x with
   | .slice (some (b,o)) _ _=>if min m n=0 then some (.int .i64 0,h) else match h.wr b o items with
    | some h'=>some (.int .i64 (min m n:Nat),h')
    | none=>none
   | .oslice b o _ _ _=>if min m n=0 then some (.int .i64 0,h) else match h.wr b o items with
    | some h'=>some (.int .i64 (min m n:Nat),h')
    | none=>none
   | .slice none _ _=>some (.int .i64 (min m n:Nat),h)
   | _=>none
  | none=>none
 | _,_=>none
def reps:Nat→List V→List V
 | 0,_=>[]
 | n+1,z=>z++reps n z
def clearA (h:Heap) (sz:Nat) (zero:List V) (x:V):Option (V × Heap) :=
 match slLen x with
 | none=>none
 | some 0=>some (.tuple [],h)
 | some n =>
  match x with
  | .slice (some (b,o)) _ _=>match h.wr b o (reps n zero) with
   | some h'=>some (.tuple [],h')
   | none=>none
  | .oslice b o _ _ _=>match h.wr b o (reps n zero) with
   | some h'=>some (.tuple [],h')
   | none=>none
  | _=>none
def makeSlA (h:Heap) (sz bytes:Nat) (zero:List V) (l c:V):Option (V × Heap) :=
 match l,c with
 | .int _ l,.int _ c =>
  if 0≤l∧l≤c∧c≤1099511627776∧c*bytes≤140737488355328 then
   some (.slice (some (h.size,0)) l.toNat c.toNat,h.push (.cells (reps c.toNat zero) (.tip [] 0 none)))
  else none
 | _,_=>none
def u8s:List V→Option (List Nat)
 | []=>some []
 | .int .u8 n::r=>match u8s r with
  | some l=>some ((n.toNat % 256)::l)
  | none=>none
 | _::_=>none
def sliceDataA:V→Option V
 | .slice none _ _=>some (.ptr none)
 | .slice (some p) _ cap=>if cap=0 then none else some (.ptr (some p))
 | .oslice b o _ cap _=>if cap=0 then none else some (.ptr (some (b,o)))
 | _=>none
def unsStrA (h:Heap) (bt:Nat) (x n:V):Option (V × Heap) :=
 match n with
 | .int .i64 n =>
  match x with
  | .ptr none=>if n=0 then some (.str [],h) else none
  | .ptr (some (b,o)) =>
   if n=0 then some (.str [],h) else
   match h.get b with
   | some (.cells cs (.tip S fz ty)) =>
    if 0<n∧n.toNat≤cs.length∧o=0∧ty=some bt∧n≤9223372036854775807 then
     match u8s (cs.take n.toNat) with
     | some l=>some (.str l,h.put b (.cells cs (.tip S (max fz n.toNat) ty)))
     | none=>none
    else none
   | _=>none
  | _=>none
 | _=>none
def unsPA (h:Heap):V→Bool
 | .ptr (some (b,o))=>match h.get b with
  | some (.cells cs (.tip _ _ _))=>decide (o<cs.length)
  | _=>false
 | _=>false
def ofUnsA (h:Heap) (u n:Nat):V→Bool
 | .ptr (some (b,o))=>match h.get b with
  | some (.cells cs (.tip _ _ ty))=>decide (o=0∧ty=some u∧n≤cs.length)
  | _=>false
 | _=>false
def toStrA (h:Heap) (x:V):Option V :=
 match slLen x with
 | some n=>match slCells h 1 n x with
  | some cs=>match u8s cs with
   | some l=>some (.str l)
   | none=>none
  | none=>none
 | none=>none
def findM (k:V):List (V × V)→Option V
 | []=>none
 | (a,v)::r=>if V.beq k a then some v else findM k r
def updM (k v:V):List (V × V)→List (V × V)
 | []=>[(k,v)]
 | (a,w)::r=>if V.beq k a then (k,v)::r else (a,w)::updM k v r
def delM (k:V):List (V × V)→List (V × V)
 | []=>[]
 | (a,w)::r=>if V.beq k a then r else (a,w)::delM k r
def delB (k:V):List (V × V)→List Nat→List Nat
 | (a,_)::r,b::s=>if V.beq k a then s else b::delB k r s
 | _,s=>s
def bornM (k:V):List (V × V)→List Nat→Option Nat
 | (a,_)::r,b::s=>if V.beq k a then some b else bornM k r s
 | _,_=>none
def setB (n:Nat) (v:V):List (V × V)→List Nat→Option (List (V × V))
 | (a,w)::r,b::s=>if b=n then some ((a,v)::r) else match setB n v r s with
  | some l=>some ((a,w)::l)
  | none=>none
 | _,_=>none
def mapOf (h:Heap):V→Option (List (V × V))
 | .map none=>some []
 | .map (some b)=>match h.get b with
  | some (.map es _ _)=>some es
  | _=>none
 | _=>none
def sameKind (kk:FK) (x y:V):Bool :=
 match kk,x,y with
 | .int,.int k _,.int k' _=>decide (k=k')
 | .str,.str _,.str _=>true
 | .bool,.bool _,.bool _=>true
 | _,_,_=>false
def keysOk (kk:FK) (k:V) (es:List (V × V)):Bool:=sameKind kk k k && es.all fun e=>sameKind kk k e.1
def lookV (zero:V):Option V→V × Bool
 | some v=>(v,true)
 | none=>(zero,false)
def lookupA (h:Heap) (kk:FK) (zero:V) (ok:Bool) (m k:V):Option V :=
 match mapOf h m with
 | some es =>
  if keysOk kk k es=true then
   some (if ok then .tuple [(lookV zero (findM k es)).1,.bool (lookV zero (findM k es)).2] else (lookV zero (findM k es)).1)
  else none
 | none=>none
def mapUpdA (h:Heap) (kk:FK) (m k v:V):Option Heap :=
 match m with
 | .map (some b)=>match h.get b with
  | some (.map es bs cl)=>if keysOk kk k es=true then some (h.put b (match findM k es with
   | some _=>.map (updM k v es) bs cl
   | none=>.map (updM k v es) (bs++[cl]) (cl+1))) else none
  | _=>none
 | _=>none
def mapDelA (h:Heap) (kk:FK) (m k:V):Option Heap :=
 match m with
 | .map none=>some h
 | .map (some b)=>match h.get b with
  | some (.map es bs cl)=>if keysOk kk k es=true then some (h.put b (.map (delM k es) (delB k es bs) cl)) else none
  | _=>none
 | _=>none
def mapEntA (h:Heap) (kk:FK) (zero m k:V):Option (V × Heap) :=
 match m with
 | .map (some b)=>match h.get b with
  | some (.map es bs cl)=>if keysOk kk k es=true then match findM k es,bornM k es bs with
    | some v,some n=>some (.tuple [v,.int .i64 n],h.put b (.map (updM k v es) bs cl))
    | none,_=>some (.tuple [zero,.int .i64 cl],h.put b (.map (updM k zero es) (bs++[cl]) (cl+1)))
    | _,_=>none
   else none
  | _=>none
 | _=>none
def entStA (h:Heap) (m s x:V):Option Heap :=
 match m,s with
 | .map (some b),.int _ n=>match h.get b with
  | some (.map es bs cl)=>if 0≤n then match setB n.toNat x es bs with
    | some es'=>some (h.put b (.map es' bs cl))
    | none=>none
   else none
  | _=>none
 | _,_=>none
def methA (t:Nat):List (Nat × Nat)→Option Nat
 | []=>none
 | (u,f)::r=>if u=t then some f else methA t r
def methV (t:Nat):List (Nat × Nat × Option Nat)→Option (Nat × Option Nat)
 | []=>none
 | (u,p)::r=>if u=t then some p else methV t r
def minNA (mx:Bool):Int→List V→Option Int
 | a,[]=>some a
 | a,.int _ b::r=>minNA mx (if mx then (if b > a then b else a) else (if b<a then b else a)) r
 | _,_=>none
def memN:List Nat→Nat→Bool
 | [],_=>false
 | a::r,b=>Nat.beq a b || memN r b
def lastN:List Nat→Option Nat
 | []=>none
 | [a]=>some a
 | _::b::r=>lastN (b::r)
def leftA:List (V × V)→List Nat→List Nat→List ((V × V) × Nat)
 | p::r,b::bs,seen=>bif memN seen b then leftA r bs seen else (p,b)::leftA r bs seen
 | _,_,_=>[]
def bornA:List (V × V)→List Nat→Nat→Option (V × V)
 | p::r,b::bs,n=>bif Nat.beq b n then some p else bornA r bs n
 | _,_,_=>none
def allLt:List Nat→Nat→Bool
 | [],_=>true
 | b::r,s=>Nat.blt b s && allLt r s
def nextA (h:Heap) (r:Nat):Option (V × Heap):=match h.get r with
 | some (.iter none _ _ _)=>some (.tuple [.bool false],h)
 | some (.iter (some b) s seen c)=>match h.get b with
  | some (.map es bs cl)=>match allLt bs s && Nat.ble s c with
   | true=>match leftA es bs seen with
    | []=>some (.tuple [.bool false],h)
    | [((k,v),n)]=>some (.tuple [.bool true,k,v],h.put r (.iter (some b) s (seen++[n]) cl))
    | _=>none
   | false=>none
  | _=>none
 | _=>none
def entA (h:Heap) (r:Nat):Option (V × Heap):=match h.get r with
 | some (.iter (some b) _ seen c)=>match lastN seen,h.get b with
  | some n,some (.map es bs cl)=>match Nat.beq cl c with
   | true=>match bornA es bs n with
    | some (k,v)=>some (.tuple [k,v],h)
    | none=>none
   | false=>none
  | _,_=>none
 | _=>none
def opK (k:K):TM→Heap→Option (V × Heap) :=
 match k with
 | .mv x=>fun tm h=>match ev tm x with
  | some v=>some (v,h)
  | none=>none
 | .pick c a b=>fun tm h=>match ev tm c with
  | some (.bool t)=>match ev tm (if t then a else b) with
   | some v=>some (v,h)
   | none=>none
  | _=>none
 | .alloc ty zero=>fun tm h=>some (.ptr (some (h.size,0)),h.push (.cells zero (.tip [] 0 ty)))
 | .bad=>fun tm h=>none
 | .sliceData x=>fun tm h=>match ev tm x with
  | some x=>match sliceDataA x with
   | some v=>some (v,h)
   | none=>none
  | none=>none
 | .unsStr bt x n=>fun tm h=>match ev tm x,ev tm n with
  | some x,some n=>unsStrA h bt x n
  | _,_=>none
 | .unsP x=>fun tm h=>match ev tm x with
  | some x=>if unsPA h x=true then some (x,h) else none
  | none=>none
 | .ofUns u n x=>fun tm h=>match ev tm x with
  | some x=>if ofUnsA h u n x=true then some (x,h) else none
  | none=>none
 | .box x=>fun tm h=>match ev tm x with
  | some v=>some (.ptr (some (h.size,0)),h.push (.cells v.cellsOf (.tip [] 0 none)))
  | none=>none
 | .build zero parts=>fun tm h=>match evParts tm parts with
  | some ps=>match fillV zero ps with
   | some cs=>some (.agg cs,h)
   | none=>none
  | none=>none
 | .buildSl ty zero len parts=>fun tm h=>match evParts tm parts with
  | some ps=>match fillV zero ps with
   | some cs=>some (.slice (some (h.size,0)) len len,h.push (.cells cs (.tip [] 0 ty)))
   | none=>none
  | none=>none
 | .load n a=>fun tm h=>match ev tm a with
  | some a=>match loadA h n a with
   | some v=>some (v,h)
   | none=>none
  | none=>none
 | .store n a x=>fun tm h=>match ev tm a,ev tm x with
  | some a,some x=>match storeA h n a x with
   | some h'=>some (undefV,h')
   | none=>none
  | _,_=>none
 | .nilck x=>fun tm h=>match ev tm x with
  | some (.ptr (some p))=>some (.ptr (some p),h)
  | some (.func (.func f) a b)=>some (.func (.func f) a b,h)
  | _=>none
 | .bin op x y=>fun tm h=>match ev tm x,ev tm y with
  | some x,some y=>match binA op x y with
   | some v=>some (v,h)
   | none=>none
  | _,_=>none
 | .eq neg d x y=>fun tm h=>match ev tm x,ev tm y with
  | some x,some y=>match eqA d x y with
   | some b=>some (.bool (if neg then !b else b),h)
   | none=>none
  | _,_=>none
 | .not x=>fun tm h=>match ev tm x with
  | some (.bool b)=>some (.bool (!b),h)
  | _=>none
 | .neg x=>fun tm h=>match ev tm x with
  | some (.int k n)=>some (.int k (k.wrap (0-n)),h)
  | _=>none
 | .inv x=>fun tm h=>match ev tm x with
  | some (.int k n)=>some (.int k (k.wrap (BitVec.ofInt k.bits (if k.signed then -1 else k.max) ^^^ BitVec.ofInt k.bits n).toNat),h)
  | _=>none
 | .toInt k x=>fun tm h=>match ev tm x with
  | some (.int _ n)=>some (.int k (k.wrap n),h)
  | _=>none
 | .same x=>fun tm h=>match ev tm x with
  | some (.str s)=>some (.str s,h)
  | _=>none
 | .toStr x=>fun tm h=>match ev tm x with
  | some x=>match toStrA h x with
   | some v=>some (v,h)
   | none=>none
  | none=>none
 | .toBytes x=>fun tm h=>match ev tm x with
  | some (.str s)=>some (.oslice h.size 0 s.length s.length 0,h.push (.cells (bytesV s) (.tip [] 0 none)))
  | _=>none
 | .sliceStr x lo hi=>fun tm h=>match ev tm x,evo tm lo,evo tm hi with
  | some x,some lo,some hi=>match sliceStrA x lo hi with
   | some v=>some (v,h)
   | none=>none
  | _,_,_=>none
 | .sliceSl sz x lo hi mx=>fun tm h=>match ev tm x,evo tm lo,evo tm hi,evo tm mx with
  | some x,some lo,some hi,some mx=>match sliceSlA sz x lo hi mx with
   | some v=>some (v,h)
   | none=>none
  | _,_,_,_=>none
 | .sliceArr n sz x lo hi=>fun tm h=>match ev tm x,evo tm lo,evo tm hi with
  | some x,some lo,some hi=>match sliceArrA n sz x lo hi with
   | some v=>some (v,h)
   | none=>none
  | _,_,_=>none
 | .fieldAddr off x=>fun tm h=>match ev tm x with
  | some (.ptr (some (b,o)))=>some (.ptr (some (b,o+off)),h)
  | _=>none
 | .field off n x=>fun tm h=>match ev tm x with
  | some (.agg cs)=>match aggOf n cs off with
   | some v=>some (v,h)
   | none=>none
  | _=>none
 | .idxSl sz x i=>fun tm h=>match ev tm x,ev tm i with
  | some x,some i=>match idxSlA sz x i with
   | some v=>some (v,h)
   | none=>none
  | _,_=>none
 | .idxArr n sz x i=>fun tm h=>match ev tm x,ev tm i with
  | some x,some i=>match idxArrA n sz x i with
   | some v=>some (v,h)
   | none=>none
  | _,_=>none
 | .atStr x i=>fun tm h=>match ev tm x,ev tm i with
  | some x,some i=>match atStrA x i with
   | some v=>some (v,h)
   | none=>none
  | _,_=>none
 | .atArr n sz g x i=>fun tm h=>match ev tm x,ev tm i with
  | some x,some i=>match atArrA n sz g x i with
   | some v=>some (v,h)
   | none=>none
  | _,_=>none
 | .lenStr x=>fun tm h=>match ev tm x with
  | some (.str s)=>some (.int .i64 s.length,h)
  | _=>none
 | .lenSl x=>fun tm h=>match ev tm x with
  | some x=>match slLen x with
   | some n=>some (.int .i64 n,h)
   | none=>none
  | none=>none
 | .min2 x y=>fun tm h=>match ev tm x,ev tm y with
  | some (.int k a),some (.int _ b)=>some (.int k (if b<a then b else a),h)
  | _,_=>none
 | .max2 x y=>fun tm h=>match ev tm x,ev tm y with
  | some (.int k a),some (.int _ b)=>some (.int k (if b > a then b else a),h)
  | _,_=>none
 | .append sz bytes ty x y=>fun tm h=>match ev tm x,ev tm y with
  | some x,some y=>appendA h sz bytes ty x y
  | _,_=>none
 | .appendS ty x y=>fun tm h=>match ev tm x,ev tm y with
  | some x,some y=>appendSA h ty x y
  | _,_=>none
 | .copy sz x y=>fun tm h=>match ev tm x,ev tm y with
  | some x,some y=>copyA h sz x y
  | _,_=>none
 | .clear sz zero x=>fun tm h=>match ev tm x with
  | some x=>clearA h sz zero x
  | none=>none
 | .makeSl sz bytes zero l c=>fun tm h=>match ev tm l,ev tm c with
  | some l,some c=>makeSlA h sz bytes zero l c
  | _,_=>none
 | .makeMap=>fun tm h=>some (.map (some h.size),h.push (.map [] [] 0))
 | .lookup kk zero ok m k=>fun tm h=>match ev tm m,ev tm k with
  | some m,some k=>match lookupA h kk zero ok m k with
   | some v=>some (v,h)
   | none=>none
  | _,_=>none
 | .mapUpd kk m k v=>fun tm h=>match ev tm m,ev tm k,ev tm v with
  | some m,some k,some v=>match mapUpdA h kk m k v with
   | some h'=>some (undefV,h')
   | none=>none
  | _,_,_=>none
 | .mapDel kk m k=>fun tm h=>match ev tm m,ev tm k with
  | some m,some k=>match mapDelA h kk m k with
   | some h'=>some (.tuple [],h')
   | none=>none
  | _,_=>none
 | .rangeM x=>fun tm h=>match ev tm x with
  | some (.map none)=>some (.ptr (some (h.size,0)),h.push (.iter none 0 [] 0))
  | some (.map (some b))=>match h.get b with
   | some (.map _ _ cl)=>some (.ptr (some (h.size,0)),h.push (.iter (some b) cl [] cl))
   | _=>none
  | _=>none
 | .nextM x=>fun tm h=>match ev tm x with
  | some (.ptr (some (r,0)))=>nextA h r
  | _=>none
 | .entM x=>fun tm h=>match ev tm x with
  | some (.ptr (some (r,0)))=>entA h r
  | _=>none
 | .mapLen m=>fun tm h=>match ev tm m with
  | some m=>match mapOf h m with
   | some es=>some (.int .i64 es.length,h)
   | none=>none
  | none=>none
 | .mkFn fn first caps=>fun tm h=>match evs tm first,evs tm caps with
  | some a,some b=>some (.func fn a b,h)
  | _,_=>none
 | .extract i x=>fun tm h=>match ev tm x with
  | some (.tuple vs)=>match vs[i]? with
   | some v=>some (v,h)
   | none=>none
  | _=>none
 | .mkIface t x=>fun tm h=>match ev tm x with
  | some v=>some (.iface t v,h)
  | none=>none
 | .assertT t x=>fun tm h=>match ev tm x with
  | some (.iface t' v)=>if t'=t then some (v,h) else none
  | _=>none
 | .isNil neg x=>fun tm h=>match ev tm x with
  | some .nilIface=>some (.bool (!neg),h)
  | some (.iface _ _)=>some (.bool neg,h)
  | _=>none
 | .minN mx xs=>fun tm h=>match evs tm xs with
  | some (.int k a::r)=>match minNA mx a r with
   | some m=>some (.int k m,h)
   | none=>none
  | _=>none
 | .mapEnt kk zero m k=>fun tm h=>match ev tm m,ev tm k with
  | some m,some k=>mapEntA h kk zero m k
  | _,_=>none
 | .entSt m s x=>fun tm h=>match ev tm m,ev tm s,ev tm x with
  | some m,some s,some x=>match entStA h m s x with
   | some h'=>some (undefV,h')
   | none=>none
  | _,_,_=>none
 | .call _ _=>fun tm h=>none
 | .invoke _ _ _=>fun tm h=>none
 | .invokeV _ _ _ _=>fun tm h=>none
inductive Cal where
 | fn (f:Nat)
 | yl (b:Nat)
abbrev CallF:=Cal→List V→Heap→Option (V × Heap)
def opA (call:CallF) (k:K):TM→Heap→Option (V × Heap) :=
 match k with
 | .call f args=>fun tm h=>match ev tm f,evs tm args with
  | some (.func (.func f) first caps),some vs=>call (.fn f) (first++vs++caps) h
  | some (.yld b),some vs=>call (.yl b) vs h
  | _,_=>none
 | .invokeV tbl tbl2 x args=>fun tm h=>match ev tm x,evs tm args with
  | some (.iface t v),some vs=>match methA t tbl with
   | some f=>call (.fn f) (v::vs) h
   | none=>match methV t tbl2 with
    | some (f,g)=>match loadA h g v with
     | some u=>call (.fn f) (u::vs) h
     | none=>none
    | none=>none
  | _,_=>none
 | .invoke tbl x args=>fun tm h=>match ev tm x,evs tm args with
  | some (.iface t v),some vs=>match methA t tbl with
   | some f=>call (.fn f) (v::vs) h
   | none=>none
  | _,_=>none
 | k=>opK k
def wantedA (tm:TM):Option (Nat × Bool)→Option Bool
 | none=>some true
 | some (t,want)=>match tm.get t with
  | some (.bool b)=>some (b == want)
  | some (.tuple [])=>some false
  | _=>none
def TM.put (tm:TM) (dst:Option Nat) (v:V):TM :=
 match dst with
 | some d=>tm.set d v
 | none=>tm
def stepOp (call:CallF) (o:AOp) (tm:TM) (h:Heap):Option (TM × Heap) :=
 match wantedA tm o.guard with
 | some true=>match opA call o.k tm h with
  | some (v,h')=>some (TM.put tm o.dst v,h')
  | none=>none
 | some false=>some (TM.put tm o.dst undefV,h)
 | none=>none
def runOps (call:CallF):List AOp→TM→Heap→Option (TM × Heap)
 | [],tm,h=>some (tm,h)
 | o::r,tm,h=>match stepOp call o tm h with
  | some (tm',h')=>runOps call r tm' h'
  | none=>none
def K.isC:K→Bool
 | .store .. | .append .. | .appendS .. | .unsStr .. | .copy .. | .clear .. | .mapUpd .. | .mapDel .. | .call .. | .invoke .. | .invokeV .. | .mapEnt .. | .entSt .. | .rangeM .. | .nextM ..=>true
 | _=>false
def K.isAlloc:K→Bool
 | .alloc .. | .box .. | .buildSl .. | .makeSl .. | .makeMap | .toBytes ..=>true
 | _=>false
structure Log where
 o:AOp
 ran:Bool
 tm:TM
 h:Heap
 v:V
def sameObj:Option Obj→Option Obj→Bool
 | some (.cells a (.tip [] z ty)),some (.cells b (.tip [] z' ty'))=>V.beqs a b && z == z' && decide (ty=ty')
 | some (.map [] [] 0),some (.map [] [] 0)=>true
 | _,_=>false
def okLater (l:Log) (h':Heap):Bool :=
 if l.ran then
  if l.o.k.isAlloc then match opK l.o.k l.tm l.h with
   | some (_,h1)=>sameObj (h'.get l.h.size) (h1.get l.h.size)
   | none=>false
  else match opK l.o.k l.tm h' with
   | some (v,_)=>V.beq v l.v
   | none=>false
 else true
def okTail (l:Log) (p:Nat):List (DOp × Log)→Heap→Bool
 | [],hN=>okLater l hN
 | (d,l')::r,hN=>if d.o.k.isC then okLater l l'.h && (d.anc.contains p || okTail l p r hN) else okTail l p r hN
def okAll:Nat→List (DOp × Log)→Heap→Bool
 | _,[],_=>true
 | q,(d,l)::r,hN=>(d.o.k.isC || okTail l q r hN) && okAll (q+1) r hN
def traceDraw (call:CallF):List DOp→TM→Heap→Option (List (DOp × Log) × TM × Heap)
 | [],tm,h=>some ([],tm,h)
 | d::r,tm,h =>
  match wantedA tm d.o.guard with
  | some false=>match traceDraw call r (TM.put tm d.o.dst undefV) h with
   | some (tr,tm',h')=>some ((d,⟨d.o,false,tm,h,undefV⟩)::tr,tm',h')
   | none=>none
  | some true=>match opA call d.o.k tm h with
   | some (v,h2)=>match traceDraw call r (TM.put tm d.o.dst v) h2 with
    | some (tr,tm',h')=>some ((d,⟨d.o,true,tm,h,v⟩)::tr,tm',h')
    | none=>none
   | none=>none
  | none=>none
def runDraw (call:CallF) (l:List DOp) (tm:TM) (h:Heap):Option (TM × Heap) :=
 match traceDraw call l tm h with
 | some (tr,tm',h')=>if okAll 0 tr h' then some (tm',h') else none
 | none=>none
def DX:Nat:=1000000
def deferred (tm:TM):List V:=match tm.get DX with
 | some (.tuple l)=>l
 | _=>[]
def pushD (tm:TM) (x:V):TM:=tm.set DX (.tuple (x::deferred tm))
def pushMark (tm:TM) (b:Nat):TM:=pushD tm (.yld b)
def exOf:Option Ex→Ex
 | none=>.normal
 | some e=>e
abbrev LoopF:=AC→TM→Heap→Option (Ex × TM × Heap)
def execC (call:CallF) (loopk:LoopF):AC→TM→Heap→Option (Ex × TM × Heap)
 | .skip=>fun tm h=>some (.normal,tm,h)
 | .ops l=>fun tm h=>match runOps call l tm h with
  | some (tm',h')=>some (.normal,tm',h')
  | none=>none
 | .draw l=>fun tm h=>match runDraw call l tm h with
  | some (tm',h')=>some (.normal,tm',h')
  | none=>none
 | .seq a b=>fun tm h=>match execC call loopk a tm h with
  | some (.normal,tm',h')=>execC call loopk b tm' h'
  | r=>r
 | .cond x a b=>fun tm h=>match ev tm x with
  | some (.bool t)=>if t then execC call loopk a tm h else execC call loopk b tm h
  | _=>none
 | .block id c=>fun tm h=>match execC call loopk c tm h with
  | some (.exit i,tm',h')=>some (if i=id then .normal else .exit i,tm',h')
  | r=>r
 | .loop c=>fun tm h=>match execC call loopk c tm h with
  | some (.normal,tm',h')=>loopk (.loop c) tm' h'
  | r=>r
 | .exit id=>fun tm h=>some (.exit id,tm,h)
 | .ret=>fun tm h=>some (.ret,tm,h)
 | .bad=>fun _ _=>none
 | .range nt f ps asg body=>fun tm h=>match ev tm f with
  | some (.func (.func f) first caps) =>
   match call (.fn f) (first++[.yld (h.size+1)]++caps) ((h.push .dfr).push (.loop .ready none nt tm ps asg body)) with
   | some (_,h')=>match h'.get (h.size+1) with
    | some (.loop st pend _ _ _ _ _)=>match st with
     | .busy=>none
     | _=>some (exOf pend,pushMark tm h.size,h'.put (h.size+1) .dead)
    | _=>none
   | none=>none
  | _=>none
 | .defr f args=>fun tm h=>match ev tm f,evs tm args with
  | some (.func (.func f) first caps),some vs=>some (.normal,pushD tm (.tuple [.func (.func f) [] [],.tuple (first++vs++caps)]),h)
  | _,_=>none
def resA (tm:TM) (h:Heap):Res→Option V
 | .tmp t=>tm.get t
 | .cell t n=>match tm.get t with
  | some a=>loadA h n a
  | none=>none
def ressA (tm:TM) (h:Heap):List Res→Option (List V)
 | []=>some []
 | r::rs=>match resA tm h r,ressA tm h rs with
  | some v,some vs=>some (v::vs)
  | _,_=>none
def oneOf:List V→V
 | [v]=>v
 | vs=>.tuple vs
def argsTM:Nat→List V→TM→TM
 | _,[],tm=>tm
 | i,v::r,tm=>argsTM (i+1) r (tm.set i v)
def closeCall (h:Heap) (v:V) (h1:Heap):V × Heap :=
 if h.size≤h1.low∧v.scopd h.size=true then (v,h) else (v,{ h1 with low:=min h.low h1.low })
def setPs:List Nat→List V→TM→Option TM
 | [],[],tm=>some tm
 | p::ps,v::vs,tm=>setPs ps vs (tm.set p v)
 | _,_,_=>none
def yieldBody (exec:LoopF) (b:Nat) (vs:List V) (h:Heap):Option (V × Heap) :=
 match h.get b with
 | some (.loop _ _ _ tm ps asg body)=>match setPs ps vs tm with
  | some tm1=>match exec asg tm1 h with
   | some (.normal,tm2,h2)=>match h2.get b with
    | some (.loop .ready p1 n1 t1 q1 a1 b1) =>
     match exec body tm2 (h2.put b (.loop .busy p1 n1 t1 q1 a1 b1)) with
     | some (ex,_,h3)=>match h3.get b with
      | some (.loop _ _ n2 t2 q2 a2 b2)=>match ex with
       | .normal=>some (.bool true,h3.put b (.loop .ready none n2 t2 q2 a2 b2))
       | e=>some (.bool false,h3.put b (.loop .done (some e) n2 t2 q2 a2 b2))
      | _=>none
     | none=>none
    | _=>none
   | _=>none
  | none=>none
 | _=>none
def AC.noD:AC→Bool
 | .seq a b=>a.noD && b.noD
 | .cond _ a b=>a.noD && b.noD
 | .block _ c=>c.noD
 | .loop c=>c.noD
 | .defr _ _=>false
 | .range _ _ _ _ _=>false
 | _=>true
structure Cfg where
 F:Nat→Option AFunc
 S:Nat→List V→Heap→Option (Option (V × Heap))
 I:Nat→Bool:=fun _=>false
def runDefers (C:Cfg) (exec:LoopF):List V→Heap→Option Heap
 | [],h=>some h
 | .yld b::r,h=>match h.get b with
  | some .dfr=>runDefers C exec r (h.put b .dead)
  | _=>none
 | .tuple [.func (.func f) [] [],.tuple args]::r,h =>
  if C.I f=true then runDefers C exec r h
  else match C.F f with
   | some af=>if args.length=af.nparams then match exec af.body (argsTM 0 args .nil) h with
     | some (.exit _,_,_)=>none
     | some (_,tm,h1)=>match deferred tm,ressA tm h1 af.results with
      | [],some _=>runDefers C exec r h1
      | _,_=>none
     | none=>none
    else none
   | none=>none
 | _::_,_=>none
def callBody (C:Cfg) (exec:LoopF) (af:AFunc) (args:List V) (h:Heap):Option (V × Heap) :=
 if args.length=af.nparams then
  match exec af.body (argsTM 0 args .nil) { h with low:=h.size } with
  | some (.exit _,_,_)=>none
  | some (_,tm,h1)=>match runDefers C exec (deferred tm) h1 with
   | some h2=>match ressA tm h2 af.results with
    | some vs=>some (closeCall h (oneOf vs) h2)
    | none=>none
   | none=>none
  | none=>none
 else none
def runF (C:Cfg) (exec:LoopF) (f:Nat) (args:List V) (h:Heap):Option (V × Heap) :=
 match C.S f args h with
 | some r=>r
 | none=>match C.F f with
  | some af=>callBody C exec af args h
  | none=>none
def run (C:Cfg):Nat→CallF × LoopF
 | 0=>(fun _ _ _=>none,fun _ _ _=>none)
 | n+1 =>
  (fun c args h=>match c with
   | .fn f=>runF C (execC (run C n).1 (run C n).2) f args h
   | .yl b=>yieldBody (execC (run C n).1 (run C n).2) b args h,
   execC (run C n).1 (run C n).2)
end
end Abs
end Go.Proofs.YthgcjbniipfnbaaGreatDoor
namespace Go.Proofs.YthgcjbniipfnbaaGreatDoor
namespace Abs
set_option linter.unusedVariables false
def strOf (s:ByteArray):List Nat:=s.data.toList.map UInt8.toNat
def ofV1:Value→Option V
 | .bool b=>some (.bool b)
 | .int k n=>some (.int k n)
 | .string s=>some (.str (strOf s))
 | .pointer none=>some (.ptr none)
 | .slice none 0 0=>some (.slice none 0 0)
 | .map none=>some (.map none)
 | .nilFunc=>some .nilFunc
 | .nilIface=>some .nilIface
 | _=>none
def ofVs:List Value→Option (List V)
 | []=>some []
 | x::r=>match ofV1 x,ofVs r with
  | some v,some vs=>some (v::vs)
  | _,_=>none
def ofV:Value→Option V
 | .agg cs=>match ofVs cs.toList with
  | some vs=>some (.agg vs)
  | none=>none
 | .func (.func f) a b=>if a.size=0∧b.size=0 then some (.func (.func f) [] []) else none
 | v=>ofV1 v
def GN:Nat:=63
def opdC:Operand→Option Opd
 | .tmp t=>if t=DX then none else some (.t t)
 | .const v=>match ofV v with
  | some v=>some (.c v)
  | none=>none
 | .func f=>some (.c (.func (.func f) [] []))
 | .global g=>if g<GN then some (.c (.ptr (some (g,0)))) else none
def opdsC:List Operand→Option (List Opd)
 | []=>some []
 | x::r=>match opdC x,opdsC r with
  | some v,some vs=>some (v::vs)
  | _,_=>none
def opdO:Option Operand→Option (Option Opd)
 | none=>some none
 | some x=>match opdC x with
  | some v=>some (some v)
  | none=>none
def sizeC (P:Program) (t:TypeId):Option Nat:=(P.info? t).map (·.size)
def bytesC (P:Program) (t:TypeId):Option Nat:=(P.info? t).map (·.bytes)
def zeroVal (P:Program) (t:TypeId):Option Value:=(P.info? t).bind (·.zero)
def zeroC (P:Program) (t:TypeId):Option (List V):=match zeroVal P t with
 | some z=>ofVs z.cells.toList
 | none=>none
def aggC (P:Program) (t:TypeId):Option (Option Nat) :=
 match P.underlying t with
 | some (.struct _) | some (.array _ _)=>match sizeC P t with
  | some n=>some (some n)
  | none=>none
 | some _=>some none
 | none=>none
def partsC (place:Nat→Option (Nat × Nat)):List (Nat × Operand)→Option (List (Nat × Nat × Opd))
 | []=>some []
 | (i,x)::r=>match place i,opdC x,partsC place r with
  | some (o,s),some x,some l=>some ((o,s,x)::l)
  | _,_,_=>none
def placesC (P:Program):List Field→Option (List (Nat × Nat))
 | []=>some []
 | f::r=>match sizeC P f.type,placesC P r with
  | some s,some l=>some ((f.offset,s)::l)
  | _,_=>none
mutual
def eqdC (P:Program):Nat→TypeId→Option EqD
 | 0,_=>none
 | n+1,t=>match P.underlying t with
  | some .bool=>some (.flat .bool)
  | some (.int _)=>some (.flat .int)
  | some .string=>some (.flat .str)
  | some (.pointer e)=>match sizeC P e with
   | some (_+1)=>some (.flat .ptr)
   | _=>none
  | some (.slice _)=>some (.flat .slice)
  | some (.map _ _)=>some (.flat .map)
  | some (.func _ _ _)=>some (.flat .func)
  | some (.struct fs)=>if P.stoodInHeld t=true then none else match eqdsC P n fs.toList with
   | some l=>some (.struct l)
   | none=>none
  | _=>none
def eqdsC (P:Program):Nat→List Field→Option (List (Nat × Option Nat × EqD))
 | 0,_=>none
 | _,[]=>some []
 | n+1,f::r =>
  if f.name = "_" then eqdsC P n r
  else match aggC P f.type,eqdC P n f.type,eqdsC P n r with
   | some g,some d,some l=>some ((f.offset,g,d)::l)
   | _,_,_=>none
end
def isInt (P:Program) (t:TypeId):Bool:=match P.underlying t with
 | some (.int _)=>true
 | _=>false
def isStr (P:Program) (t:TypeId):Bool:=match P.underlying t with
 | some .string=>true
 | _=>false
def keyC (P:Program) (t:TypeId):Option FK:=match P.underlying t with
 | some (.int _)=>some .int
 | some .string=>some .str
 | some .bool=>some .bool
 | _=>none
def isNilC (P:Program) (t:TypeId) (neg:Bool) (x y:Operand):Option K :=
 match P.underlying t,opdC x,y with
 | some (.interface _),some x,.const .nilIface=>some (.isNil neg x)
 | _,_,_=>none
def binC (P:Program) (op:BinOp) (t:TypeId) (x0 y0:Operand):Option K :=
 match opdC x0,opdC y0 with
 | some x,some y =>
  if isInt P t || isStr P t then some (.bin op x y)
  else match op with
   | .eql=>match isNilC P t false x0 y0 with
    | some k=>some k
    | none=>if P.eqGuardType P.depth t=true then none else match eqdC P 1000 t with
     | some d=>some (.eq false d x y)
     | none=>none
   | .neq=>match isNilC P t true x0 y0 with
    | some k=>some k
    | none=>if P.eqGuardType P.depth t=true then none else match eqdC P 1000 t with
     | some d=>some (.eq true d x y)
     | none=>none
   | _=>none
 | _,_=>none
def byteTy (P:Program) (e:TypeId):Option Nat:=match P.underlying e with
 | some (.int .u8)=>some e
 | some .string=>some e
 | _=>none
def selfTy (P:Program) (t:TypeId):Option Nat:=match P.underlying t with
 | some (.struct fs)=>match fs[0]? with
  | some f=>match P.underlying f.type with
   | some (.pointer e)=>if e=t then some t else none
   | _=>none
  | none=>none
 | _=>none
def convC (P:Program) (src dst:TypeId) (x:Operand):Option K :=
 match opdC x,P.underlying src,P.underlying dst with
 | some x,some (.int _),some (.int k)=>some (.toInt k x)
 | some x,some .string,some .string=>some (.same x)
 | some x,some (.slice e),some .string=>match P.underlying e with
  | some (.int .u8)=>some (.toStr x)
  | _=>none
 | some x,some .string,some (.slice e)=>match P.underlying e,sizeC P e with
  | some (.int .u8),some 1=>some (.toBytes x)
  | _,_=>none
 | some x,some (.pointer t),some .unsafePointer=>match sizeC P t with
  | some (_+1)=>some (.unsP x)
  | _=>none
 | some x,some .unsafePointer,some (.pointer t)=>match sizeC P t with
  | some (s+1)=>if P.cellsOf t=s+1 then some (.ofUns t (s+1) x) else none
  | _=>none
 | _,_,_=>none
def sliceC (P:Program) (t:TypeId) (x:Operand) (lo hi mx:Option Operand):Option K :=
 match opdC x,opdO lo,opdO hi,opdO mx with
 | some x,some lo,some hi,some mx =>
  match P.underlying t with
  | some .string=>match mx with
   | none=>some (.sliceStr x lo hi)
   | some _=>none
  | some (.slice e)=>match sizeC P e with
   | some s=>some (.sliceSl s x lo hi mx)
   | none=>none
  | some (.array n e)=>match mx,sizeC P e with
   | none,some s=>some (.sliceArr n s x lo hi)
   | _,_=>none
  | _=>none
 | _,_,_,_=>none
def repsI (n:Nat) (z:List V):List V:=(List.range n).map fun i=>z.getD (i % z.length) undefV
def lenC (P:Program) (t:TypeId) (x:Operand):Option K :=
 match opdC x,P.underlying t with
 | some x,some .string=>some (.lenStr x)
 | some x,some (.slice _)=>some (.lenSl x)
 | some x,some (.map _ _)=>some (.mapLen x)
 | some _,some (.array n _)=>some (.mv (.c (.int .i64 n)))
 | _,_=>none
def appendC (P:Program) (t u:TypeId) (x y:Operand):Option K :=
 match opdC x,opdC y,P.underlying t with
 | some x,some y,some (.slice e)=>match sizeC P e,bytesC P e,zeroC P e with
  | some s,some b,some z=>if z.length=s∧s≠0∧b≠0 then
    match P.underlying u with
    | some (.slice _)=>some (.append s b (byteTy P e) x y)
    | some .string=>if s=1∧b=1 then some (.appendS (byteTy P e) x y) else none
    | _=>none
   else none
  | _,_,_=>none
 | _,_,_=>none
def copyC (P:Program) (t:TypeId) (x y:Operand):Option K :=
 match opdC x,opdC y,P.underlying t with
 | some x,some y,some (.slice e)=>match sizeC P e with
  | some s=>some (.copy s x y)
  | none=>none
 | _,_,_=>none
def clearC (P:Program) (t:TypeId) (x:Operand):Option K :=
 match opdC x,P.underlying t with
 | some x,some (.slice e)=>match sizeC P e,zeroC P e with
  | some s,some z=>if z.length=s then some (.clear s z x) else none
  | _,_=>none
 | _,_=>none
def deleteC (P:Program) (t:TypeId) (m k:Operand):Option K :=
 match opdC m,opdC k,P.underlying t with
 | some m,some k,some (.map kt _)=>match keyC P kt with
  | some kk=>some (.mapDel kk m k)
  | none=>none
 | _,_,_=>none
def mmC (mx:Bool) (x y:Operand):Option K :=
 match opdC x,opdC y with
 | some x,some y=>some (if mx then .max2 x y else .min2 x y)
 | _,_=>none
def mmNC (mx:Bool) (xs:List Operand):Option K:=match opdsC xs with
 | some xs=>some (.minN mx xs)
 | none=>none
def methsC (P:Program) (name:String):List (Nat × Nat) :=
 (List.range P.types.size).filterMap fun t=>match P.info? t with
  | some i=>match i.methods.find? (·.name == name),P.underlying t with
   | some m,some (.pointer _)=>match m.path.toList,m.func with
    | [],some (f,true)=>some (t,f)
    | _,_=>none
   | _,_=>none
  | none=>none
def methsVC (P:Program) (name:String):List (Nat × Nat × Option Nat) :=
 (List.range P.types.size).filterMap fun t=>match P.info? t with
  | some i=>match i.methods.find? (·.name == name),P.underlying t with
   | some m,some (.pointer e)=>match m.path.toList,m.func,aggC P e with
    | [],some (f,false),some g=>some (t,f,g)
    | _,_,_=>none
   | _,_=>none
  | none=>none
def builtinC (P:Program) (b:Builtin) (ts:List TypeId) (args:List Operand):Option K :=
 match b with
 | .len=>match ts,args with
  | [t],[x]=>lenC P t x
  | _,_=>none
 | .append=>match ts,args with
  | [t,u],[x,y]=>appendC P t u x y
  | _,_=>none
 | .min=>match args with
  | [x,y]=>mmC false x y
  | [x,y,z]=>mmNC false [x,y,z]
  | _=>none
 | .max=>match args with
  | [x,y]=>mmC true x y
  | [x,y,z]=>mmNC true [x,y,z]
  | _=>none
 | .copy=>match ts,args with
  | [t,_],[x,y]=>copyC P t x y
  | _,_=>none
 | .clear=>match ts,args with
  | [t],[x]=>clearC P t x
  | _,_=>none
 | .unsafeSliceData=>match args with
  | [x]=>match opdC x with
   | some x=>some (.sliceData x)
   | none=>none
  | _=>none
 | .unsafeString=>match ts,args with
  | [pt,_],[x,n]=>match opdC x,opdC n,P.underlying pt with
   | some x,some n,some (.pointer e)=>if P.cellsOf e=1 then some (.unsStr e x n) else none
   | _,_,_=>none
  | _,_=>none
 | .delete=>match ts,args with
  | [t,_],[m,k]=>deleteC P t m k
  | _,_=>none
 | _=>none
def kC (P:Program) (o:Oper):Option K :=
 match o.op with
 | .move x | .assign x=>match opdC x with
  | some x=>some (.mv x)
  | none=>none
 | .pick c a b=>match opdC c,opdC a,opdC b with
  | some c,some a,some b=>some (.pick c a b)
  | _,_,_=>none
 | .alloc t=>match zeroC P t with
  | some z=>some (.alloc (selfTy P t) z)
  | none=>none
 | .box _ x=>match opdC x with
  | some x=>some (.box x)
  | none=>none
 | .build t parts=>match zeroC P t,P.underlying t with
  | some z,some (.struct fs)=>match placesC P fs.toList with
   | some pl=>match partsC (fun i=>pl[i]?) parts.toList with
    | some ps=>some (.build z ps)
    | none=>none
   | none=>none
  | some z,some (.array _ e)=>match sizeC P e with
   | some s=>match partsC (fun i=>some (i*s,s)) parts.toList with
    | some ps=>some (.build z ps)
    | none=>none
   | none=>none
  | _,_=>none
 | .buildSlice t len parts=>match P.underlying t with
  | some (.slice e)=>match sizeC P e,zeroC P e with
   | some s,some z=>match partsC (fun i=>some (i*s,s)) parts.toList with
    | some ps=>if len*s≤16777216∧(len*s=0∨z.length≠0) then some (.buildSl (byteTy P e) (repsI (len*s) z) len ps) else none
    | none=>none
   | _,_=>none
  | _=>none
 | .load t a=>match opdC a,aggC P t with
  | some a,some g=>some (.load g a)
  | _,_=>none
 | .store t a x=>match opdC a,opdC x,sizeC P t with
  | some a,some x,some n=>some (.store n a x)
  | _,_,_=>none
 | .nilCheck x=>match opdC x with
  | some x=>some (.nilck x)
  | none=>none
 | .binOp op t x y _=>binC P op t x y
 | .unOp op _ x=>match op,opdC x with
  | .not,some x=>some (.not x)
  | .neg,some x=>some (.neg x)
  | .xor,some x=>some (.inv x)
  | _,_=>none
 | .convert s d x=>convC P s d x
 | .makeInterface t x=>match P.underlying t,opdC x with
  | some (.interface _),_=>none
  | some _,some x=>some (.mkIface t x)
  | _,_=>none
 | .makeFunc (.func f) a b=>match opdsC a.toList,opdsC b.toList with
  | some a,some b=>some (.mkFn (.func f) a b)
  | _,_=>none
 | .makeMap t none=>some .makeMap
 | .range t x=>match opdC x,P.underlying t with
  | some x,some (.map _ _)=>some (.rangeM x)
  | _,_=>none
 | .next x false=>match opdC x with
  | some x=>some (.nextM x)
  | none=>none
 | .entry x=>match opdC x with
  | some x=>some (.entM x)
  | none=>none
 | .makeSlice t l c=>match P.underlying t,opdC l,opdC c with
  | some (.slice e),some l,some c=>match sizeC P e,bytesC P e,zeroC P e with
   | some s,some b,some z=>if z.length=s∧s≠0 then some (.makeSl s b z l c) else none
   | _,_,_=>none
  | _,_,_=>none
 | .slice t x lo hi mx=>sliceC P t x lo hi mx
 | .fieldAddr s x f=>match P.underlying s,opdC x with
  | some (.struct fs),some x=>match fs[f]? with
   | some f=>match sizeC P f.type with
    | some (_+1)=>some (.fieldAddr f.offset x)
    | _=>none
   | none=>none
  | _,_=>none
 | .field t x f=>match P.underlying t,opdC x with
  | some (.struct fs),some x=>match fs[f]? with
   | some f=>match aggC P f.type with
    | some g=>some (.field f.offset g x)
    | none=>none
   | none=>none
  | _,_=>none
 | .indexAddr t x i=>match P.underlying t,opdC x,opdC i with
  | some (.slice e),some x,some i=>match sizeC P e with
   | some s=>some (.idxSl s x i)
   | none=>none
  | some (.array n e),some x,some i=>match sizeC P e with
   | some s=>some (.idxArr n s x i)
   | none=>none
  | _,_,_=>none
 | .index t x i=>match P.underlying t,opdC x,opdC i with
  | some .string,some x,some i=>some (.atStr x i)
  | some (.array n e),some x,some i=>match sizeC P e,aggC P e with
   | some s,some g=>some (.atArr n s g x i)
   | _,_=>none
  | _,_,_=>none
 | .lookup t m k ok=>match P.underlying t,opdC m,opdC k with
  | some (.map kt et),some m,some k=>match zeroVal P et with
   | some z=>match ofV z with
    | some z=>match keyC P kt with
     | some kk=>some (.lookup kk z ok m k)
     | none=>none
    | none=>none
   | none=>none
  | _,_,_=>none
 | .mapUpdate t m k v | .insert t m k v=>match P.underlying t,opdC m,opdC k,opdC v with
  | some (.map kt _),some m,some k,some v=>match keyC P kt with
   | some kk=>some (.mapUpd kk m k v)
   | none=>none
  | _,_,_,_=>none
 | .extract x i=>match opdC x with
  | some x=>some (.extract i x)
  | none=>none
 | .call c=>match c.callee with
  | .value f=>match opdC f,opdsC c.args.toList with
   | some f,some args=>some (.call f args)
   | _,_=>none
  | .builtin b=>builtinC P b c.argTypes.toList c.args.toList
  | .invoke r name=>match opdC r,opdsC c.args.toList with
   | some r,some args=>match methsVC P name with
    | []=>some (.invoke (methsC P name) r args)
    | l=>some (.invokeV (methsC P name) l r args)
   | _,_=>none
 | .typeAssert x _ t false=>match opdC x,P.underlying t with
  | some _,some (.interface _)=>none
  | some x,some _=>some (.assertT t x)
  | _,_=>none
 | .mapEntry t m k=>match P.underlying t,opdC m,opdC k with
  | some (.map kt et),some m,some k=>match zeroVal P et with
   | some z=>match ofV z with
    | some z=>match keyC P kt with
     | some kk=>some (.mapEnt kk z m k)
     | none=>none
    | none=>none
   | none=>none
  | _,_,_=>none
 | .entryStore _ m s x=>match opdC m,opdC s,opdC x with
  | some m,some s,some x=>some (.entSt m s x)
  | _,_,_=>none
 | _=>none
def kX (P:Program) (o:Oper):K:=match kC P o with
 | some k=>k
 | none=>.bad
def guardC (ops:Array Oper) (nt:Nat):Option (Nat × Bool)→Option (Option (Nat × Bool))
 | none=>some none
 | some (j,w)=>match (ops[j]?).bind (·.dst) with
  | some t=>if t<nt∧t≠DX then some (some (t,w)) else none
  | none=>none
def dstOk (nt:Nat):Option Nat→Bool
 | none=>true
 | some d=>decide (d<nt∧d≠DX)
def opC (P:Program) (ops:Array Oper) (nt:Nat) (o:Oper):Option AOp :=
 match kX P o,guardC ops nt o.guard with
 | k,some g=>if dstOk nt o.dst=true then some ⟨o.dst,g,k⟩ else none
 | _,_=>none
def opsC (P:Program) (ops:Array Oper) (nt:Nat):List Oper→Option (List AOp)
 | []=>some []
 | o::r=>match opC P ops nt o,opsC P ops nt r with
  | some a,some l=>some (a::l)
  | _,_=>none
def Opd.reads:Opd→List Nat
 | .t i=>[i]
 | .c _=>[]
def oreads:Option Opd→List Nat
 | some x=>x.reads
 | none=>[]
def preads:List (Nat × Nat × Opd)→List Nat
 | []=>[]
 | (_,_,x)::r=>x.reads++preads r
def lreads:List Opd→List Nat
 | []=>[]
 | x::r=>x.reads++lreads r
def K.reads:K→List Nat
 | .alloc _ _ | .makeMap | .bad=>[]
 | .mv x | .box x | .load _ x | .nilck x | .not x | .neg x | .inv x | .toInt _ x | .same x | .toStr x | .toBytes x | .fieldAddr _ x | .field _ _ x | .lenStr x | .lenSl x | .clear _ _ x | .mapLen x | .rangeM x | .nextM x | .entM x | .extract _ x | .mkIface _ x | .sliceData x | .unsP x | .ofUns _ _ x=>x.reads
 | .pick c a b=>c.reads++a.reads++b.reads
 | .build _ ps | .buildSl _ _ _ ps=>preads ps
 | .store _ a x | .bin _ a x | .eq _ _ a x | .idxSl _ a x | .idxArr _ _ a x | .atStr a x | .atArr _ _ _ a x | .min2 a x | .max2 a x | .append _ _ _ a x | .appendS _ a x | .unsStr _ a x | .copy _ a x | .makeSl _ _ _ a x | .lookup _ _ _ a x | .mapDel _ a x=>a.reads++x.reads
 | .sliceStr x lo hi | .sliceArr _ _ x lo hi=>x.reads++oreads lo++oreads hi
 | .sliceSl _ x lo hi mx=>x.reads++oreads lo++oreads hi++oreads mx
 | .mapUpd _ m k v=>m.reads++k.reads++v.reads
 | .mkFn _ a b=>lreads a++lreads b
 | .call f args | .invoke _ f args | .invokeV _ _ f args=>f.reads++lreads args
 | .assertT _ x | .isNil _ x=>x.reads
 | .minN _ xs=>lreads xs
 | .mapEnt _ _ a x=>a.reads++x.reads
 | .entSt a b x=>a.reads++b.reads++x.reads
def AOp.reads (o:AOp):List Nat:=(match o.guard with | some (t,_)=>[t] | none=>[])++o.k.reads
def clash (x y:AOp):Bool :=
 (match x.dst with
  | some d=>y.reads.contains d || y.dst == some d
  | none=>false) ||
 (match y.dst with
  | some d=>x.reads.contains d
  | none=>false)
def drawPos (l:List DOp) (i:Nat):Option Nat:=l.findIdx? fun d=>d.idx == i
def chkOne (ops:Array Oper) (l:List DOp) (q:Nat) (d:DOp):Bool :=
 decide (d.idx<ops.size) &&
 d.anc.all (fun p=>decide (p<q)) &&
 ((ops[d.idx]?).map fun o=>o.after.toList.all fun e=>!Region.binds .any e || d.anc.any fun p=>match l[p]? with
  | some d'=>d'.idx == e.on
  | none=>false).getD false &&
 d.anc.all (fun p=>((ops[d.idx]?).map fun o=>o.after.toList.any fun e=>Region.binds .any e && match drawPos l e.on with
  | some r=>p == r || (match l[r]? with
   | some d'=>d'.anc.contains p
   | none=>false)
  | none=>false).getD false) &&
 (List.range q).all fun p=>match l[p]? with
  | some d'=>!(d'.idx == d.idx) && (d.anc.contains p || (!clash d'.o d.o && !d'.o.k.isC))
  | none=>false
def chkAll (ops:Array Oper) (l:List DOp):Bool :=
 l.length == ops.size && ((List.range ops.size).all fun i=>(drawPos l i).isSome) && (List.range l.length).all fun q=>match l[q]? with
  | some d=>chkOne ops l q d
  | none=>false
def drawOne (P:Program) (ops:Array Oper) (nt:Nat) (b:Array Nat) (perm:List Nat) (q i:Nat):Option DOp :=
 match ops[i]? with
 | some o=>match opC P ops nt o with
  | some a=>some ⟨a,i,(List.range q).filter fun p=>(b.getD i 0).testBit (perm.getD p 0)⟩
  | none=>none
 | none=>none
def drawList (P:Program) (ops:Array Oper) (nt:Nat) (b:Array Nat) (perm:List Nat):Nat→List Nat→Option (List DOp)
 | _,[]=>some []
 | q,i::r=>match drawOne P ops nt b perm q i,drawList P ops nt b perm (q+1) r with
  | some d,some l=>some (d::l)
  | _,_=>none
def permGo (isC:Nat→Bool) (b:Array Nat) (n:Nat):Nat→List Nat→List Nat
 | 0,acc=>acc.reverse
 | f+1,acc =>
  let free:=fun i=>!acc.contains i && (List.range n).all fun j=>!(b.getD i 0).testBit j || acc.contains j
  match (List.range n).find? fun i=>free i && !isC i with
  | some i=>permGo isC b n f (i::acc)
  | none=>match (List.range n).find? free with
   | some i=>permGo isC b n f (i::acc)
   | none=>acc.reverse
def isCop (P:Program) (o:Oper):Bool:=(kX P o).isC
def drawC (P:Program) (nt:Nat) (ops:Array Oper):Option (List DOp) :=
 let b:=Region.before ops
 let perm:=permGo (fun i=>match ops[i]? with | some o=>isCop P o | none=>true) b ops.size ops.size []
 match drawList P ops nt b perm 0 perm with
 | some l=>if chkAll ops l=true then some l else none
 | none=>none
def lastD:List Oper→Option (List Oper × Call)
 | []=>none
 | [o]=>match o.op,o.guard,o.dst with
  | .defer c,none,none=>some ([],c)
  | _,_,_=>none
 | o::r=>match lastD r with
  | some (l,c)=>some (o::l,c)
  | none=>none
def codeC (P:Program) (nt:Nat):Code→Option AC
 | .skip=>some .skip
 | .region _ ops false=>match lastD ops.toList with
  | some (pre,c)=>match opsC P ops nt pre,c.callee with
   | some l,.value f=>match opdC f,opdsC c.args.toList with
    | some f,some args=>some (.seq (.ops l) (.defr f args))
    | _,_=>some .bad
   | _,_=>some .bad
  | none=>match opsC P ops nt ops.toList with
   | some l=>some (.ops l)
   | none=>some .bad
 | .region _ ops true=>if P.follows .mixedOrders=true then match drawC P nt ops with
   | some l=>some (.draw l)
   | none=>some .bad
  else some .bad
 | .seq a b=>match codeC P nt a,codeC P nt b with
  | some a,some b=>some (.seq a b)
  | _,_=>none
 | .cond c a b=>match opdC c,codeC P nt a,codeC P nt b with
  | some c,some a,some b=>some (.cond c a b)
  | _,_,_=>none
 | .block id c=>match codeC P nt c with
  | some c=>some (.block id c)
  | none=>none
 | .loop c=>match codeC P nt c with
  | some c=>some (.loop c)
  | none=>none
 | .exit id=>some (.exit id)
 | .ret=>some .ret
 | .scope c=>codeC P nt c
 | .label _=>some .skip
 | .rangeFunc f ps asg body=>match opdC f,codeC P nt asg,codeC P nt body with
  | some f,some a,some b=>if ps.all (fun p=>dstOk nt (some p))=true∧a.noD=true∧b.noD=true then some (.range nt f ps.toList a b) else some .bad
  | _,_,_=>some .bad
 | _=>some .bad
def resC (P:Program):ResultVar→Option Res
 | .tmp t=>if t=DX then none else some (.tmp t)
 | .cell t ty=>if t=DX then none else match aggC P ty with
  | some g=>some (.cell t g)
  | none=>none
def ressC (P:Program):List ResultVar→Option (List Res)
 | []=>some []
 | x::r=>match resC P x,ressC P r with
  | some v,some vs=>some (v::vs)
  | _,_=>none
def funcC (P:Program) (fn:Func):Option AFunc :=
 match fn.body with
 | some c =>
  if (fn.name == "runtime.NumGoroutine")=true then none else
  if fn.params.size+fn.nfree≤fn.ntmps∧fn.params.size+fn.nfree≤DX then
   match codeC P fn.ntmps c,ressC P fn.results.toList with
   | some c,some rs=>some ⟨fn.params.size+fn.nfree,rs,c⟩
   | _,_=>none
  else none
 | none=>none
end Abs
end Go.Proofs.YthgcjbniipfnbaaGreatDoor
namespace Go.Proofs.YthgcjbniipfnbaaGreatDoor
namespace Abs
set_option linter.unusedVariables false
open Go.RowKit
structure Emb where
 blk:Nat
 off:Nat
 lim:Nat
abbrev Rho:=Nat→Option Emb
variable {P:Program}
def RLe (ρ ρ':Rho):Prop:=∀ b e,ρ b=some e→ρ' b=some e
theorem RLe.refl (ρ:Rho):RLe ρ ρ:=fun _ _ h=>h
theorem RLe.trans {a b c:Rho} (h:RLe a b) (k:RLe b c):RLe a c:=fun x e hx=>k x e (h x e hx)
def at_ (e:Emb) (o:Nat):Addr:=⟨e.blk,e.off+o,none⟩
theorem at_add (e:Emb) (o n:Nat):(at_ e o).add n=at_ e (o+n):=by
 unfold at_ Addr.add
 split
 ·rename_i h;subst h;rfl
 ·simp [Nat.add_assoc]
mutual
inductive VR (ρ:Rho):V→Value→Prop where
 | bool (b:Bool):VR ρ (.bool b) (.bool b)
 | int (k:IntKind) (n:Int):VR ρ (.int k n) (.int k n)
 | str (s:ByteArray) (l:List Nat) (h:l=strOf s):VR ρ (.str l) (.string s)
 | ptrNil:VR ρ (.ptr none) (.pointer none)
 | ptr (b o:Nat) (e:Emb) (a:Addr) (h:ρ b=some e) (ha:a=at_ e o):VR ρ (.ptr (some (b,o))) (.pointer (some a))
 | sliceNil:VR ρ (.slice none 0 0) (.slice none 0 0)
 | slice (b o len cap:Nat) (e:Emb) (a:Addr) (h:ρ b=some e) (ha:cap≠0→a=at_ e o) (hl:len≤cap):VR ρ (.slice (some (b,o)) len cap) (.slice (some a) len cap)
 | oslice (b o len cap sz cap':Nat) (e:Emb) (a:Addr) (h:ρ b=some e) (ha:cap'≠0→a=at_ e o∧(sz=0∨(e.off+o+cap'*sz≤e.lim∧cap'≤9223372036854775807))) (hl:len≤cap) (hc:cap≤cap') :
   VR ρ (.oslice b o len cap sz) (.slice (some a) len cap')
 | mapNil:VR ρ (.map none) (.map none)
 | map (b:Nat) (e:Emb) (r:Nat) (h:ρ b=some e) (hr:r=e.blk):VR ρ (.map (some b)) (.map (some r))
 | func (f:FuncId) (x y:List V) (a c:Array Value) (hx:VRs ρ x a.toList) (hy:VRs ρ y c.toList):VR ρ (.func (.func f) x y) (.func (.func f) a c)
 | nilFunc:VR ρ .nilFunc .nilFunc
 | iface (t:TypeId) (v:V) (u:Value) (h:VR ρ v u):VR ρ (.iface t v) (.iface t u)
 | nilIface:VR ρ .nilIface .nilIface
 | agg (x:List V) (a:Array Value) (h:VRs ρ x a.toList):VR ρ (.agg x) (.agg a)
 | tuple (x:List V) (a:Array Value) (h:VRs ρ x a.toList):VR ρ (.tuple x) (.tuple a)
 | yld (b:Nat) (e:Emb) (l:Nat) (h:ρ b=some e) (hl:l=e.blk):VR ρ (.yld b) (.func (.yield l) #[] #[])
inductive VRs (ρ:Rho):List V→List Value→Prop where
 | nil:VRs ρ [] []
 | cons (v:V) (u:Value) (x:List V) (a:List Value) (h:VR ρ v u) (t:VRs ρ x a):VRs ρ (v::x) (u::a)
end
mutual
theorem VR.mono {ρ ρ':Rho} (hρ:RLe ρ ρ'):∀ {v:V} {u:Value},VR ρ v u→VR ρ' v u
 | _,_,.bool b=>.bool b
 | _,_,.int k n=>.int k n
 | _,_,.str s l h=>.str s l h
 | _,_,.ptrNil=>.ptrNil
 | _,_,.ptr b o e a h ha=>.ptr b o e a (hρ _ _ h) ha
 | _,_,.sliceNil=>.sliceNil
 | _,_,.slice b o len cap e a h ha hl=>.slice b o len cap e a (hρ _ _ h) ha hl
 | _,_,.oslice b o len cap sz cap' e a h ha hl hc=>.oslice b o len cap sz cap' e a (hρ _ _ h) ha hl hc
 | _,_,.mapNil=>.mapNil
 | _,_,.map b e r h hr=>.map b e r (hρ _ _ h) hr
 | _,_,.func f x y a c hx hy=>.func f x y a c (VRs.mono hρ hx) (VRs.mono hρ hy)
 | _,_,.nilFunc=>.nilFunc
 | _,_,.iface t v u h=>.iface t v u (VR.mono hρ h)
 | _,_,.nilIface=>.nilIface
 | _,_,.agg x a h=>.agg x a (VRs.mono hρ h)
 | _,_,.tuple x a h=>.tuple x a (VRs.mono hρ h)
 | _,_,.yld b e l h hl=>.yld b e l (hρ _ _ h) hl
theorem VRs.mono {ρ ρ':Rho} (hρ:RLe ρ ρ'):∀ {x:List V} {a:List Value},VRs ρ x a→VRs ρ' x a
 | _,_,.nil=>.nil
 | _,_,.cons v u x a h t=>.cons v u x a (VR.mono hρ h) (VRs.mono hρ t)
end
mutual
theorem VR.narrow {ρ ρ':Rho} {n:Nat} (hρ:∀ b e,b<n→ρ' b=some e→ρ b=some e):∀ {v:V} {u:Value},VR ρ' v u→v.scopd n=true→VR ρ v u
 | _,_,.bool b,_=>.bool b
 | _,_,.int k n,_=>.int k n
 | _,_,.str s l h,_=>.str s l h
 | _,_,.ptrNil,_=>.ptrNil
 | _,_,.ptr b o e a h ha,hs=>.ptr b o e a (hρ _ _ (by simpa [V.scopd] using hs) h) ha
 | _,_,.sliceNil,_=>.sliceNil
 | _,_,.slice b o len cap e a h ha hl,hs=>.slice b o len cap e a (hρ _ _ (by simpa [V.scopd] using hs) h) ha hl
 | _,_,.oslice b o len cap sz cap' e a h ha hl hc,hs=>.oslice b o len cap sz cap' e a (hρ _ _ (by simpa [V.scopd] using hs) h) ha hl hc
 | _,_,.mapNil,_=>.mapNil
 | _,_,.map b e r h hr,hs=>.map b e r (hρ _ _ (by simpa [V.scopd] using hs) h) hr
 | _,_,.func f x y a c hx hy,hs=>.func f x y a c
   (VRs.narrow hρ hx (by simp only [V.scopd,Bool.and_eq_true] at hs;exact hs.1)) (VRs.narrow hρ hy (by simp only [V.scopd,Bool.and_eq_true] at hs;exact hs.2))
 | _,_,.nilFunc,_=>.nilFunc
 | _,_,.iface t v u h,hs=>.iface t v u (VR.narrow hρ h (by simpa [V.scopd] using hs))
 | _,_,.nilIface,_=>.nilIface
 | _,_,.agg x a h,hs=>.agg x a (VRs.narrow hρ h (by simpa [V.scopd] using hs))
 | _,_,.tuple x a h,hs=>.tuple x a (VRs.narrow hρ h (by simpa [V.scopd] using hs))
 | _,_,.yld b e l h hl,hs=>.yld b e l (hρ _ _ (by simpa [V.scopd] using hs) h) hl
theorem VRs.narrow {ρ ρ':Rho} {n:Nat} (hρ:∀ b e,b<n→ρ' b=some e→ρ b=some e):∀ {x:List V} {a:List Value},VRs ρ' x a→V.scopeds n x=true→VRs ρ x a
 | _,_,.nil,_=>.nil
 | _,_,.cons v u x a h t,hs=>.cons v u x a
   (VR.narrow hρ h (by simp only [V.scopeds,Bool.and_eq_true] at hs;exact hs.1)) (VRs.narrow hρ t (by simp only [V.scopeds,Bool.and_eq_true] at hs;exact hs.2))
end
mutual
theorem VR.scope {ρ:Rho} {n:Nat} (hρ:∀ b e,ρ b=some e→b<n):∀ {v:V} {u:Value},VR ρ v u→v.scopd n=true
 | _,_,.bool b=>rfl
 | _,_,.int k n=>rfl
 | _,_,.str s l h=>rfl
 | _,_,.ptrNil=>rfl
 | _,_,.ptr b o e a h ha=>by simp [V.scopd,hρ _ _ h]
 | _,_,.sliceNil=>rfl
 | _,_,.slice b o len cap e a h ha hl=>by simp [V.scopd,hρ _ _ h]
 | _,_,.oslice b o len cap sz cap' e a h ha hl hc=>by simp [V.scopd,hρ _ _ h]
 | _,_,.mapNil=>rfl
 | _,_,.map b e r h hr=>by simp [V.scopd,hρ _ _ h]
 | _,_,.func f x y a c hx hy=>by simp [V.scopd,VRs.scope hρ hx,VRs.scope hρ hy]
 | _,_,.nilFunc=>rfl
 | _,_,.iface t v u h=>by simp [V.scopd,VR.scope hρ h]
 | _,_,.nilIface=>rfl
 | _,_,.agg x a h=>by simp [V.scopd,VRs.scope hρ h]
 | _,_,.tuple x a h=>by simp [V.scopd,VRs.scope hρ h]
 | _,_,.yld b e l h hl=>by simp [V.scopd,hρ _ _ h]
theorem VRs.scope {ρ:Rho} {n:Nat} (hρ:∀ b e,ρ b=some e→b<n):∀ {x:List V} {a:List Value},VRs ρ x a→V.scopeds n x=true
 | _,_,.nil=>rfl
 | _,_,.cons v u x a h t=>by simp [V.scopeds,VR.scope hρ h,VRs.scope hρ t]
end
theorem VRs.length {ρ:Rho}:∀ {x:List V} {a:List Value},VRs ρ x a→x.length=a.length
 | _,_,.nil=>rfl
 | _,_,.cons v u x a h t=>by simp [VRs.length t]
theorem VRs.get {ρ:Rho}:∀ {x:List V} {a:List Value},VRs ρ x a→∀ (i:Nat) (v:V),x[i]? = some v→∃ u,a[i]? = some u∧VR ρ v u
 | _,_,.nil,i,v,h=>by simp at h
 | _,_,.cons v u x a h t,0,v',hv=>by simp at hv;subst hv;exact ⟨u,by simp,h⟩
 | _,_,.cons v u x a h t,i+1,v',hv=>by simp at hv;simpa using VRs.get t i v' hv
theorem VRs.of_get {ρ:Rho}:∀ {x:List V} {a:List Value},x.length=a.length→(∀ (i:Nat) (v:V),x[i]? = some v→∃ u,a[i]? = some u∧VR ρ v u)→VRs ρ x a
 | [],[],_,_=>.nil
 | [],_::_,h,_=>by simp at h
 | _::_,[],h,_=>by simp at h
 | v::x,u::a,h,hh=>by
  obtain ⟨u',hu,hr⟩:=hh 0 v (by simp)
  simp at hu
  subst hu
  refine .cons v u x a hr (VRs.of_get (by simpa using h) fun i w hw=>?_)
  have:=hh (i+1) w (by simpa using hw)
  simpa using this
theorem VRs.append {ρ:Rho}:∀ {x:List V} {a:List Value} {y:List V} {b:List Value},VRs ρ x a→VRs ρ y b→VRs ρ (x++y) (a++b)
 | _,_,_,_,.nil,k=>k
 | _,_,_,_,.cons v u x a h t,k=>.cons v u _ _ h (VRs.append t k)
theorem VRs.take {ρ:Rho}:∀ (n:Nat) {x:List V} {a:List Value},VRs ρ x a→VRs ρ (x.take n) (a.take n)
 | 0,_,_,_=>by simpa using VRs.nil
 | n+1,_,_,.nil=>by simpa using VRs.nil
 | n+1,_,_,.cons v u x a h t=>by simpa using VRs.cons v u _ _ h (VRs.take n t)
theorem VRs.drop {ρ:Rho}:∀ (n:Nat) {x:List V} {a:List Value},VRs ρ x a→VRs ρ (x.drop n) (a.drop n)
 | 0,_,_,h=>by simpa using h
 | n+1,_,_,.nil=>by simpa using VRs.nil
 | n+1,_,_,.cons v u x a h t=>by simpa using VRs.drop n t
theorem VR.cells {ρ:Rho} {v:V} {u:Value} (h:VR ρ v u):VRs ρ v.cellsOf u.cells.toList:=by
 cases h with
 | agg x a h=>simpa [V.cellsOf,Value.cells] using h
 | _ =>
  simp only [V.cellsOf,Value.cells,List.toList_toArray]
  exact .cons _ _ _ _ (by first | constructor <;> assumption | constructor) .nil
theorem VR.one {ρ:Rho} {v:V} {u:Value} (h:VR ρ v u) (hv:v.one=true):u.oneCell'=true:=by
 cases h <;> simp_all [V.one,Value.oneCell']
/-! ### Temporaries -/
def Glob (ρ:Rho):Prop:=∀ g,g<GN→ρ g=some ⟨g,0,0⟩
theorem Glob.mono {ρ ρ':Rho} (h:Glob ρ) (hρ:RLe ρ ρ'):Glob ρ':=fun g hg=>hρ g _ (h g hg)
def TMR (ρ:Rho) (nt:Nat) (tm:TM) (a:Array Value):Prop:=(nt≤a.size∧Glob ρ)∧∀ i v,i≠DX→tm.get i=some v→∃ u,a[i]? = some u∧VR ρ v u
theorem TMR.mono {ρ ρ':Rho} {nt:Nat} {tm:TM} {a:Array Value} (h:TMR ρ nt tm a) (hρ:RLe ρ ρ'):TMR ρ' nt tm a :=
 ⟨⟨h.1.1,h.1.2.mono hρ⟩,fun i v hi hv=>let ⟨u,hu,hr⟩:=h.2 i v hi hv;⟨u,hu,hr.mono hρ⟩⟩
theorem TMR.put {ρ:Rho} {nt:Nat} {tm:TM} {a:Act} (h:TMR ρ nt tm a.tmps) {dst:Option Tmp} (hd:dstOk nt dst=true) {v:V} {u:Value} (hv:VR ρ v u) :
  TMR ρ nt (TM.put tm dst v) (a.put dst u).tmps:=by
 cases dst with
 | none=>exact h
 | some d =>
  have hd':d<nt:=by simp [dstOk] at hd;exact hd.1
  refine ⟨⟨by simpa [Act.put] using h.1.1,h.1.2⟩,fun i w hi hw=>?_⟩
  simp only [TM.put,TM.get_set] at hw
  by_cases e:i=d
  ·subst e
   rw [if_pos rfl] at hw
   cases hw
   exact ⟨u,by simp only [Act.put];rw [Array.getElem?_setIfInBounds_self_of_lt (Nat.lt_of_lt_of_le hd' h.1.1)],hv⟩
  ·rw [if_neg e] at hw
   obtain ⟨u',hu,hr⟩:=h.2 i w hi hw
   exact ⟨u',by simp only [Act.put];rw [Array.getElem?_setIfInBounds_ne (Ne.symm e)];exact hu,hr⟩
theorem ofV1_sound {x:Value} {v:V} (ρ:Rho) (h:ofV1 x=some v):VR ρ v x:=by
 unfold ofV1 at h
 split at h <;> cases h <;> first | (exact .str _ _ rfl) | constructor
theorem ofVs_sound (ρ:Rho):∀ {x:List Value} {v:List V},ofVs x=some v→VRs ρ v x
 | [],v,h=>by cases h;exact .nil
 | x::r,v,h=>by
  unfold ofVs at h
  split at h
  ·rename_i a b ha hb
   cases h
   exact .cons _ _ _ _ (ofV1_sound ρ ha) (ofVs_sound ρ hb)
  ·cases h
theorem ofV_sound {x:Value} {v:V} (ρ:Rho) (h:ofV x=some v):VR ρ v x:=by
 unfold ofV at h
 split at h
 ·split at h
  ·rename_i hb
   cases h
   exact .agg _ _ (ofVs_sound ρ hb)
  ·cases h
 ·split at h
  ·rename_i f a b hh
   cases h
   obtain ⟨h1,h2⟩:=hh
   have ha:a=#[]:=by simpa using h1
   have hb:b=#[]:=by simpa using h2
   subst ha hb
   exact .func _ _ _ _ _ .nil .nil
  ·cases h
 ·exact ofV1_sound ρ h
theorem ev_sound {ρ:Rho} {nt:Nat} {tm:TM} {a:Act} (ht:TMR ρ nt tm a.tmps) {x:Operand} {y:Opd} (hc:opdC x=some y) {v:V} (hv:ev tm y=some v):VR ρ v (a.eval x):=by
 unfold opdC at hc
 split at hc
 ·split at hc
  ·cases hc
  ·rename_i hne
   cases hc
   obtain ⟨u,hu,hr⟩:=ht.2 _ _ hne hv
   simpa [Act.eval,hu] using hr
 ·split at hc
  ·rename_i w hw
   cases hc
   simp only [ev,Option.some.injEq] at hv
   subst hv
   exact ofV_sound ρ hw
  ·cases hc
 ·cases hc
  simp only [ev,Option.some.injEq] at hv
  subst hv
  exact .func _ _ _ _ _ .nil .nil
 ·split at hc
  ·rename_i hg
   cases hc
   simp only [ev,Option.some.injEq] at hv
   subst hv
   exact .ptr _ _ _ _ (ht.1.2 _ hg) rfl
  ·cases hc
theorem evs_sound {ρ:Rho} {nt:Nat} {tm:TM} {a:Act} (ht:TMR ρ nt tm a.tmps):∀ {x:List Operand} {y:List Opd},opdsC x=some y→∀ {v:List V},evs tm y=some v→VRs ρ v (x.map a.eval)
 | [],y,hc,v,hv=>by cases hc;cases hv;exact .nil
 | x::r,y,hc,v,hv=>by
  unfold opdsC at hc
  split at hc
  ·rename_i p q hp hq
   cases hc
   unfold evs at hv
   split at hv
   ·rename_i s t hs ht'
    cases hv
    exact .cons _ _ _ _ (ev_sound ht hp hs) (evs_sound ht hq ht')
   ·cases hv
  ·cases hc
/-! ### Memory -/
def CellFacts (ρ:Rho) (w:World) (e:Emb) (cs:List V):Prop:=∀ i v,cs[i]? = some v→∃ u,w.cell? (at_ e i)=some u∧VR ρ v u
structure Own (w:World) (e:Emb) (n fz:Nat) (ty:Option Nat):Prop where
 shape:∃ c el fr,w.heap[e.blk]? = some (.cells c el fr)∧c.size=e.lim∧(fr.1=fr.2∨fr.2≤e.off+fz∨(ty=none∧e.lim≤fr.1))∧∀ t,ty=some t→el=t∧e.off=0
 room:e.off+n≤e.lim
def MR (ρ:Rho):List (V × V)→List MapEntry→Prop
 | [],[]=>True
 | (k,v)::r,m::s=>VR ρ k m.key∧VR ρ v m.val∧MR ρ r s
 | _,_=>False
def pendC:Option Ex→Option Code
 | some (.exit id)=>some (.exit id)
 | some .ret=>some .ret
 | _=>none
structure LoopR (P:Program) (ρ:Rho) (r:Loop) (st:LoopState) (pend:Option Ex) (nt:Nat) (tm:TM) (ps:List Nat) (asg body:AC):Prop where
 state:r.state=st
 pend:r.pending=pendC pend
 tmr:TMR ρ nt tm r.tmps
 pars:r.params.toList=ps
 psok:∀ p∈ps,dstOk nt (some p)=true
 casg:codeC P nt r.assign=some asg
 cbody:codeC P nt r.body=some body
 nda:asg.noD=true
 ndb:body.noD=true
theorem LoopR.mono {ρ ρ':Rho} {r:Loop} {st:LoopState} {pend:Option Ex} {nt:Nat} {tm:TM} {ps:List Nat} {asg body:AC} (h:LoopR P ρ r st pend nt tm ps asg body) (hρ:RLe ρ ρ'):LoopR P ρ' r st pend nt tm ps asg body :=
 { h with tmr:=h.tmr.mono hρ }
def ORel (P:Program) (B:Nat) (ρ:Rho) (w:World) (e:Emb):Obj→Prop
 | .cells cs .ro=>e.blk<B∧CellFacts ρ w e cs
 | .cells cs .sup=>CellFacts ρ w e cs
 | .cells cs (.tip _ fz ty)=>B≤e.blk∧CellFacts ρ w e cs∧Own w e cs.length fz ty
 | .map es bs cl=>B≤e.blk∧∃ ces,w.heap[e.blk]? = some (.map ces cl)∧MR ρ es ces.toList∧bs=ces.toList.map MapEntry.born
 | .loop st pend nt tm ps asg body=>B≤e.blk∧∃ r,w.heap[e.blk]? = some (.loop r)∧LoopR P ρ r st pend nt tm ps asg body
 | .dfr=>B≤e.blk∧w.heap[e.blk]? = some (.deferred (some []))
 | .iter m s seen c=>B≤e.blk∧∃ m',w.heap[e.blk]? = some (.mapIter m' s seen.toArray c)∧e.off=0∧match m with
  | none=>m'=none
  | some b=>∃ e',ρ b=some e'∧m'=some e'.blk
 | .dead=>True
def Obj.sups:Obj→Option (List Nat)
 | .cells _ (.tip S _ _)=>some S
 | .map _ _ _=>some []
 | .loop ..=>some []
 | .dfr=>some []
 | .iter ..=>some []
 | _=>none
def Obj.len:Obj→Nat
 | .cells cs _=>cs.length
 | _=>0
def Obj.alive:Obj→Bool
 | .dead=>false
 | _=>true
structure Rel (P:Program) (B:Nat) (w0:World) (ρ:Rho) (h:Heap) (w:World):Prop where
 dom:∀ b e,ρ b=some e→b<h.size
 obj:∀ b e,ρ b=some e→∃ o,h.get b=some o∧ORel P B ρ w e o
 sep:∀ b b' e e' o o' S,ρ b=some e→ρ b'=some e'→b≠b'→h.get b=some o→o.sups=some S→h.get b'=some o'→o'.alive=true→e'.blk=e.blk →
  b'∈S∧o'.sups=none∧e'.off+o'.len≤e.off+o.len
 live:∀ b e o,ρ b=some e→h.get b=some o→o.alive=true→e.blk<w.heap.size
 fresh:∀ b,h.size≤b→h.get b=none
 below:Below B w0 w
 base:B≤w.heap.size
 glob:Glob ρ
theorem Rel.congr {B:Nat} {w0 w:World} {ρ:Rho} {h h':Heap} (r:Rel P B w0 ρ h w) (hs:h'.size=h.size) (hg:∀ b,h'.get b=h.get b):Rel P B w0 ρ h' w :=
 ⟨fun b e hb=>by rw [hs];exact r.dom b e hb,fun b e hb=>by rw [hg];exact r.obj b e hb,
  fun b b' e e' o o' S h1 h2 h3 h4 h5 h6 h7 h8=>r.sep b b' e e' o o' S h1 h2 h3 (by rw [←hg];exact h4) h5 (by rw [←hg];exact h6) h7 h8,
  fun b e o h1 h2=>r.live b e o h1 (by rw [←hg];exact h2),fun b hb=>by rw [hg];exact r.fresh b (by omega),r.below,r.base,r.glob⟩
theorem CellFacts.mono {ρ ρ':Rho} {w:World} {e:Emb} {cs:List V} (h:CellFacts ρ w e cs) (hρ:RLe ρ ρ'):CellFacts ρ' w e cs :=
 fun i v hv=>let ⟨u,hu,hr⟩:=h i v hv;⟨u,hu,hr.mono hρ⟩
theorem MR.mono {ρ ρ':Rho} (hρ:RLe ρ ρ'):∀ {x:List (V × V)} {y:List MapEntry},MR ρ x y→MR ρ' x y
 | [],[],_=>trivial
 | (k,v)::r,m::s,h=>⟨h.1.mono hρ,h.2.1.mono hρ,MR.mono hρ h.2.2⟩
 | [],_::_,h=>h.elim
 | _::_,[],h=>h.elim
theorem ORel.mono {B:Nat} {ρ ρ':Rho} {w:World} {e:Emb} {o:Obj} (h:ORel P B ρ w e o) (hρ:RLe ρ ρ'):ORel P B ρ' w e o:=by
 cases o with
 | cells cs st=>cases st with
  | ro=>exact ⟨h.1,h.2.mono hρ⟩
  | tip S fz ty=>exact ⟨h.1,h.2.1.mono hρ,h.2.2⟩
  | sup=>exact CellFacts.mono h hρ
 | map es bs cl=>obtain ⟨h0,ces,h1,h2,h3⟩:=h;exact ⟨h0,ces,h1,h2.mono hρ,h3⟩
 | loop st pend nt tm ps asg body=>obtain ⟨h0,r,h1,h2⟩:=h;exact ⟨h0,r,h1,h2.mono hρ⟩
 | dfr=>exact h
 | iter m s seen c =>
  obtain ⟨h0,m',h1,hz,h2⟩:=h
  refine ⟨h0,m',h1,hz,?_⟩
  cases m with
  | none=>exact h2
  | some b=>obtain ⟨e',q1,q2⟩:=h2;exact ⟨e',hρ _ _ q1,q2⟩
 | dead=>trivial
theorem cell_of_heap {w w':World} {a:Addr} (h:w'.heap[a.block]? = w.heap[a.block]?):w'.cell? a=w.cell? a:=by
 unfold World.cell?;rw [h]
theorem CellFacts.heap {ρ:Rho} {w w':World} {e:Emb} {cs:List V} (h:CellFacts ρ w e cs) (hh:w'.heap[e.blk]? = w.heap[e.blk]?):CellFacts ρ w' e cs :=
 fun i v hv=>let ⟨u,hu,hr⟩:=h i v hv;⟨u,by rw [cell_of_heap (a:=at_ e i) hh];exact hu,hr⟩
theorem ORel.heap {B:Nat} {ρ:Rho} {w w':World} {e:Emb} {o:Obj} (h:ORel P B ρ w e o) (hh:w'.heap[e.blk]? = w.heap[e.blk]?):ORel P B ρ w' e o:=by
 cases o with
 | cells cs st=>cases st with
  | ro=>exact ⟨h.1,h.2.heap hh⟩
  | tip S fz ty =>
   obtain ⟨h1,h2,⟨c,el,fr,hc,hs,hf⟩,hr⟩:=h
   exact ⟨h1,h2.heap hh,⟨⟨c,el,fr,hh.trans hc,hs,hf⟩,hr⟩⟩
  | sup=>exact CellFacts.heap h hh
 | map es bs cl=>obtain ⟨h0,ces,h1,h2,h3⟩:=h;exact ⟨h0,ces,hh.trans h1,h2,h3⟩
 | loop st pend nt tm ps asg body=>obtain ⟨h0,r,h1,h2⟩:=h;exact ⟨h0,r,hh.trans h1,h2⟩
 | dfr=>exact ⟨h.1,hh.trans h.2⟩
 | iter m s seen c=>obtain ⟨h0,m',h1,h2⟩:=h;exact ⟨h0,m',hh.trans h1,h2⟩
 | dead=>trivial
theorem Rel.drew {B:Nat} {w0 w:World} {ρ:Rho} {h:Heap} (r:Rel P B w0 ρ h w):Rel P B w0 ρ h w.drew :=
 ⟨r.dom,fun b e hb=>let ⟨o,h1,h2⟩:=r.obj b e hb;⟨o,h1,h2.heap rfl⟩,r.sep,r.live,r.fresh,r.below.drew,r.base,r.glob⟩
/-! #### New blocks -/
theorem Rel.push {B:Nat} {w0 w:World} {ρ:Rho} {h:Heap} (r:Rel P B w0 ρ h w) (o:Obj):Rel P B w0 ρ (h.push o) w:=by
 have hg:∀ b,b<h.size→(h.push o).get b=h.get b:=fun b hb=>HT.get_set_ne _ _ _ _ (by omega)
 refine ⟨fun b e hb=>Nat.lt_succ_of_lt (r.dom b e hb),fun b e hb=>?_,?_,fun b e o h1 h2=>r.live b e o h1 (by rw [←hg b (r.dom b e h1)];exact h2),fun b hb=>?_,r.below,r.base,r.glob⟩
 ·rw [hg b (r.dom b e hb)];exact r.obj b e hb
 ·intro b b' e e' o1 o2 S h1 h2 h3 h4 h5 h6 h7 h8
  rw [hg b (r.dom b e h1)] at h4
  rw [hg b' (r.dom b' e' h2)] at h6
  exact r.sep b b' e e' o1 o2 S h1 h2 h3 h4 h5 h6 h7 h8
 ·have hb':h.size+1≤b:=hb
  rw [show (h.push o).get b=h.get b from HT.get_set_ne _ _ _ _ (by omega)]
  exact r.fresh b (by omega)
def Rho.with_ (ρ:Rho) (b:Nat) (e:Emb):Rho:=fun x=>if x=b then some e else ρ x
theorem with_le {ρ:Rho} {b:Nat} {e:Emb} (h:ρ b=none):RLe ρ (Rho.with_ ρ b e):=by
 intro x e' hx
 unfold Rho.with_
 by_cases hb:x=b
 ·subst hb;rw [h] at hx;cases hx
 ·rw [if_neg hb];exact hx
theorem with_same {ρ:Rho} {b:Nat} {e:Emb}:Rho.with_ ρ b e b=some e:=by simp [Rho.with_]
theorem Rel.lay {B:Nat} {w0 w:World} {ρ:Rho} {h:Heap} (r:Rel P B w0 ρ h w) {b:Nat} {o:Obj} (hb:ρ b=none) (hlt:b<h.size) (hg:h.get b=some o)
  (ob:Go.Obj) (lim:Nat)
  (hrel:ORel P B (Rho.with_ ρ b ⟨w.heap.size,0,lim⟩) (w.alloc ob) ⟨w.heap.size,0,lim⟩ o) :
  Rel P B w0 (Rho.with_ ρ b ⟨w.heap.size,0,lim⟩) h (w.alloc ob):=by
 have hle:RLe ρ (Rho.with_ ρ b ⟨w.heap.size,0,lim⟩):=with_le hb
 have old:∀ {x:Nat} {e:Emb},Rho.with_ ρ b ⟨w.heap.size,0,lim⟩ x=some e→x≠b→ρ x=some e:=by
  intro x e hx hne
  unfold Rho.with_ at hx
  rwa [if_neg hne] at hx
 have new:∀ {e:Emb},Rho.with_ ρ b ⟨w.heap.size,0,lim⟩ b=some e→e=⟨w.heap.size,0,lim⟩:=by
  intro e hx
  rw [with_same] at hx
  cases hx;rfl
 have hlive:∀ b' e' o',ρ b'=some e'→h.get b'=some o'→o'.alive=true→e'.blk≠w.heap.size:=fun b' e' o' h1 h2 h3=>Nat.ne_of_lt (r.live b' e' o' h1 h2 h3)
 refine ⟨fun x e hx=>?_,fun x e hx=>?_,?_,fun x e o' h1 h2 h3=>?_,r.fresh,r.below.alloc r.base ob,by simp;have:=r.base;omega,r.glob.mono hle⟩
 ·by_cases hne:x=b
  ·subst hne;exact hlt
  ·exact r.dom x e (old hx hne)
 ·by_cases hne:x=b
  ·subst hne
   rw [new hx]
   exact ⟨o,hg,hrel⟩
  ·obtain ⟨o',h1,h2⟩:=r.obj x e (old hx hne)
   refine ⟨o',h1,?_⟩
   cases ha:o'.alive with
   | false=>cases o' <;> simp_all [Obj.alive];trivial
   | true =>
    have hn:=(hlive x e o' (old hx hne) h1 ha)
    refine (h2.mono hle).heap ?_
    show (w.heap.push ob)[e.blk]? = _
    rw [Array.getElem?_push,if_neg hn]
 ·intro x x' e e' o1 o2 S h1 h2 h3 h4 h5 h6 h7 h8
  by_cases hx:x=b
  ·subst hx
   have hx':x'≠x:=Ne.symm h3
   rw [new h1] at h8
   exact absurd h8 ((hlive x' e' o2 (old h2 hx') h6 h7))
  ·by_cases hx':x'=b
   ·subst hx'
    rw [new h2] at h8
    obtain ⟨o3,g1,g2⟩:=r.obj x e (old h1 hx)
    rw [h4] at g1
    cases g1
    have ha:o1.alive=true:=by cases o1 <;> simp_all [Obj.alive,Obj.sups]
    exact absurd h8.symm ((hlive x e o1 (old h1 hx) h4 ha))
   ·exact r.sep x x' e e' o1 o2 S (old h1 hx) (old h2 hx') h3 h4 h5 h6 h7 h8
 ·by_cases hx:x=b
  ·subst hx
   rw [new h1];simp
  ·have:=r.live x e o' (old h1 hx) h2 h3
   simp;omega
end Abs
end Go.Proofs.YthgcjbniipfnbaaGreatDoor
namespace Go.Proofs.YthgcjbniipfnbaaGreatDoor
namespace Abs
set_option linter.unusedVariables false
open Go.RowKit
theorem Heap.size_put (h:Heap) (b:Nat) (o:Obj):(h.put b o).size=h.size:=rfl
theorem Heap.get_put (h:Heap) (b x:Nat) (o:Obj):(h.put b o).get x=if x=b then some o else h.get x:=HT.get_set _ _ _ _
theorem Heap.get_push (h:Heap) (x:Nat) (o:Obj):(h.push o).get x=if x=h.size then some o else h.get x:=HT.get_set _ _ _ _
theorem Heap.size_push (h:Heap) (o:Obj):(h.push o).size=h.size+1:=rfl
theorem Heap.kill_size:∀ (S:List Nat) (h:Heap),(h.kill S).size=h.size
 | [],_=>rfl
 | b::r,h=>by unfold Heap.kill;split <;> simp [Heap.kill_size r,Heap.size_put]
theorem Heap.kill_get:∀ (S:List Nat) (h:Heap) (x:Nat),(h.kill S).get x=if x∈S∧x<h.size then some .dead else h.get x
 | [],h,x=>by simp [Heap.kill]
 | b :: r,h,x=>by
  unfold Heap.kill
  by_cases hb:b<h.size
  ·rw [if_pos hb,Heap.kill_get r,Heap.size_put,Heap.get_put]
   by_cases hx:x∈r∧x<h.size
   ·rw [if_pos hx,if_pos ⟨List.mem_cons_of_mem _ hx.1,hx.2⟩]
   ·rw [if_neg hx]
    by_cases e:x=b
    ·subst e;rw [if_pos rfl,if_pos ⟨by simp,hb⟩]
    ·rw [if_neg e,if_neg]
     rintro ⟨h1,h2⟩
     rcases List.mem_cons.1 h1 with h1 | h1
     ·exact e h1
     ·exact hx ⟨h1,h2⟩
  ·rw [if_neg hb,Heap.kill_get r]
   by_cases hx:x∈r∧x<h.size
   ·rw [if_pos hx,if_pos ⟨List.mem_cons_of_mem _ hx.1,hx.2⟩]
   ·rw [if_neg hx,if_neg]
    rintro ⟨h1,h2⟩
    rcases List.mem_cons.1 h1 with h1 | h1
    ·subst h1;exact hb h2
    ·exact hx ⟨h1,h2⟩
section
variable {P:Program} {B:Nat} {w0 w:World} {ρ:Rho} {h:Heap}
theorem Rel.killed (r:Rel P B w0 ρ h w) {b:Nat} {e:Emb} {cs:List V} {S:List Nat} {fz:Nat} {ty:Option Nat} (hb:ρ b=some e) (hg:h.get b=some (.cells cs (.tip S fz ty))) :
  Rel P B w0 ρ ((h.kill S).put b (.cells cs (.tip [] fz ty))) w:=by
 have get':∀ x,((h.kill S).put b (.cells cs (.tip [] fz ty))).get x=if x=b then some (.cells cs (.tip [] fz ty)) else if x∈S∧x<h.size then some .dead else h.get x:=by
  intro x;rw [Heap.get_put,Heap.kill_get]
 have siz:((h.kill S).put b (.cells cs (.tip [] fz ty))).size=h.size:=by rw [Heap.size_put,Heap.kill_size]
 obtain ⟨o0,hg0,hr0⟩:=r.obj b e hb
 rw [hg] at hg0
 cases hg0
 have blt:=r.dom b e hb
 refine ⟨fun x e' hx=>by rw [siz];exact r.dom x e' hx,fun x e' hx=>?_,?_,fun x e' o' h1 h2 h3=>?_,fun x hx=>?_,r.below,r.base,r.glob⟩
 ·rw [get']
  by_cases hxb:x=b
  ·subst hxb
   rw [hb] at hx
   cases hx
   exact ⟨.cells cs (.tip [] fz ty),by rw [if_pos rfl],hr0⟩
  ·rw [if_neg hxb]
   by_cases hxs:x∈S∧x<h.size
   ·exact ⟨.dead,by rw [if_pos hxs],trivial⟩
   ·rw [if_neg hxs];exact r.obj x e' hx
 ·intro x x' e1 e2 o1 o2 S' h1 h2 h3 h4 h5 h6 h7 h8
  rw [get'] at h4 h6
  by_cases hx:x=b
  ·subst hx
   rw [if_pos rfl] at h4
   cases h4
   rw [if_neg (Ne.symm h3)] at h6
   by_cases hxs:x'∈S∧x'<h.size
   ·rw [if_pos hxs] at h6;cases h6;cases h7
   ·rw [if_neg hxs] at h6
    have:=(r.sep x x' e1 e2 _ o2 S h1 h2 h3 hg rfl h6 h7 h8).1
    exact absurd ⟨this,r.dom x' e2 h2⟩ hxs
  ·rw [if_neg hx] at h4
   by_cases hxs:x∈S∧x<h.size
   ·rw [if_pos hxs] at h4;cases h4;cases h5
   ·rw [if_neg hxs] at h4
    by_cases hx':x'=b
    ·subst hx'
     rw [if_pos rfl] at h6
     cases h6
     exact absurd (r.sep x x' e1 e2 o1 _ S' h1 h2 h3 h4 h5 hg rfl h8).2.1 (by simp [Obj.sups])
    ·rw [if_neg hx'] at h6
     by_cases hxs':x'∈S∧x'<h.size
     ·rw [if_pos hxs'] at h6;cases h6;cases h7
     ·rw [if_neg hxs'] at h6
      exact r.sep x x' e1 e2 o1 o2 S' h1 h2 h3 h4 h5 h6 h7 h8
 ·rw [get'] at h2
  by_cases hxb:x=b
  ·subst hxb;exact r.live x e' _ h1 hg rfl
  ·rw [if_neg hxb] at h2
   by_cases hxs:x∈S∧x<h.size
   ·rw [if_pos hxs] at h2;cases h2;cases h3
   ·rw [if_neg hxs] at h2;exact r.live x e' o' h1 h2 h3
 ·rw [siz] at hx
  rw [get',if_neg (by omega),if_neg (by omega)]
  exact r.fresh x hx
theorem heap_setCell_ne (w:World) (a:Addr) (u:Value) (k:Nat) (hk:k≠a.block):(w.setCell a u).heap[k]? = w.heap[k]?:=Below.heap_setCell w a u k hk
theorem own_setCell {e:Emb} {n fz:Nat} {ty:Option Nat} (ho:Own w e n fz ty) (a:Addr) (u:Value):Own (w.setCell a u) e n fz ty:=by
 obtain ⟨⟨c,el,fr,hc,hs,hf⟩,hr⟩:=ho
 refine ⟨?_,hr⟩
 by_cases hk:e.blk=a.block
 ·refine ⟨if a.spot.isSome then c else c.setIfInBounds a.off u,el,fr,?_,?_,hf⟩
  ·simp only [World.setCell,Array.getElem?_modify]
   rw [if_pos hk.symm,hc]
   rfl
  ·split <;> simp [hs]
 ·exact ⟨c,el,fr,by rw [heap_setCell_ne _ _ _ _ hk];exact hc,hs,hf⟩
theorem Rel.set1 (r:Rel P B w0 ρ h w) {b:Nat} {e:Emb} {cs:List V} {fz o:Nat} {ty:Option Nat} {v:V} {u:Value} (hb:ρ b=some e) (hg:h.get b=some (.cells cs (.tip [] fz ty)))
  (ho:o<cs.length) (hv:VR ρ v u):Rel P B w0 ρ (h.put b (.cells (cs.set o v) (.tip [] fz ty))) (w.setCell (at_ e o) u):=by
 obtain ⟨o0,hg0,hr0⟩:=r.obj b e hb
 rw [hg] at hg0
 cases hg0
 obtain ⟨hB,hcf,hown⟩:=hr0
 have blt:=r.dom b e hb
 have other:∀ x e' o',x≠b→ρ x=some e'→h.get x=some o'→o'.alive=true→e'.blk≠e.blk:=by
  intro x e' o' hne hx hgx ha he
  have:=(r.sep b x e e' _ o' [] hb hx (Ne.symm hne) hg rfl hgx ha he).1
  cases this
 refine ⟨fun x e' hx=>r.dom x e' hx,fun x e' hx=>?_,?_,fun x e' o' h1 h2 h3=>?_,fun x hx=>?_,r.below.setCell (by exact hB) u,by simpa using r.base,r.glob⟩
 ·rw [Heap.get_put]
  by_cases hxb:x=b
  ·subst hxb
   rw [hb] at hx
   cases hx
   refine ⟨.cells (cs.set o v) (.tip [] fz ty),by rw [if_pos rfl],?_⟩
   refine ⟨hB,fun i v' hv'=>?_,?_⟩
   ·by_cases hi:i=o
    ·subst hi
     rw [List.getElem?_set_self ho] at hv'
     cases hv'
     obtain ⟨u0,hu0,_⟩:=hcf i (cs[i]) (List.getElem?_eq_getElem ho)
     exact ⟨u,World.cell?_setCell_same _ _ _ hu0,hv⟩
    ·rw [List.getElem?_set_ne (Ne.symm hi)] at hv'
     obtain ⟨u0,hu0,hr1⟩:=hcf i v' hv'
     refine ⟨u0,?_,hr1⟩
     rw [World.cell?_setCell_other]
     ·exact hu0
     ·intro hh
      simp only [at_,Addr.mk.injEq] at hh
      omega
   ·have:=own_setCell hown (at_ e o) u
    simpa using this
  ·rw [if_neg hxb]
   obtain ⟨o',h1,h2⟩:=r.obj x e' hx
   refine ⟨o',h1,?_⟩
   cases ha:o'.alive with
   | false=>cases o' <;> simp_all [Obj.alive];trivial
   | true=>exact h2.heap (heap_setCell_ne _ _ _ _ (other x e' o' hxb hx h1 ha))
 ·intro x x' e1 e2 o1 o2 S' h1 h2 h3 h4 h5 h6 h7 h8
  rw [Heap.get_put] at h4 h6
  by_cases hx:x=b
  ·subst hx
   rw [if_neg (Ne.symm h3)] at h6
   rw [hb] at h1
   cases h1
   exact absurd h8 (other x' e2 o2 (Ne.symm h3) h2 h6 h7)
  ·rw [if_neg hx] at h4
   by_cases hx':x'=b
   ·subst hx'
    rw [if_pos rfl] at h6
    cases h6
    exact absurd (r.sep x x' e1 e2 o1 _ S' h1 h2 h3 h4 h5 hg rfl h8).2.1 (by simp [Obj.sups])
   ·rw [if_neg hx'] at h6
    exact r.sep x x' e1 e2 o1 o2 S' h1 h2 h3 h4 h5 h6 h7 h8
 ·rw [Heap.get_put] at h2
  rw [World.size_setCell]
  by_cases hxb:x=b
  ·subst hxb;exact r.live x e' _ h1 hg rfl
  ·rw [if_neg hxb] at h2;exact r.live x e' o' h1 h2 h3
 ·rw [Heap.get_put,if_neg (by have:h.size≤x:=hx;omega)]
  exact r.fresh x hx
theorem notFrozen {e:Emb} {n fz i:Nat} {ty:Option Nat} (ho:Own w e n fz ty) (h1:fz≤i) (h2:e.off+i<e.lim):w.frozen? (at_ e i)=false:=by
 obtain ⟨⟨c,el,⟨lo,hi⟩,hc,hs,hf⟩,hr⟩:=ho
 have hk:w.heap[(at_ e i).block]? = some (.cells c el (lo,hi)):=hc
 have hq:¬ (lo≤e.off+i∧e.off+i<hi):=by
  have:=hf.1
  simp only at this
  omega
 have hd:(decide (lo≤e.off+i) && decide (e.off+i<hi))=false:=by
  cases h3:decide (lo≤e.off+i) with
  | false=>rfl
  | true =>
   cases h4:decide (e.off+i<hi) with
   | false=>rfl
   | true=>exact absurd ⟨of_decide_eq_true h3,of_decide_eq_true h4⟩ hq
 unfold World.frozen?
 rw [hk]
 exact hd
theorem cellThere {e:Emb} {n fz i:Nat} {ty:Option Nat} (ho:Own w e n fz ty) (h2:e.off+i<e.lim):∃ u,w.cell? (at_ e i)=some u:=by
 obtain ⟨⟨c,el,fr,hc,hs,hf⟩,hr⟩:=ho
 unfold World.cell?
 have:w.heap[(at_ e i).block]? = some (.cells c el fr):=hc
 rw [this]
 have hi:e.off+i<c.size:=by omega
 exact ⟨c[e.off+i],Array.getElem?_eq_getElem hi⟩
theorem run_store_there {a:Addr} {v u:Value} (hv:v.oneCell'=true) (hc:w.cell? a=some u) (hf:w.frozen? a=false) (m:Mode):(store a v m).run P w=.ok () (w.setCell a v):=by
 rw [run_store P w a v m hv,hc]
 simp [hf]
theorem run_storeCells_cons (a:Addr) (v:Value) (r:List Value) (i:Nat) (w w1:World) (h1:(store (a.add i) v).run P w=.ok () w1):(storeCells a (v::r) i).run P w=(storeCells a r (i+1)).run P w1:=by
 rw [storeCells]
 simp only [Sem.run_bind,h1,Result.andThen_ok]
theorem Rel.setList:∀ (vs:List V) (us:List Value) (o:Nat) {h:Heap} {w:World} {cs:List V} (r:Rel P B w0 ρ h w) {b:Nat} {e:Emb} {fz:Nat} {ty:Option Nat} (hb:ρ b=some e)
  (hg:h.get b=some (.cells cs (.tip [] fz ty))) (hz:fz≤o) (hl:o+vs.length≤cs.length) (h1:vs.all V.one=true) (hv:VRs ρ vs us) (a:Addr) (i:Nat) (ha:a.add i=at_ e o),
  ∃ w',(storeCells a us i).run P w=.ok () w'∧Rel P B w0 ρ (h.put b (.cells (splice cs o vs) (.tip [] fz ty))) w':=by
 intro vs
 induction vs with
 | nil =>
  intro us o h w cs r b e fz ty hb hg hz hl h1 hv a i ha
  cases hv
  refine ⟨w,rfl,r.congr rfl fun x=>?_⟩
  rw [Heap.get_put]
  by_cases hx:x=b
  ·subst hx;rw [if_pos rfl,hg];rfl
  ·rw [if_neg hx]
 | cons v vs ih =>
  intro us o h w cs r b e fz ty hb hg hz hl h1 hv a i ha
  cases hv with
  | cons _ u _ us hv ht =>
  simp only [List.all_cons,Bool.and_eq_true] at h1
  simp only [List.length_cons] at hl
  obtain ⟨o0,hg0,hr0⟩:=r.obj b e hb
  rw [hg] at hg0
  cases hg0
  obtain ⟨hB,hcf,hown⟩:=hr0
  obtain ⟨u0,hu0,_⟩:=hcf o (cs[o]'(by omega)) (List.getElem?_eq_getElem (by omega))
  have hroom:=hown.room
  have hf:=notFrozen hown hz (show e.off+o<e.lim by omega)
  have hs:=run_store_there (P:=P) (w:=w) (VR.one hv h1.1) hu0 hf .plain
  rw [←ha] at hs
  have r1:=r.set1 hb hg (show o<cs.length by omega) hv
  have hg1:(h.put b (.cells (cs.set o v) (.tip [] fz ty))).get b=some (.cells (cs.set o v) (.tip [] fz ty)):=by rw [Heap.get_put,if_pos rfl]
  have ha1:a.add (i+1)=at_ e (o+1):=by
   rw [←at_add,←ha]
   unfold Addr.add
   by_cases hi:i=0
   ·subst hi;simp
   ·rw [if_neg (by omega),if_neg hi,if_neg (by omega)];simp [Nat.add_assoc]
  obtain ⟨w',hw',r'⟩:=ih us (o+1) r1 hb hg1 (by omega) (by simp;omega) h1.2 ht a (i+1) ha1
  refine ⟨w',?_,r'.congr rfl fun x=>?_⟩
  ·rw [run_storeCells_cons a u us i w _ hs,ha];exact hw'
  ·rw [Heap.get_put,Heap.get_put,Heap.get_put]
   by_cases hx:x=b
   ·rw [if_pos hx,if_pos hx];rfl
   ·rw [if_neg hx,if_neg hx,if_neg hx]
theorem Rel.wr (r:Rel P B w0 ρ h w) {b o:Nat} {vs:List V} {us:List Value} {h':Heap} (hw:h.wr b o vs=some h') {e:Emb} (hb:ρ b=some e) (hv:VRs ρ vs us) :
  ∃ w',(storeCells (at_ e o) us).run P w=.ok () w'∧Rel P B w0 ρ h' w':=by
 unfold Heap.wr at hw
 split at hw
 ·rename_i cs S fz ty hg
  split at hw
  ·rename_i hc
   cases hw
   have r1:=r.killed hb hg
   have hg1:((h.kill S).put b (.cells cs (.tip [] fz ty))).get b=some (.cells cs (.tip [] fz ty)):=by rw [Heap.get_put,if_pos rfl]
   obtain ⟨w',h1,h2⟩:=Rel.setList (P:=P) vs us o r1 hb hg1 hc.1 hc.2.1 hc.2.2 hv (at_ e o) 0 (by simp [Addr.add])
   refine ⟨w',h1,h2.congr rfl fun x=>?_⟩
   rw [Heap.get_put,Heap.get_put,Heap.get_put]
   by_cases hx:x=b
   ·rw [if_pos hx,if_pos hx]
   ·rw [if_neg hx,if_neg hx,if_neg hx]
  ·cases hw
 ·cases hw
end
end Abs
end Go.Proofs.YthgcjbniipfnbaaGreatDoor
namespace Go.Proofs.YthgcjbniipfnbaaGreatDoor
namespace Abs
set_option linter.unusedVariables false
open Go.RowKit
section
variable {P:Program} {B:Nat} {w0 w:World} {ρ:Rho} {h:Heap}
theorem alloc_at (w:World) (o:Go.Obj):(w.alloc o).heap[w.heap.size]? = some o:=by
 show (w.heap.push o)[w.heap.size]? = _
 simp
theorem Rel.facts (r:Rel P B w0 ρ h w) {b:Nat} {e:Emb} {cs:List V} {st:St} (hb:ρ b=some e) (hg:h.get b=some (.cells cs st)):CellFacts ρ w e cs:=by
 obtain ⟨o,h1,h2⟩:=r.obj b e hb
 rw [hg] at h1
 cases h1
 cases st with
 | ro=>exact h2.2
 | tip S fz ty=>exact h2.2.1
 | sup=>exact h2
theorem Rel.rd (r:Rel P B w0 ρ h w) {b o:Nat} {e:Emb} {v:V} (hb:ρ b=some e) (hv:h.rd b o=some v):∃ u,w.cell? (at_ e o)=some u∧VR ρ v u:=by
 unfold Heap.rd at hv
 split at hv
 ·rename_i cs st hg
  exact r.facts hb hg o v hv
 ·cases hv
theorem facts_list {e:Emb}:∀ (cs:List V) (o:Nat),(∀ i v,cs[i]? = some v→∃ u,w.cell? (at_ e (o+i))=some u∧VR ρ v u) →
  ∃ us,VRs ρ cs us∧∀ j v,us[j]? = some v→w.cell? ((at_ e o).add j)=some v
 | [],o,_=>⟨[],.nil,fun j v hv=>by simp at hv⟩
 | v::cs,o,hf=>by
  obtain ⟨u,hu,hr⟩:=hf 0 v (by simp)
  obtain ⟨us,h1,h2⟩:=facts_list cs (o+1) (fun i v hv=>by
   have:=hf (i+1) v (by simpa using hv)
   rwa [show o+(i+1)=o+1+i by omega] at this)
  refine ⟨u::us,.cons _ _ _ _ hr h1,fun j v' hv'=>?_⟩
  cases j with
  | zero =>
   simp at hv'
   subst hv'
   simpa [Addr.add] using hu
  | succ j =>
   simp at hv'
   have:=h2 j v' hv'
   rw [at_add] at this ⊢
   rwa [show o+(j+1)=o+1+j by omega]
theorem Rel.rds (r:Rel P B w0 ρ h w) {b o n:Nat} {e:Emb} {cs:List V} (hb:ρ b=some e) (hv:h.rds b o n=some cs) :
  cs.length=n∧∃ us,VRs ρ cs us∧(loadCells (at_ e o) n).run P w=.ok us.toArray w:=by
 unfold Heap.rds at hv
 split at hv
 ·rename_i ds st hg
  split at hv
  ·rename_i hl
   cases hv
   have hlen:((ds.drop o).take n).length=n:=by simp;omega
   obtain ⟨us,h1,h2⟩:=facts_list (w:=w) (ρ:=ρ) (e:=e) ((ds.drop o).take n) o (fun i v hv=>by
    refine r.facts hb hg (o+i) v ?_
    rw [List.getElem?_take] at hv
    split at hv
    ·rwa [List.getElem?_drop] at hv
    ·cases hv)
   refine ⟨hlen,us,h1,?_⟩
   have hul:us.length=n:=by rw [←VRs.length h1];exact hlen
   have:=run_loadCells_list (P:=P) w (at_ e o) us h2
   rwa [hul] at this
  ·cases hv
 ·cases hv
theorem Rel.new (r:Rel P B w0 ρ h w) {b:Nat} {cs:List V} (hb:ρ b=none) (hlt:b<h.size) {S:List Nat} {fz:Nat} {ty:Option Nat} (hg:h.get b=some (.cells cs (.tip S fz ty))) (c:Array Value) (el:TypeId)
  (hv:VRs ρ cs (c.toList.take cs.length)) (hl:cs.length≤c.size) (hty:∀ t,ty=some t→el=t) :
  Rel P B w0 (Rho.with_ ρ b ⟨w.heap.size,0,c.size⟩) h (w.alloc (.cells c el)):=by
 have hle:RLe ρ (Rho.with_ ρ b ⟨w.heap.size,0,c.size⟩):=with_le hb
 refine r.lay hb hlt hg _ _ ⟨r.base,fun i v hi=>?_,⟨⟨c,el,(0,0),alloc_at w _,rfl,.inl rfl,fun t ht=>⟨hty t ht,rfl⟩⟩,by simpa using hl⟩⟩
 obtain ⟨u,hu,hr⟩:=hv.get i v hi
 refine ⟨u,?_,hr.mono hle⟩
 have hin:i<cs.length:=(List.getElem?_eq_some_iff.1 hi).1
 rw [List.getElem?_take,if_pos hin] at hu
 show (w.alloc (.cells c el)).cell? ⟨w.heap.size,0+i,none⟩=some u
 rw [World.cell?_alloc_new,Nat.zero_add]
 simpa using hu
theorem Rel.newMap (r:Rel P B w0 ρ h w) {b:Nat} (hb:ρ b=none) (hlt:b<h.size) (hg:h.get b=some (.map [] [] 0)) :
  Rel P B w0 (Rho.with_ ρ b ⟨w.heap.size,0,0⟩) h (w.alloc (.map #[] 0)) :=
 r.lay hb hlt hg _ _ ⟨r.base,#[],alloc_at w _,trivial,rfl⟩
theorem Rel.demote (r:Rel P B w0 ρ h w) {b:Nat} {cs:List V} {S:List Nat} {fz:Nat} {ty:Option Nat} (hlt:b<h.size) (hg:h.get b=some (.cells cs (.tip S fz ty))):Rel P B w0 ρ (h.put b (.cells cs .sup)) w:=by
 refine ⟨fun x e hx=>r.dom x e hx,fun x e hx=>?_,?_,fun x e o h1 h2 h3=>?_,fun x hx=>?_,r.below,r.base,r.glob⟩
 ·rw [Heap.get_put]
  by_cases hxb:x=b
  ·subst hxb
   exact ⟨.cells cs .sup,by rw [if_pos rfl],r.facts hx hg⟩
  ·rw [if_neg hxb];exact r.obj x e hx
 ·intro x x' e1 e2 o1 o2 S' h1 h2 h3 h4 h5 h6 h7 h8
  rw [Heap.get_put] at h4 h6
  by_cases hx:x=b
  ·subst hx
   rw [if_pos rfl] at h4
   cases h4
   cases h5
  ·rw [if_neg hx] at h4
   by_cases hx':x'=b
   ·subst hx'
    exact absurd (r.sep x x' e1 e2 o1 _ S' h1 h2 h3 h4 h5 hg rfl h8).2.1 (by simp [Obj.sups])
   ·rw [if_neg hx'] at h6
    exact r.sep x x' e1 e2 o1 o2 S' h1 h2 h3 h4 h5 h6 h7 h8
 ·rw [Heap.get_put] at h2
  by_cases hxb:x=b
  ·subst hxb;exact r.live x e _ h1 hg rfl
  ·rw [if_neg hxb] at h2;exact r.live x e o h1 h2 h3
 ·rw [Heap.get_put,if_neg (by have:h.size≤x:=hx;omega)]
  exact r.fresh x hx
theorem Rel.beyond (r:Rel P B w0 ρ h w) {b:Nat} {e:Emb} {cs:List V} {S:List Nat} {fz j:Nat} {ty:Option Nat} (hb:ρ b=some e) (hg:h.get b=some (.cells cs (.tip S fz ty)))
  (hj:cs.length≤j) (u:Value):Rel P B w0 ρ h (w.setCell (at_ e j) u):=by
 obtain ⟨o0,hg0,hr0⟩:=r.obj b e hb
 rw [hg] at hg0
 cases hg0
 obtain ⟨hB,hcf,hown⟩:=hr0
 have keep:∀ (e':Emb) (ds:List V),(e'.blk=e.blk→e'.off+ds.length≤e.off+cs.length)→CellFacts ρ w e' ds→CellFacts ρ (w.setCell (at_ e j) u) e' ds:=by
  intro e' ds hle hf i v hi
  obtain ⟨u0,hu0,hr⟩:=hf i v hi
  refine ⟨u0,?_,hr⟩
  rw [World.cell?_setCell_other]
  ·exact hu0
  ·intro hh
   simp only [at_,Addr.mk.injEq] at hh
   have hin:i<ds.length:=(List.getElem?_eq_some_iff.1 hi).1
   have:=hle hh.1.symm
   omega
 refine ⟨r.dom,fun x e' hx=>?_,r.sep,fun x e' o' h1 h2 h3=>by rw [World.size_setCell];exact r.live x e' o' h1 h2 h3,r.fresh,r.below.setCell (by exact hB) u,by simpa using r.base,r.glob⟩
 obtain ⟨o',h1,h2⟩:=r.obj x e' hx
 refine ⟨o',h1,?_⟩
 by_cases hxb:x=b
 ·subst hxb
  rw [hb] at hx
  cases hx
  rw [hg] at h1
  cases h1
  exact ⟨hB,keep e cs (fun _=>Nat.le_refl _) hcf,own_setCell hown _ _⟩
 ·by_cases hbk:e'.blk=e.blk
  ·cases o' with
   | dead=>trivial
   | cells ds st =>
    have hs:=r.sep b x e e' _ _ S hb hx (Ne.symm hxb) hg rfl h1 rfl hbk
    cases st with
    | ro=>exact absurd (h2.1) (by rw [hbk];omega)
    | tip S' fz' ty'=>exact absurd hs.2.1 (by simp [Obj.sups])
    | sup=>exact keep e' ds (fun _=>hs.2.2) h2
   | map _ _ _ | loop _ _ _ _ _ _ _ | dfr | iter _ _ _ _ =>
    have hs:=r.sep b x e e' _ _ S hb hx (Ne.symm hxb) hg rfl h1 rfl hbk
    exact absurd hs.2.1 (by simp [Obj.sups])
  ·exact h2.heap (heap_setCell_ne _ _ _ _ hbk)
theorem Rel.beyonds:∀ (us:List Value) (j:Nat) {w:World} (r:Rel P B w0 ρ h w) {b:Nat} {e:Emb} {cs:List V} {S:List Nat} {fz:Nat} {ty:Option Nat} (hb:ρ b=some e)
  (hg:h.get b=some (.cells cs (.tip S fz ty))) (hj:cs.length≤j) (hz:fz≤cs.length) (hl:e.off+j+us.length≤e.lim) (h1:∀ u∈us,u.oneCell'=true) (a:Addr) (i:Nat) (ha:a.add i=at_ e j),
  ∃ w',(storeCells a us i).run P w=.ok () w'∧Rel P B w0 ρ h w'∧(∀ k u,us[k]? = some u→w'.cell? (at_ e (j+k))=some u)∧(∀ k,k<j→w'.cell? (at_ e k)=w.cell? (at_ e k)):=by
 intro us
 induction us with
 | nil=>intro j w r b e cs S fz ty hb hg hj hz hl h1 a i ha;exact ⟨w,rfl,r,fun k u hk=>by simp at hk,fun _ _=>rfl⟩
 | cons u us ih =>
  intro j w r b e cs S fz ty hb hg hj hz hl h1 a i ha
  simp only [List.length_cons] at hl
  obtain ⟨o0,hg0,hr0⟩:=r.obj b e hb
  rw [hg] at hg0
  cases hg0
  obtain ⟨hB,hcf,hown⟩:=hr0
  obtain ⟨u0,hu0⟩:=cellThere hown (show e.off+j<e.lim by omega)
  have hf:=notFrozen hown (show fz≤j by omega) (show e.off+j<e.lim by omega)
  have hs:=run_store_there (P:=P) (w:=w) (h1 u (by simp)) hu0 hf .plain
  rw [←ha] at hs
  have r1:=r.beyond hb hg hj u
  have ha1:a.add (i+1)=at_ e (j+1):=by
   rw [←at_add,←ha]
   unfold Addr.add
   by_cases hi:i=0
   ·subst hi;simp
   ·rw [if_neg (by omega),if_neg hi,if_neg (by omega)];simp [Nat.add_assoc]
  obtain ⟨w',hw',r',hc',hk'⟩:=ih (j+1) r1 hb hg (by omega) hz (by omega) (fun x hx=>h1 x (by simp [hx])) a (i+1) ha1
  refine ⟨w',by rw [run_storeCells_cons a u us i w _ hs,ha];exact hw',r',fun k x hk=>?_,fun k hk=>?_⟩
  ·cases k with
   | zero =>
    simp at hk
    subst hk
    rw [hk' (j+0) (by omega)]
    exact World.cell?_setCell_same _ _ _ hu0
   | succ k =>
    simp at hk
    have:=hc' k x hk
    rwa [show j+1+k=j+(k+1) by omega] at this
  ·rw [hk' k (by omega),World.cell?_setCell_other]
   intro hh
   simp only [at_,Addr.mk.injEq] at hh
   omega
theorem Rel.shared (r:Rel P B w0 ρ h w) {b:Nat} {e:Emb} {cs items:List V} {us:List Value} {S:List Nat} {fz o:Nat} {ty tyK:Option Nat} (hb:ρ b=some e) (hg:h.get b=some (.cells cs (.tip S fz ty)))
  (ho:o≤cs.length) (hz:fz≤cs.length) (hl:e.off+cs.length+items.length≤e.lim) (hv:VRs ρ items us) (hc:∀ k u,us[k]? = some u→w.cell? (at_ e (cs.length+k))=some u) :
  Rel P B w0 (Rho.with_ ρ h.size ⟨e.blk,e.off+o,e.lim⟩) ((h.put b (.cells cs .sup)).push (.cells (cs.drop o++items) (.tip (b::S) (fz-o) (joinTy tyK ty o)))) w:=by
 have hn:ρ h.size=none:=by
  cases hx:ρ h.size with
  | none=>rfl
  | some e'=>exact absurd (r.dom _ _ hx) (Nat.lt_irrefl _)
 have hle:RLe ρ (Rho.with_ ρ h.size ⟨e.blk,e.off+o,e.lim⟩):=with_le hn
 obtain ⟨o0,hg0,hr0⟩:=r.obj b e hb
 rw [hg] at hg0
 cases hg0
 obtain ⟨hB,hcf,hown⟩:=hr0
 have blt:=r.dom b e hb
 have get':∀ x,((h.put b (.cells cs .sup)).push (.cells (cs.drop o++items) (.tip (b::S) (fz-o) (joinTy tyK ty o)))).get x =
   if x=h.size then some (.cells (cs.drop o++items) (.tip (b::S) (fz-o) (joinTy tyK ty o))) else if x=b then some (.cells cs .sup) else h.get x:=by
  intro x;rw [Heap.get_push,Heap.get_put,Heap.size_put]
 have old:∀ {x:Nat} {e1:Emb},Rho.with_ ρ h.size ⟨e.blk,e.off+o,e.lim⟩ x=some e1→x≠h.size→ρ x=some e1:=by
  intro x e1 hx hne
  unfold Rho.with_ at hx
  rwa [if_neg hne] at hx
 have new:∀ {e1:Emb},Rho.with_ ρ h.size ⟨e.blk,e.off+o,e.lim⟩ h.size=some e1→e1=⟨e.blk,e.off+o,e.lim⟩:=by
  intro e1 hx
  rw [with_same] at hx
  cases hx;rfl
 have newfacts:CellFacts (Rho.with_ ρ h.size ⟨e.blk,e.off+o,e.lim⟩) w ⟨e.blk,e.off+o,e.lim⟩ (cs.drop o++items):=by
  intro i v hi
  by_cases hlt:i<(cs.drop o).length
  ·rw [List.getElem?_append_left hlt,List.getElem?_drop] at hi
   obtain ⟨u,hu,hr⟩:=hcf _ _ hi
   refine ⟨u,?_,hr.mono hle⟩
   have:at_ ⟨e.blk,e.off+o,e.lim⟩ i=at_ e (o+i):=by simp [at_,Nat.add_assoc]
   rw [this];exact hu
  ·rw [List.getElem?_append_right (by omega)] at hi
   obtain ⟨u,hu,hr⟩:=hv.get _ _ hi
   refine ⟨u,?_,hr.mono hle⟩
   have:at_ ⟨e.blk,e.off+o,e.lim⟩ i=at_ e (cs.length+(i-(cs.drop o).length)):=by
    simp only [at_,List.length_drop,Addr.mk.injEq,true_and,and_true]
    simp only [List.length_drop] at hlt
    omega
   rw [this];exact hc _ _ hu
 refine ⟨fun x e1 hx=>?_,fun x e1 hx=>?_,?_,fun x e1 o1 h1 h2 h3=>?_,fun x hx=>?_,r.below,r.base,r.glob.mono hle⟩
 ·rw [Heap.size_push,Heap.size_put]
  by_cases hxn:x=h.size
  ·omega
  ·have:=r.dom x e1 (old hx hxn);omega
 ·rw [get']
  by_cases hxn:x=h.size
  ·subst hxn
   rw [new hx]
   refine ⟨_,by rw [if_pos rfl],?_⟩
   obtain ⟨⟨c,el,fr,q1,q2,q3⟩,q4⟩:=hown
   exact ⟨hB,newfacts,⟨⟨c,el,fr,q1,q2,by
    rcases q3.1 with q | q | ⟨q,q'⟩
    ·exact .inl q
    ·refine .inr (.inl ?_);simp only;omega
    ·refine .inr (.inr ⟨?_,q'⟩);rw [q];cases tyK <;> rfl,fun t ht=>by obtain ⟨_,h2,h3⟩:=joinTy_some ht;obtain ⟨g1,g2⟩:=q3.2 t h2;exact ⟨g1,by simp only;omega⟩⟩,by simp only [List.length_append,List.length_drop];omega⟩⟩
  ·rw [if_neg hxn]
   by_cases hxb:x=b
   ·subst hxb
    have:=old hx hxn
    rw [hb] at this
    cases this
    exact ⟨.cells cs .sup,by rw [if_pos rfl],CellFacts.mono hcf hle⟩
   ·rw [if_neg hxb]
    obtain ⟨o',q1,q2⟩:=r.obj x e1 (old hx hxn)
    exact ⟨o',q1,q2.mono hle⟩
 ·intro x x' e1 e2 o1 o2 S' h1 h2 h3 h4 h5 h6 h7 h8
  rw [get'] at h4 h6
  by_cases hxn:x=h.size
  ·subst hxn
   rw [if_pos rfl] at h4
   cases h4
   cases h5
   rw [new h1] at h8 ⊢
   simp only at h8
   rw [if_neg (Ne.symm h3)] at h6
   have h2':=old h2 (Ne.symm h3)
   by_cases hxb:x'=b
   ·subst hxb
    rw [if_pos rfl] at h6
    cases h6
    rw [hb] at h2'
    cases h2'
    refine ⟨by simp,rfl,?_⟩
    simp only [Obj.len,List.length_append,List.length_drop]
    omega
   ·rw [if_neg hxb] at h6
    have:=r.sep b x' e e2 _ o2 S hb h2' (Ne.symm hxb) hg rfl h6 h7 h8
    refine ⟨by simp [this.1],this.2.1,?_⟩
    have h3:=this.2.2
    simp only [Obj.len,List.length_append,List.length_drop] at h3 ⊢
    omega
  ·rw [if_neg hxn] at h4
   have h1':=old h1 hxn
   by_cases hxb:x=b
   ·subst hxb
    rw [if_pos rfl] at h4
    cases h4
    cases h5
   ·rw [if_neg hxb] at h4
    by_cases hxn':x'=h.size
    ·subst hxn'
     rw [new h2] at h8
     simp only at h8
     exact absurd (r.sep x b e1 e o1 _ S' h1' hb hxb h4 h5 hg rfl h8).2.1 (by simp [Obj.sups])
    ·rw [if_neg hxn'] at h6
     have h2':=old h2 hxn'
     by_cases hxb':x'=b
     ·subst hxb'
      rw [if_pos rfl] at h6
      cases h6
      rw [hb] at h2'
      cases h2'
      exact absurd (r.sep x x' e1 e o1 _ S' h1' hb hxb h4 h5 hg rfl h8).2.1 (by simp [Obj.sups])
     ·rw [if_neg hxb'] at h6
      exact r.sep x x' e1 e2 o1 o2 S' h1' h2' h3 h4 h5 h6 h7 h8
 ·rw [get'] at h2
  by_cases hxn:x=h.size
  ·subst hxn
   rw [new h1]
   exact r.live b e _ hb hg rfl
  ·rw [if_neg hxn] at h2
   by_cases hxb:x=b
   ·subst hxb
    have:=old h1 hxn
    rw [hb] at this
    cases this
    exact r.live x e _ hb hg rfl
   ·rw [if_neg hxb] at h2
    exact r.live x e1 o1 (old h1 hxn) h2 h3
 ·rw [Heap.size_push,Heap.size_put] at hx
  rw [get',if_neg (by omega),if_neg (by omega)]
  exact r.fresh x (by omega)
theorem Rel.setOwn (r:Rel P B w0 ρ h w) {b:Nat} {e:Emb} {o o2:Obj} (hb:ρ b=some e) (hg:h.get b=some o) (hs:o.sups=some []) (hs2:o2.sups≠none∨o2.alive=false) (hs3:∀ S,o2.sups=some S→S=[]) (hB:B≤e.blk) (ob:Go.Obj)
  (hrel:ORel P B ρ { w with heap:=w.heap.setIfInBounds e.blk ob } e o2) :
  Rel P B w0 ρ (h.put b o2) { w with heap:=w.heap.setIfInBounds e.blk ob }:=by
 have hal:o.alive=true:=by cases o <;> first | rfl | (cases hs;done)
 have hlt:e.blk<w.heap.size:=r.live b e o hb hg hal
 have other:∀ x e' o',x≠b→ρ x=some e'→h.get x=some o'→o'.alive=true→e'.blk≠e.blk:=by
  intro x e' o' hne hx hgx ha he
  have:=(r.sep b x e e' _ o' [] hb hx (Ne.symm hne) hg hs hgx ha he).1
  cases this
 have keep:∀ k,k≠e.blk→(w.heap.setIfInBounds e.blk ob)[k]? = w.heap[k]?:=fun k hk=>Array.getElem?_setIfInBounds_ne (Ne.symm hk)
 refine ⟨fun x e' hx=>r.dom x e' hx,fun x e' hx=>?_,?_,fun x e' o' h1 h2 h3=>?_,fun x hx=>?_,
  r.below.trans ⟨rfl,rfl,rfl,by simp,fun k hk=>keep k (by omega)⟩,by simpa using r.base,r.glob⟩
 ·rw [Heap.get_put]
  by_cases hxb:x=b
  ·subst hxb
   rw [hb] at hx
   cases hx
   exact ⟨o2,by rw [if_pos rfl],hrel⟩
  ·rw [if_neg hxb]
   obtain ⟨o',h1,h2⟩:=r.obj x e' hx
   refine ⟨o',h1,?_⟩
   cases ha:o'.alive with
   | false=>cases o' <;> simp_all [Obj.alive];trivial
   | true=>exact h2.heap (keep _ (other x e' o' hxb hx h1 ha))
 ·intro x x' e1 e2 o1 o3 S' h1 h2 h3 h4 h5 h6 h7 h8
  rw [Heap.get_put] at h4 h6
  by_cases hx:x=b
  ·subst hx
   rw [if_neg (Ne.symm h3)] at h6
   rw [hb] at h1
   cases h1
   exact absurd h8 (other x' e2 o3 (Ne.symm h3) h2 h6 h7)
  ·rw [if_neg hx] at h4
   by_cases hx':x'=b
   ·subst hx'
    rw [if_pos rfl] at h6
    cases h6
    exact absurd (r.sep x x' e1 e2 o1 _ S' h1 h2 h3 h4 h5 hg hal h8).2.1 (by rw [hs];simp)
   ·rw [if_neg hx'] at h6
    exact r.sep x x' e1 e2 o1 o3 S' h1 h2 h3 h4 h5 h6 h7 h8
 ·rw [Heap.get_put] at h2
  show e'.blk<(w.heap.setIfInBounds _ _).size
  rw [Array.size_setIfInBounds]
  by_cases hxb:x=b
  ·subst hxb;exact r.live x e' _ h1 hg hal
  ·rw [if_neg hxb] at h2;exact r.live x e' o' h1 h2 h3
 ·rw [Heap.get_put,if_neg (by have:h.size≤x:=hx;have:=r.dom b e hb;omega)]
  exact r.fresh x hx
theorem Rel.setMap (r:Rel P B w0 ρ h w) {b:Nat} {e:Emb} {es es':List (V × V)} {bs:List Nat} {cl:Nat} (hb:ρ b=some e) (hg:h.get b=some (.map es bs cl)) (ces:Array MapEntry) (bs':List Nat) (clock:Nat) (hm:MR ρ es' ces.toList) (hbs:bs'=ces.toList.map MapEntry.born) :
  Rel P B w0 ρ (h.put b (.map es' bs' clock)) { w with heap:=w.heap.setIfInBounds e.blk (.map ces clock) }:=by
 obtain ⟨o0,hg0,hr0⟩:=r.obj b e hb
 rw [hg] at hg0
 cases hg0
 obtain ⟨hB,ces0,hc0,hm0,_⟩:=hr0
 have hlt:e.blk<w.heap.size:=(Array.getElem?_eq_some_iff.1 hc0).1
 refine r.setOwn hb hg rfl (.inl (by simp [Obj.sups])) (fun S hS=>by cases hS;rfl) hB _ ⟨hB,ces,?_,hm,hbs⟩
 simp [hlt]
end
end Abs
end Go.Proofs.YthgcjbniipfnbaaGreatDoor
namespace Go.Proofs.YthgcjbniipfnbaaGreatDoor
namespace Abs
set_option linter.unusedVariables false
set_option linter.unusedSimpArgs false
open Go.RowKit
section
variable {P:Program} {B:Nat} {w0 w:World} {ρ:Rho} {h:Heap}
theorem run_und {t:TypeId} {d:TypeDesc} (hd:P.underlying t=some d):(underlying t).run P w=.ok d w:=by
 simp only [underlying,Sem.run_bind,run_program,Result.andThen_ok,hd,Sem.run_pure]
theorem run_size {t:TypeId} {n:Nat} (hd:sizeC P t=some n):(sizeOf t).run P w=.ok n w:=by
 unfold sizeC at hd
 cases hi:P.info? t with
 | none=>rw [hi] at hd;cases hd
 | some i =>
  rw [hi] at hd
  simp only [Option.map_some,Option.some.injEq] at hd
  simp only [sizeOf,typeInfo,Sem.run_bind,run_program,Result.andThen_ok,hi,Sem.run_pure,hd]
theorem run_zero {t:TypeId} {z:Value} (hd:zeroVal P t=some z):(zeroValue t).run P w=.ok z w:=by
 unfold zeroVal at hd
 cases hi:P.info? t with
 | none=>rw [hi] at hd;cases hd
 | some i =>
  rw [hi] at hd
  simp only [Option.bind_some] at hd
  simp only [zeroValue,typeInfo,Sem.run_bind,run_program,Result.andThen_ok,hi,Sem.run_pure,hd]
theorem zeroC_val {t:TypeId} {zs:List V} (hd:zeroC P t=some zs):∃ z,zeroVal P t=some z∧∀ ρ,VRs ρ zs z.cells.toList:=by
 unfold zeroC at hd
 split at hd
 ·rename_i z hz
  exact ⟨z,hz,fun ρ=>ofVs_sound ρ hd⟩
 ·cases hd
theorem aggC_none {t:TypeId} (hd:aggC P t=some none):(isAgg t).run P w=.ok false w:=by
 unfold aggC at hd
 split at hd
 ·split at hd <;> cases hd
 ·split at hd <;> cases hd
 ·rename_i d h1 h2 hu
  simp only [isAgg,Sem.run_bind,run_und hu,Result.andThen_ok]
  rfl
 ·cases hd
theorem aggC_some {t:TypeId} {n:Nat} (hd:aggC P t=some (some n)):(isAgg t).run P w=.ok true w∧sizeC P t=some n:=by
 unfold aggC at hd
 split at hd
 ·rename_i fs hu
  split at hd
  ·rename_i m hm
   cases hd
   exact ⟨by simp only [isAgg,Sem.run_bind,run_und hu,Result.andThen_ok,Sem.run_pure],hm⟩
  ·cases hd
 ·rename_i l e hu
  split at hd
  ·rename_i m hm
   cases hd
   exact ⟨by simp only [isAgg,Sem.run_bind,run_und hu,Result.andThen_ok,Sem.run_pure],hm⟩
  ·cases hd
 ·cases hd
 ·cases hd
theorem load_sound (r:Rel P B w0 ρ h w) {t:TypeId} {g:Option Nat} (hg:aggC P t=some g) {a:V} {ua:Value} (ha:VR ρ a ua) {v:V} (hv:loadA h g a=some v) :
  ∃ p,ua=.pointer (some p)∧∃ u,(loadVar t p).run P w=.ok u w∧VR ρ v u:=by
 unfold loadA at hv
 split at hv
 ·rename_i b o
  cases ha with
  | ptr _ _ e p he hp =>
  refine ⟨p,rfl,?_⟩
  subst hp
  split at hv
  ·obtain ⟨u,hu,hr⟩:=r.rd he hv
   refine ⟨u,?_,hr⟩
   simp only [loadVar,Sem.run_bind,aggC_none hg,Result.andThen_ok,Bool.false_eq_true,if_false,run_load,hu]
  ·rename_i n
   split at hv
   ·rename_i cs hcs
    cases hv
    obtain ⟨hl,us,h1,h2⟩:=r.rds (P:=P) he hcs
    obtain ⟨ga,gs⟩:=aggC_some (w:=w) hg
    refine ⟨.agg us.toArray,?_,.agg _ _ (by simpa using h1)⟩
    simp only [loadVar,Sem.run_bind,ga,Result.andThen_ok,if_true,run_size gs,h2,Sem.run_pure]
   ·cases hv
 ·cases hv
theorem store_sound (r:Rel P B w0 ρ h w) {t:TypeId} {n:Nat} (hn:sizeC P t=some n) {a x:V} {ua ux:Value} (ha:VR ρ a ua) (hx:VR ρ x ux) {h':Heap} (hv:storeA h n a x=some h') :
  ∃ p,ua=.pointer (some p)∧∃ w',(storeVar t p ux).run P w=.ok () w'∧Rel P B w0 ρ h' w':=by
 unfold storeA at hv
 split at hv
 ·rename_i b o
  cases ha with
  | ptr _ _ e p he hp =>
  refine ⟨p,rfl,?_⟩
  subst hp
  split at hv
  ·rename_i hl
   obtain ⟨w',h1,h2⟩:=r.wr (P:=P) hv he hx.cells
   refine ⟨w',?_,h2⟩
   have hs:ux.cells.size=n:=by
    have:=hx.cells.length
    simp only [Array.length_toList] at this
    omega
   simp only [storeVar,Sem.run_bind,run_size hn,Result.andThen_ok,hs,ne_eq,not_true_eq_false,if_false,h1]
  ·cases hv
 ·cases hv
/-! ### Numbers, strings -/
theorem strOf_append (s t:ByteArray):strOf (s++t)=strOf s++strOf t:=by
 simp [strOf,ByteArray.data_append]
theorem toNat_inj {a b:List UInt8} (h:a.map UInt8.toNat=b.map UInt8.toNat):a=b:=by
 induction a generalizing b with
 | nil=>cases b with
  | nil=>rfl
  | cons y b=>simp at h
 | cons x a ih=>cases b with
  | nil=>simp at h
  | cons y b =>
   simp only [List.map_cons,List.cons.injEq] at h
   rw [ih h.2,UInt8.toNat_inj.1 h.1]
theorem bytesLess_eq:∀ (a b:List UInt8),Op.bytesLess a b=lessL (a.map UInt8.toNat) (b.map UInt8.toNat)
 | _,[]=>by simp [Op.bytesLess,lessL]
 | [],_::_=>by simp [Op.bytesLess,lessL]
 | a::x,b::y=>by
  have he:(a == b)=(a.toNat == b.toNat):=by
   rw [Bool.eq_iff_iff];simp [UInt8.toNat_inj]
  have hl:decide (a<b)=decide (a.toNat<b.toNat):=by simp [UInt8.lt_iff_toNat_lt]
  simp only [Op.bytesLess,lessL,List.map_cons,bytesLess_eq x y,he,hl]
theorem strEq (s t:ByteArray):(s.toList == t.toList)=beqL (strOf s) (strOf t):=by
 rw [Bool.eq_iff_iff,beqL_iff]
 simp only [beq_iff_eq,strOf]
 constructor
 ·intro h;rw [ByteArray.toList_eq,ByteArray.toList_eq] at h;rw [h]
 ·intro h;rw [ByteArray.toList_eq,ByteArray.toList_eq];exact toNat_inj h
theorem guard_flat (op:BinOp) (t:TypeId) (x y:Operand) {a b:Value} (h1:¬ (a=.nilIface∧b=.nilIface)) (h2:∀ c d,¬ (a=.agg c∧b=.agg d)):(eqGuard op t x y a b).run P w=.ok () w:=by
 unfold eqGuard
 split
 ·simp only [Bool.not_true,Bool.false_eq_true,if_false]
  split
  ·exact absurd ⟨rfl,rfl⟩ h1
  ·exact absurd ⟨rfl,rfl⟩ (h2 _ _)
  ·rfl
 ·simp only [Bool.not_true,Bool.false_eq_true,if_false]
  split
  ·exact absurd ⟨rfl,rfl⟩ h1
  ·exact absurd ⟨rfl,rfl⟩ (h2 _ _)
  ·rfl
 ·rfl
theorem bin_sound {op:BinOp} {t:TypeId} {ox oy:Operand} {x y v:V} {ux uy:Value} (hv:binA op x y=some v) (hx:VR ρ x ux) (hy:VR ρ y uy) :
  ∃ u,(do eqGuard op t ox oy ux uy;binOp op t ux uy:Sem Value).run P w=.ok u w∧VR ρ v u:=by
 unfold binA at hv
 split at hv
 ·rename_i k a k' b
  cases hx
  cases hy
  simp only [Sem.run_bind,guard_flat (P:=P) (w:=w) op t ox oy (a:=.int k a) (b:=.int k' b) (by simp) (by simp),Result.andThen_ok]
  cases op
  case shl =>
   simp only [shiftA] at hv
   split at hv
   ·cases hv
   ·rename_i hn
    cases hv
    exact ⟨_,by simp only [binOp,Op.shift,hn,if_false,Sem.run_pure],.int _ _⟩
  case shr =>
   simp only [shiftA] at hv
   split at hv
   ·cases hv
   ·rename_i hn
    cases hv
    exact ⟨_,by simp only [binOp,Op.shift,hn,if_false,Sem.run_pure],.int _ _⟩
  case quo =>
   simp only at hv
   split at hv
   ·rename_i hk
    obtain ⟨rfl,hb⟩:=hk
    cases hv
    exact ⟨_,by simp only [binOp,Op.intDiv,ne_eq,not_true_eq_false,if_false,hb,Sem.run_pure],.int _ _⟩
   ·cases hv
  case rem =>
   simp only at hv
   split at hv
   ·rename_i hk
    obtain ⟨rfl,hb⟩:=hk
    cases hv
    exact ⟨_,by simp only [binOp,Op.intDiv,ne_eq,not_true_eq_false,if_false,hb,Sem.run_pure],.int _ _⟩
   ·cases hv
  all_goals
   simp only at hv
   split at hv
   ·rename_i hk
    subst hk
    cases hv
    refine ⟨_,by (simp only [binOp,ne_eq,not_true_eq_false,if_false];rfl),?_⟩
    constructor
   ·cases hv
 ·rename_i a b
  cases hx with
  | str s _ hs =>
  cases hy with
  | str s' _ hs' =>
  subst hs hs'
  simp only [Sem.run_bind,guard_flat (P:=P) (w:=w) op t ox oy (a:=.string s) (b:=.string s') (by simp) (by simp),Result.andThen_ok]
  have he:=strEq s s'
  have hl:Op.bytesLess s.toList s'.toList=lessL (strOf s) (strOf s'):=by
   rw [bytesLess_eq,ByteArray.toList_eq,ByteArray.toList_eq];rfl
  cases op <;> simp only at hv
  case add =>
   split at hv
   ·rename_i hk
    cases hv
    have hn:¬ (((s.size+s'.size:Nat):Int) > IntKind.i64.max):=by
     have h1:(strOf s).length=s.size:=by simp [strOf]
     have h2:(strOf s').length=s'.size:=by simp [strOf]
     rw [h1,h2] at hk
     have:IntKind.i64.max=9223372036854775807:=by decide
     rw [this];omega
    exact ⟨.string (s++s'),by simp only [binOp,Op.stringOp,hn,if_false,Sem.run_pure],.str _ _ (strOf_append s s').symm⟩
   ·cases hv
  all_goals first
   | (cases hv;done)
   | (cases hv;exact ⟨_,by simp only [binOp,Op.stringOp,he,hl,Sem.run_pure],.bool _⟩)
 ·cases hv
theorem part_sound {t:TypeId} {g:Option Nat} (hg:aggC P t=some g) {xs:List V} {a:Array Value} (hx:VRs ρ xs a.toList) {off:Nat} {v:V} (hv:aggOf g xs off=some v) :
  ∃ u,(part t a off).run P w=.ok u w∧VR ρ v u:=by
 unfold aggOf at hv
 split at hv
 ·obtain ⟨u,hu,hr⟩:=hx.get _ _ hv
  refine ⟨u,?_,hr⟩
  have hu':a[off]? = some u:=by simpa using hu
  simp only [part,Sem.run_bind,aggC_none hg,Result.andThen_ok,Bool.false_eq_true,if_false,hu',Sem.run_pure]
 ·rename_i n
  split at hv
  ·rename_i hl
   cases hv
   obtain ⟨ga,gs⟩:=aggC_some (w:=w) hg
   refine ⟨.agg (a.extract off (off+n)),?_,.agg _ _ ?_⟩
   ·simp only [part,Sem.run_bind,ga,Result.andThen_ok,if_true,run_size gs,Sem.run_pure]
   ·have:=(hx.drop off).take n
    rw [Array.toList_extract,List.extract_eq_take_drop]
    simpa using this
  ·cases hv
theorem flatC {n:Nat} {t:TypeId} {k:FK} (ht:eqdC P (n+1) t=some (.flat k)) :
  match k with
  | .bool=>P.underlying t=some .bool
  | .int=>∃ i,P.underlying t=some (.int i)
  | .str=>P.underlying t=some .string
  | .ptr=>∃ e m,P.underlying t=some (.pointer e)∧sizeC P e=some (m+1)
  | .slice=>∃ e,P.underlying t=some (.slice e)
  | .map=>∃ e f,P.underlying t=some (.map e f)
  | .func=>∃ a b c,P.underlying t=some (.func a b c):=by
 unfold eqdC at ht
 split at ht
 all_goals rename_i hu
 all_goals first
  | (cases ht;done)
  | (cases ht;exact hu)
  | (cases ht;exact ⟨_,hu⟩)
  | (cases ht;exact ⟨_,_,hu⟩)
  | (cases ht;exact ⟨_,_,_,hu⟩)
  | skip
 ·split at ht
  ·rename_i hs;cases ht;exact ⟨_,_,hu,hs⟩
  ·cases ht
 ·split at ht
  ·cases ht
  ·split at ht <;> cases ht
theorem flat_sound {k:FK} {x y:V} {b:Bool} {ux uy:Value} (hv:flatEq k x y=some b) (hx:VR ρ x ux) (hy:VR ρ y uy) (d n:Nat) {t:TypeId} (ht:eqdC P (n+1) t=some (.flat k)) :
  (Op.equalIn (d+1) t ux uy).run P w=.ok b w:=by
 have hc:=flatC ht
 unfold flatEq at hv
 split at hv
 ·cases hx;cases hy;cases hv
  exact run_equalIn_bool w d t _ _ hc
 ·obtain ⟨i,hu⟩:=hc
  cases hx;cases hy
  split at hv
  ·rename_i hk;subst hk;cases hv
   exact run_equalIn_int w d t _ i _ _ hu
  ·cases hv
 ·cases hx with
  | str s _ hs =>
  cases hy with
  | str s' _ hs' =>
  cases hv
  rw [run_equalIn_string w d t _ _ hc,strEq,hs,hs']
 ·obtain ⟨e,m,hu,hs⟩:=hc
  cases hx
  cases hv
  cases hy <;> simp only [Op.equalIn,Sem.run_bind,run_und hu,Result.andThen_ok] <;> rfl
 ·obtain ⟨e,m,hu,hs⟩:=hc
  cases hx;cases hy
  cases hv
  simp only [Op.equalIn,Sem.run_bind,run_und hu,Result.andThen_ok];rfl
 ·obtain ⟨e,m,hu,hs⟩:=hc
  cases hx with
  | ptr _ _ e1 a1 h1 h1' =>
  cases hy with
  | ptr _ _ e2 a2 h2 h2' =>
  split at hv
  ·rename_i hb
   subst hb
   cases hv
   rw [h1] at h2
   cases h2
   subst h1' h2'
   simp only [Op.equalIn,Sem.run_bind,run_und hu,Result.andThen_ok,run_size hs,ne_eq,Nat.add_one_ne_zero,not_false_eq_true,if_true]
   simp only [sameAddr,at_]
   simp
   rw [Bool.eq_iff_iff]
   simp
  ·cases hv
 ·obtain ⟨e,hu⟩:=hc
  cases hx
  cases hv
  cases hy <;> simp only [Op.equalIn,Sem.run_bind,run_und hu,Result.andThen_ok] <;> rfl
 ·obtain ⟨e,hu⟩:=hc
  cases hx;cases hy;cases hv
  simp only [Op.equalIn,Sem.run_bind,run_und hu,Result.andThen_ok];rfl
 ·obtain ⟨e,hu⟩:=hc
  cases hx;cases hy;cases hv
  simp only [Op.equalIn,Sem.run_bind,run_und hu,Result.andThen_ok];rfl
 ·obtain ⟨e,hu⟩:=hc
  cases hx;cases hy;cases hv
  simp only [Op.equalIn,Sem.run_bind,run_und hu,Result.andThen_ok];rfl
 ·obtain ⟨e,f,hu⟩:=hc
  cases hx
  cases hv
  cases hy <;> simp only [Op.equalIn,Sem.run_bind,run_und hu,Result.andThen_ok] <;> rfl
 ·obtain ⟨e,f,hu⟩:=hc
  cases hx;cases hy;cases hv
  simp only [Op.equalIn,Sem.run_bind,run_und hu,Result.andThen_ok];rfl
 ·obtain ⟨e,f,g,hu⟩:=hc
  cases hx;cases hy;cases hv
  simp only [Op.equalIn,Sem.run_bind,run_und hu,Result.andThen_ok];rfl
 ·obtain ⟨e,f,g,hu⟩:=hc
  cases hx;cases hy;cases hv
  simp only [Op.equalIn,Sem.run_bind,run_und hu,Result.andThen_ok];rfl
 ·obtain ⟨e,f,g,hu⟩:=hc
  cases hx;cases hy;cases hv
  simp only [Op.equalIn,Sem.run_bind,run_und hu,Result.andThen_ok];rfl
 ·cases hv
mutual
theorem eqA_sound:∀ (n:Nat) {d:EqD} {t:TypeId} (ht:eqdC P n t=some d) {x y:V} {b:Bool} (hv:eqA d x y=some b) {ux uy:Value} (hx:VR ρ x ux) (hy:VR ρ y uy) (k:Nat) (hk:n≤k),
  (Op.equalIn k t ux uy).run P w=.ok b w
 | 0,d,t,ht,x,y,b,hv,ux,uy,hx,hy,k,hk=>by unfold eqdC at ht;cases ht
 | n+1,.flat f,t,ht,x,y,b,hv,ux,uy,hx,hy,k,hk=>by
  obtain ⟨k,rfl⟩:∃ m,k=m+1:=⟨k-1,by omega⟩
  unfold eqA at hv
  exact flat_sound hv hx hy k n ht
 | n + 1,.struct fs,t,ht,x,y,b,hv,ux,uy,hx,hy,k,hk=>by
  obtain ⟨k,rfl⟩:∃ m,k=m+1:=⟨k-1,by omega⟩
  have hq:∃ fields,P.underlying t=some (.struct fields)∧P.stoodInHeld t=false∧eqdsC P n fields.toList=some fs:=by
   unfold eqdC at ht
   split at ht <;> try (cases ht;done)
   ·split at ht <;> cases ht
   ·rename_i fields hu
    split at ht
    ·cases ht
    ·rename_i hs
     split at ht
     ·rename_i l hl
      cases ht
      exact ⟨_,hu,by simpa using hs,hl⟩
     ·cases ht
  obtain ⟨fields,hu,hs,hl⟩:=hq
  cases x <;> try (unfold eqA at hv;cases hv;done)
  rename_i xs
  cases y <;> try (unfold eqA at hv;cases hv;done)
  rename_i ys
  unfold eqA at hv
  cases hx with
  | agg _ a ha =>
  cases hy with
  | agg _ c hc =>
  have hf:P.fieldsOf t=fields:=by unfold Program.fieldsOf;rw [hu]
  rw [run_equalIn_struct w k t a c (by rw [hf];exact hu) hs,hf]
  exact eqAs_sound n hl hv ha hc k (by omega)
theorem eqAs_sound:∀ (n:Nat) {fields:List Field} {fs:List (Nat × Option Nat × EqD)} (hl:eqdsC P n fields=some fs) {xs ys:List V} {b:Bool} (hv:eqAs fs xs ys=some b) {a c:Array Value} (ha:VRs ρ xs a.toList) (hc:VRs ρ ys c.toList) (k:Nat) (hk:n≤k),
  (Op.eqFields k a c fields).run P w=.ok b w
 | 0,_,_,hl,_,_,_,_,_,_,_,_,_,_=>by unfold eqdsC at hl;cases hl
 | n+1,[],fs,hl,xs,ys,b,hv,a,c,ha,hc,k,hk=>by
  unfold eqdsC at hl
  cases hl
  unfold eqAs at hv
  cases hv
  rfl
 | n + 1,f::r,fs,hl,xs,ys,b,hv,a,c,ha,hc,k,hk=>by
  unfold eqdsC at hl
  unfold Op.eqFields
  split at hl
  ·rename_i hn
   rw [if_neg (by simpa using hn)]
   exact eqAs_sound n hl hv ha hc k (by omega)
  ·rename_i hn
   rw [if_pos hn]
   split at hl
   ·rename_i g d l hg hd hr
    cases hl
    unfold eqAs at hv
    split at hv
    ·rename_i x y hx hy
     obtain ⟨u1,h1,q1⟩:=part_sound (P:=P) (w:=w) hg ha hx
     obtain ⟨u2,h2,q2⟩:=part_sound (P:=P) (w:=w) hg hc hy
     simp only [Sem.run_bind,h1,Result.andThen_ok,h2]
     split at hv
     ·rename_i he
      rw [eqA_sound n hd he q1 q2 k (by omega)]
      simp only [Result.andThen_ok,Bool.not_true,Bool.false_eq_true,if_false]
      exact eqAs_sound n hr hv ha hc k (by omega)
     ·rename_i he
      cases hv
      rw [eqA_sound n hd he q1 q2 k (by omega)]
      simp only [Result.andThen_ok,Bool.not_false,if_true,Sem.run_pure]
     ·cases hv
    ·cases hv
   ·cases hl
end
end
end Abs
end Go.Proofs.YthgcjbniipfnbaaGreatDoor
namespace Go.Proofs.YthgcjbniipfnbaaGreatDoor
namespace Abs
set_option linter.unusedVariables false
set_option linter.unusedSimpArgs false
open Go.RowKit
section
variable {P:Program} {B:Nat} {w0 w:World} {ρ:Rho} {h:Heap}
structure Items (P:Program) (w:World) (size n:Nat) (x:Value) (us:List Value):Prop where
 len:∀ w,(Builtin.lenOf x).run P w=.ok n w
 cells:(Builtin.firstCells size n x).run P w=.ok us.toArray w
 cells':(Builtin.firstCells size n x).run P w.drew=.ok us.toArray w.drew
def appTypes (P:Program) (t u e:TypeId):Prop:=P.underlying t=some (.slice e)∧((∃ d,P.underlying u=some (.slice d))∨P.underlying u=some .string)
theorem info_of {t:TypeId} {size bytes:Nat} (hs:sizeC P t=some size) (hb:bytesC P t=some bytes):∃ i,P.info? t=some i∧i.size=size∧i.bytes=bytes:=by
 unfold sizeC at hs
 unfold bytesC at hb
 cases hi:P.info? t with
 | none=>rw [hi] at hs;cases hs
 | some i =>
  rw [hi] at hs hb
  simp only [Option.map_some,Option.some.injEq] at hs hb
  exact ⟨i,rfl,hs,hb⟩
theorem app_room {t u e ty:TypeId} (ht:appTypes P t u e) {size bytes n:Nat} (hs:sizeC P e=some size) (hb:bytesC P e=some bytes) {base:Option Addr} {sLen sCap:Nat} {x:Value} {us:List Value} (hx:Items P w size n x us)
  (hr:sLen+n≤sCap) {w':World} (hw:match base with | some a=>(storeCells (a.add (sLen*size)) us).run P w=.ok () w' | none=>w'=w) :
  (Builtin.append_ #[t,u] ty #[.slice base sLen sCap,x]).run P w=.ok (.slice base (sLen+n) sCap) w':=by
 obtain ⟨h1,h2⟩:=ht
 obtain ⟨i,hi,rfl,rfl⟩:=info_of hs hb
 have hl:=hx.len w
 have hc:=hx.cells
 rcases h2 with ⟨d,h2⟩ | h2 <;> cases base with
 | none =>
  subst hw
  simp [Builtin.append_,run_und h1,run_und h2,sizeOf,typeInfo,hi,hl,hr,hc]
 | some a =>
  simp only at hw
  simp [Builtin.append_,run_und h1,run_und h2,sizeOf,typeInfo,hi,hl,hr,hc,hw]
theorem app_grow {t u e ty:TypeId} (ht:appTypes P t u e) {size bytes n:Nat} (hs:sizeC P e=some size) (hb:bytesC P e=some bytes) (z:Value) (hz:zeroVal P e=some z)
  {base:Option Addr} {sLen sCap:Nat} {x:Value} {us olds:List Value} (hx:Items P w size n x us) (hb0:bytes≠0)
  (ho:(Builtin.firstCells size sLen (.slice base sLen sCap)).run P w.drew=.ok olds.toArray w.drew)
  (hr:¬ sLen+n≤sCap) (hroom:roomy (sLen+n) bytes=true) :
  ∃ c:Nat,sLen+n≤c∧c<2 ^ 63∧(Builtin.append_ #[t,u] ty #[.slice base sLen sCap,x]).run P w =
   .ok (.slice (some ⟨w.heap.size,0,none⟩) (sLen+n) c) (w.drew.alloc (.cells ((olds++us).toArray++Builtin.zeroCells z.cells (c-(sLen+n))) e)):=by
 obtain ⟨h1,h2⟩:=ht
 obtain ⟨i,hi,rfl,rfl⟩:=info_of hs hb
 have hiz:i.zero=some z:=by unfold zeroVal at hz;rw [hi] at hz;simpa using hz
 have hl:=hx.len w
 have hc:=hx.cells'
 have hrm:(2*(sLen+n)+2000)*i.bytes≤281474976710656:=by simpa [roomy] using hroom
 have hnc:=nextslicecap_le (need:=sLen+n) (old:=sCap) (by omega)
 have hmul:Builtin.nextslicecap (sLen+n) sCap*i.bytes≤281474976710656:=Nat.le_trans (Nat.mul_le_mul_right _ (by omega)) hrm
 have h48:¬ (281474976710656<Builtin.nextslicecap (sLen+n) sCap*i.bytes):=by omega
 have hsmall:sLen+n≤281474976710656:=by
  have:(sLen+n)*1≤(2*(sLen+n)+2000)*i.bytes:=Nat.mul_le_mul (by omega) (by omega)
  omega
 have h63:¬ (9223372036854775807<((sLen:Int)+(n:Int))):=by omega
 refine ⟨grownCap w (sLen+n) sCap e,grownCap_ge _ _ _ _,?_,?_⟩
 ·unfold grownCap
  simp only [Question.cut]
  have:w.tape w.drawn (.appendCap (sLen+n) sCap e) % (2 ^ 63-(sLen+n))<2 ^ 63-(sLen+n):=Nat.mod_lt _ (by omega)
  omega
 ·rcases h2 with ⟨d,h2⟩ | h2
  ·simp [Builtin.append_,run_und h1,run_und h2,sizeOf,typeInfo,zeroValue,hi,hiz,hl,hr,h63,h48,hb0,Question.forced,hc,ho,newRow,grownCap]
   congr 2;apply Array.ext';simp [List.append_assoc]
  ·simp [Builtin.append_,run_und h1,run_und h2,sizeOf,typeInfo,zeroValue,hi,hiz,hl,hr,h63,h48,hb0,Question.forced,hc,ho,newRow,grownCap]
   congr 2;apply Array.ext';simp [List.append_assoc]
theorem slCells_sound (r:Rel P B w0 ρ h w) {sz n:Nat} {x:V} {cs:List V} (hc:slCells h sz n x=some cs) {ux:Value} (hx:VR ρ x ux) (hn:∃ m,slLen x=some m∧n≤m) :
  ∃ us,VRs ρ cs us∧(Builtin.firstCells sz n ux).run P w=.ok us.toArray w:=by
 obtain ⟨m,hm,hnm⟩:=hn
 unfold slCells at hc
 split at hc
 ·cases hx
  cases hc
  exact ⟨[],.nil,rfl⟩
 ·rename_i b o l c
  simp only [slLen,Option.some.injEq] at hm
  subst hm
  cases hx with
  | slice _ _ _ _ e a he ha hl =>
  split at hc
  ·rename_i h0
   cases hc
   subst h0
   exact ⟨[],.nil,by simp [Builtin.firstCells,loadCells,loadCellsFrom]⟩
  ·rename_i h0
   obtain ⟨hl',us,h1,h2⟩:=r.rds (P:=P) he hc
   rw [ha (by omega)]
   exact ⟨us,h1,h2⟩
 ·rename_i b o l c s
  simp only [slLen,Option.some.injEq] at hm
  subst hm
  cases hx with
  | oslice _ _ _ _ _ cap' e a he ha hl hcap =>
  split at hc
  ·rename_i h0
   cases hc
   subst h0
   exact ⟨[],.nil,by simp [Builtin.firstCells,loadCells,loadCellsFrom]⟩
  ·rename_i h0
   obtain ⟨hl',us,h1,h2⟩:=r.rds (P:=P) he hc
   rw [(ha (by omega)).1]
   exact ⟨us,h1,h2⟩
 ·cases hc
theorem items_slice (r:Rel P B w0 ρ h w) {sz n:Nat} {x:V} {cs:List V} (hc:slCells h sz n x=some cs) {ux:Value} (hx:VR ρ x ux) (hn:slLen x=some n) :
  ∃ us,VRs ρ cs us∧Items P w sz n ux us:=by
 obtain ⟨us,h1,h2⟩:=slCells_sound (P:=P) r hc hx ⟨n,hn,Nat.le_refl _⟩
 obtain ⟨us',h1',h2'⟩:=slCells_sound (P:=P) r.drew hc hx ⟨n,hn,Nat.le_refl _⟩
 have hl:∀ w,(Builtin.lenOf ux).run P w=.ok n w:=by
  intro w
  cases hx <;> simp only [slLen,Option.some.injEq] at hn <;> first | (cases hn;done) | (subst hn;rfl)
 refine ⟨us,h1,hl,h2,?_⟩
 have hx2:∃ A l c,ux=.slice A l c:=by
  cases hx <;> simp only [slLen] at hn <;> first | (cases hn;done) | exact ⟨_,_,_,rfl⟩
 obtain ⟨A,l,c,rfl⟩:=hx2
 cases A with
 | none =>
  simp only [Builtin.firstCells,Sem.run_pure] at h2 ⊢
  have:(#[]:Array Value)=us.toArray:=by cases h2;rfl
  rw [this]
 | some a =>
  simp only [Builtin.firstCells] at h2 h2' ⊢
  have hul:us.length=us'.length:=by rw [←VRs.length h1,←VRs.length h1']
  have e1:us.length=n*sz∨n=0:=by
   by_cases h0:n=0
   ·exact .inr h0
   ·refine .inl ?_
    rw [←VRs.length h1]
    unfold slCells at hc
    split at hc
    ·cases hx
    ·rw [if_neg h0] at hc
     cases hx with
     | slice _ _ _ _ e a he ha hl=>exact (r.rds (P:=P) he hc).1
    ·rw [if_neg h0] at hc
     cases hx with
     | oslice _ _ _ _ _ cap' e a he ha hl hcap=>exact (r.rds (P:=P) he hc).1
    ·cases hc
  have : us.toArray=us'.toArray:=by
   have key:∀ (m i:Nat) (acc:Array Value) (v v':Array Value) (W:World),(loadCellsFrom a i m acc).run P W=.ok v W→(loadCellsFrom a i m acc).run P W.drew=.ok v' W.drew→v=v':=by
    intro m
    induction m with
    | zero=>intro i acc v v' W q1 q2;simp [loadCellsFrom] at q1 q2;rw [←q1,←q2]
    | succ m ih =>
     intro i acc v v' W q1 q2
     simp only [loadCellsFrom,Sem.run_bind,run_load,World.cell?_drew] at q1 q2
     cases hcell:W.cell? (a.add i) with
     | some u =>
      rw [hcell] at q1 q2
      simp only [Result.andThen_ok] at q1 q2
      exact ih _ _ _ _ _ q1 q2
     | none =>
      rw [hcell] at q1 q2
      simp only at q1 q2
      cases hfar:W.farLoad P (a.add i) (Mode.plain == .atomic) with
      | error e=>rw [hfar] at q1;cases q1
      | ok p =>
       rw [hfar] at q1
       have hfar':W.drew.farLoad P (a.add i) (Mode.plain == .atomic)=.ok p:=hfar
       rw [hfar'] at q2
       simp only [Result.andThen_ok] at q1 q2
       exact ih _ _ _ _ _ q1 q2
   exact key _ _ _ _ _ _ h2 h2'
  rw [this];exact h2'
theorem Rel.none_at (r:Rel P B w0 ρ h w):ρ h.size=none:=by
 cases hx:ρ h.size with
 | none=>rfl
 | some e'=>exact absurd (r.dom _ _ hx) (Nat.lt_irrefl _)
def New (ρ ρ':Rho) (n:Nat):Prop:=RLe ρ ρ'∧∀ b e,ρ' b=some e→ρ b=some e∨n≤b
theorem New.refl (ρ:Rho) (n:Nat):New ρ ρ n:=⟨RLe.refl ρ,fun b e h=>.inl h⟩
theorem New.with_ {ρ:Rho} {n b:Nat} {e:Emb} (h:ρ b=none) (hn:n≤b):New ρ (Rho.with_ ρ b e) n :=
 ⟨with_le h,fun x e' hx=>by
  by_cases hxb:x=b
  ·subst hxb;exact .inr hn
  ·unfold Rho.with_ at hx;rw [if_neg hxb] at hx;exact .inl hx⟩
theorem New.trans {a b c:Rho} {n m:Nat} (h:New a b n) (k:New b c m) (hnm:n≤m):New a c n :=
 ⟨h.1.trans k.1,fun x e hx=>by
  rcases k.2 x e hx with h1 | h1
  ·exact h.2 x e h1
  ·exact .inr (Nat.le_trans hnm h1)⟩
theorem grown_sound (r:Rel P B w0 ρ h w) {cs:List V} {us:List Value} (hv:VRs ρ cs us) {S:List Nat} {fz sz need c:Nat} {ty2:Option Nat} (hl:cs.length=need*sz) (hc:need≤c) (hcm:c≤9223372036854775807) (z:Array Value) (hz:z.size=sz) (el:TypeId) (hty:∀ t,ty2=some t→el=t) :
  let e:Emb:=⟨w.heap.size,0,(us.toArray++Builtin.zeroCells z (c-need)).size⟩
  Rel P B w0 (Rho.with_ ρ h.size e) (h.push (.cells cs (.tip S fz ty2))) (w.alloc (.cells (us.toArray++Builtin.zeroCells z (c-need)) el)) ∧
  VR (Rho.with_ ρ h.size e) (.oslice h.size 0 need need sz) (.slice (some ⟨w.heap.size,0,none⟩) need c):=by
 have hul:us.length=need*sz:=by rw [←VRs.length hv];exact hl
 refine ⟨?_,?_⟩
 ·refine (r.push _).new r.none_at (by rw [Heap.size_push];omega) (by rw [Heap.get_push,if_pos rfl]) _ _ ?_ ?_ ?_
  ·simp only [Array.toList_append,List.toList_toArray]
   rw [List.take_append_of_le_length (by rw [←VRs.length hv];exact Nat.le_refl _),VRs.length hv,List.take_length]
   exact hv
  ·simp only [Array.size_append,List.size_toArray];omega
  ·exact hty
 ·refine .oslice _ _ _ _ _ _ _ _ with_same (fun _=>⟨by simp [at_],.inr ⟨?_,hcm⟩⟩) (Nat.le_refl _) hc
  simp only [Array.size_append,List.size_toArray,size_zeroCells,hz,hul]
  have:need*sz+(c-need)*sz=c*sz:=by rw [←Nat.add_mul];congr 1;omega
  omega
theorem core_sound (r:Rel P B w0 ρ h w) {t u e ty:TypeId} (ht:appTypes P t u e) {sz bytes n:Nat} (hs:sizeC P e=some sz) (hb:bytesC P e=some bytes) {zs:List V} (hz:zeroC P e=some zs) (hzl:zs.length=sz)
  {x:V} {ux uy:Value} (hx:VR ρ x ux) {items:List V} {us:List Value} (hv:VRs ρ items us) (hi:Items P w sz n uy us) (hil:items.length=n*sz) (h1:items.all V.one=true) (hb0:bytes≠0) (hsz:sz≠0)
  {tyK:Option Nat} (htK:∀ t,tyK=some t→e=t) {v:V} {h':Heap} (hc:appendCore h sz bytes tyK x n items=some (v,h')) :
  ∃ uv w' ρ',(Builtin.append_ #[t,u] ty #[ux,uy]).run P w=.ok uv w'∧VR ρ' v uv∧Rel P B w0 ρ' h' w'∧New ρ ρ' h.size:=by
 obtain ⟨z,hzv,hzr⟩:=zeroC_val hz
 have hzs:z.cells.size=sz:=by
  have:=(hzr ρ).length
  simp only [Array.length_toList] at this
  omega
 have h0:n=0→us=[]:=by
  intro h0
  subst h0
  have:=VRs.length hv
  rw [hil] at this
  exact List.length_eq_zero_iff.1 (by omega)
 have grow:∀ (base:Option Addr) (sLen sCap:Nat) (old:List V) (olds:List Value),ux=.slice base sLen sCap→VRs ρ old olds→(Builtin.firstCells sz sLen ux).run P w.drew=.ok olds.toArray w.drew →
   old.length=sLen*sz→¬ sLen+n≤sCap→roomy (sLen+n) bytes=true→∀ (hh:Heap),Rel P B w0 ρ hh w→hh.size=h.size→∀ S fz (ty2:Option Nat),(∀ t,ty2=some t→e=t) →
   ∃ uv w' ρ',(Builtin.append_ #[t,u] ty #[ux,uy]).run P w=.ok uv w'∧VR ρ' (.oslice h.size 0 (sLen+n) (sLen+n) sz) uv∧Rel P B w0 ρ' (hh.push (.cells (old++items) (.tip S fz ty2))) w'∧New ρ ρ' h.size:=by
  intro base sLen sCap old olds hux ho hof hol hnot hroom hh rr hsz S fz ty2 h2
  subst hux
  obtain ⟨c,hc1,hc2,hrun⟩:=app_grow (P:=P) (w:=w) (ty:=ty) ht hs hb z hzv hi hb0 hof hnot hroom
  have hg:=grown_sound rr.drew (ho.append hv) (S:=S) (fz:=fz) (sz:=sz) (need:=sLen+n) (c:=c) (by rw [List.length_append,hol,hil,Nat.add_mul]) hc1 (by omega) z.cells hzs e h2
  rw [hsz] at hg
  exact ⟨_,_,_,hrun,hg.2,hg.1,New.with_ (by rw [←hsz];exact rr.none_at) (Nat.le_refl _)⟩
 unfold appendCore at hc
 split at hc
 ·-- a nil slice
  rename_i l c0
  cases hx
  split at hc
  ·rename_i hn
   cases hc
   subst hn
   exact ⟨.slice none 0 0,w,ρ,app_room ht hs hb (base:=none) hi (by omega) rfl,.sliceNil,r,New.refl _ _⟩
  ·rename_i hn
   split at hc
   ·rename_i hroom
    cases hc
    have:=grow none 0 0 [] [] rfl .nil rfl (by simp) (by omega) (by simpa using hroom) h r rfl [] 0 tyK htK
    simpa using this
   ·cases hc
 ·-- a slice whose capacity is known
  rename_i b o len cap
  cases hx with
  | slice _ _ _ _ em a he ha hl =>
  split at hc
  ·rename_i hr
   split at hc
   ·rename_i hn
    cases hc
    subst hn
    refine ⟨_,w,ρ,app_room ht hs hb (base:=some a) hi (by omega) ?_,.slice b o len cap em a he ha hl,r,New.refl _ _⟩
    simp only [h0 rfl]
    rfl
   ·rename_i hn
    split at hc
    ·rename_i h2 hw
     cases hc
     obtain ⟨w',q1,q2⟩:=r.wr (P:=P) hw he hv
     refine ⟨_,w',ρ,app_room ht hs hb (base:=some a) hi hr ?_,.slice b o (len+n) cap em a he ha hr,q2,New.refl _ _⟩
     rw [ha (by omega)]
     show (storeCells ((at_ em o).add (len*sz)) us).run P w=_
     rw [at_add]
     exact q1
    ·cases hc
  ·rename_i hr
   split at hc
   ·rename_i hroom
    split at hc
    ·rename_i old hold
     cases hc
     have hx':VR ρ (.slice (some (b,o)) len cap) (.slice (some a) len cap):=.slice b o len cap em a he ha hl
     obtain ⟨olds,g1,g2⟩:=slCells_sound (P:=P) r.drew hold hx' ⟨len,rfl,Nat.le_refl _⟩
     have hol:old.length=len*sz:=by
      unfold slCells at hold
      simp only at hold
      split at hold
      ·rename_i hz0;cases hold;simp [hz0]
      ·exact (r.rds (P:=P) he hold).1
     exact grow (some a) len cap old olds rfl g1 g2 hol hr hroom h r rfl [] 0 tyK htK
    ·cases hc
   ·cases hc
 ·-- a slice whose capacity is not known
  rename_i b o len cap zz
  cases hx with
  | oslice _ _ _ _ _ cap' em a he ha hl hcap =>
  split at hc
  ·rename_i hr
   split at hc
   ·rename_i hn
    cases hc
    subst hn
    refine ⟨_,w,ρ,app_room ht hs hb (base:=some a) hi (by omega) ?_,.oslice b o len cap zz cap' em a he ha hl hcap,r,New.refl _ _⟩
    simp only [h0 rfl]
    rfl
   ·rename_i hn
    split at hc
    ·rename_i h2 hw
     cases hc
     obtain ⟨w',q1,q2⟩:=r.wr (P:=P) hw he hv
     refine ⟨_,w',ρ,app_room ht hs hb (base:=some a) hi (by omega) ?_,.oslice b o (len+n) cap zz cap' em a he ha hr hcap,q2,New.refl _ _⟩
     rw [(ha (by omega)).1]
     show (storeCells ((at_ em o).add (len*sz)) us).run P w=_
     rw [at_add]
     exact q1
    ·cases hc
  ·rename_i hr
   split at hc
   ·rename_i hk
    obtain ⟨hzz,hlen,hroom⟩:=hk
    subst hzz
    split at hc
    ·rename_i cs S fz ty2 hg
     split at hc
     ·rename_i hk2
      obtain ⟨hend,hfz⟩:=hk2
      cases hc
      have hcap0:cap'≠0:=by omega
      obtain ⟨haa,hlim0⟩:=ha hcap0
      obtain ⟨hlim,hlimM⟩:=hlim0.resolve_left hsz
      have ho:o≤cs.length:=by omega
      by_cases hin:len+n≤cap'
      ·-- in place
       have hmul:(len+n)*zz≤cap'*zz:=Nat.mul_le_mul_right _ hin
       rw [Nat.add_mul] at hmul
       have hul:us.length=n*zz:=by rw [←VRs.length hv];exact hil
       have hone:∀ q∈us,q.oneCell'=true:=by
        intro q hq
        obtain ⟨i,hi1,hi2⟩:=List.getElem_of_mem hq
        have hi3:i<items.length:=by rw [VRs.length hv];exact hi1
        obtain ⟨q',g1,g2⟩:=hv.get i items[i] (List.getElem?_eq_getElem hi3)
        rw [List.getElem?_eq_getElem hi1] at g1
        cases g1
        rw [←hi2]
        exact g2.one (List.all_eq_true.1 h1 _ (List.getElem_mem hi3))
       obtain ⟨w',q1,q2,q3,q4⟩:=Rel.beyonds (P:=P) us cs.length r he hg (Nat.le_refl _) hfz (by omega) hone (at_ em cs.length) 0 (by simp [Addr.add])
       have rs:=q2.shared (tyK:=tyK) he hg ho hfz (by omega) hv q3
       refine ⟨_,w',_,app_room ht hs hb (base:=some a) hi hin ?_,?_,rs,New.with_ r.none_at (Nat.le_refl _)⟩
       ·rw [haa]
        show (storeCells ((at_ em o).add (len*zz)) us).run P w=_
        rw [at_add,hend];exact q1
       ·refine .oslice _ _ _ _ _ _ _ _ with_same (fun _=>⟨by rw [haa];simp [at_],.inr ⟨?_,hlimM⟩⟩) (Nat.le_refl _) hin
        simp only;omega
      ·-- in a new block
       have hx':VR ρ (.oslice b o len cap zz) (.slice (some a) len cap'):=.oslice b o len cap zz cap' em a he ha hl hcap
       have hold:slCells h zz len (.oslice b o len cap zz)=some (cs.drop o):=by
        unfold slCells
        simp only [if_neg hlen,Heap.rds,hg]
        rw [if_pos (by omega),List.take_of_length_le (by rw [List.length_drop];omega)]
       obtain ⟨olds,g1,g2⟩:=slCells_sound (P:=P) r.drew hold hx' ⟨len,rfl,Nat.le_refl _⟩
       exact grow (some a) len cap' (cs.drop o) olds rfl g1 g2 (by rw [List.length_drop];omega) hin hroom (h.put b (.cells cs .sup)) (r.demote (r.dom _ _ he) hg) rfl (b::S) (fz-o) (joinTy tyK ty2 o) (fun t ht=>htK t (joinTy_some ht).1)
     ·cases hc
    ·cases hc
   ·cases hc
 ·cases hc
end
end Abs
end Go.Proofs.YthgcjbniipfnbaaGreatDoor
namespace Go.Proofs.YthgcjbniipfnbaaGreatDoor
namespace Abs
set_option linter.unusedVariables false
set_option linter.unusedSimpArgs false
open Go.RowKit
section
variable {P:Program} {B:Nat} {w0 w:World} {ρ:Rho} {h:Heap}
theorem VRs.set:∀ {x:List V} {a:List Value} (i:Nat) {v:V} {u:Value},VRs ρ x a→VR ρ v u→VRs ρ (x.set i v) (a.set i u)
 | _,_,_,_,_,.nil,_=>.nil
 | _,_,0,_,_,.cons v u x a h t,k=>.cons _ _ _ _ k t
 | _,_,i+1,_,_,.cons v u x a h t,k=>.cons _ _ _ _ h (VRs.set i t k)
theorem VRs.splice:∀ {vs:List V} {us:List Value} (o:Nat) {x:List V} {a:List Value},VRs ρ vs us→VRs ρ x a→VRs ρ (Abs.splice x o vs) (Abs.splice a o us)
 | _,_,o,_,_,.nil,k=>k
 | _,_,o,_,_,.cons v u vs us h t,k=>VRs.splice (o+1) t (VRs.set o k h)
theorem foldl_splice (off:Nat):∀ (l:List Value) (k:Nat) (cells:Array Value),((l.zipIdx k).foldl (fun (cs:Array Value) (p:Value × Nat)=>cs.setIfInBounds (off+p.2) p.1) cells).toList=Abs.splice cells.toList (off+k) l
 | [],k,cells=>rfl
 | v::l,k,cells=>by
  rw [List.zipIdx_cons,List.foldl_cons,foldl_splice off l (k+1)]
  simp only [Abs.splice,Array.toList_setIfInBounds,Nat.add_assoc]
theorem fill_sound {place:Nat→Option (Nat × Nat)}:∀ {parts:List (Nat × Operand)} {ps:List (Nat × Nat × Opd)} (hp:partsC place parts=some ps) {nt:Nat} {tm:TM} {a:Act} (ht:TMR ρ nt tm a.tmps)
  {vs:List (Nat × Nat × V)} (he:evParts tm ps=some vs) {cells cells':List V} (hf:fillV cells vs=some cells') {c:Array Value} (hc:VRs ρ cells c.toList),
  ∃ c',Instr.fill place c (parts.map fun (i,x)=>(i,a.eval x))=some c'∧VRs ρ cells' c'.toList
 | [],ps,hp,nt,tm,a,ht,vs,he,cells,cells',hf,c,hc=>by
  cases hp
  cases he
  cases hf
  exact ⟨c,rfl,hc⟩
 | (i,x)::r,ps,hp,nt,tm,a,ht,vs,he,cells,cells',hf,c,hc=>by
  unfold partsC at hp
  split at hp
  ·rename_i o s y l h1 h2 h3
   cases hp
   unfold evParts at he
   split at he
   ·rename_i v vs' h4 h5
    cases he
    unfold fillV at hf
    split at hf
    ·rename_i hk
     have hvx:=ev_sound ht h2 h4
     have hcl:=hvx.cells
     have hsz:(a.eval x).cells.size=s:=by
      have:=hcl.length
      simp only [Array.length_toList] at this
      omega
     have hcs:cells.length=c.size:=by simpa using hc.length
     have hnew:=VRs.splice o hcl hc
     have heq:((a.eval x).cells.zipIdx.foldl (fun (cs:Array Value) (p:Value × Nat)=>cs.setIfInBounds (o+p.2) p.1) c).toList=Abs.splice c.toList o (a.eval x).cells.toList:=by
      rw [←Array.foldl_toList,Array.toList_zipIdx]
      have:=foldl_splice o (a.eval x).cells.toList 0 c
      simpa using this
     rw [←heq] at hnew
     obtain ⟨c',q1,q2⟩:=fill_sound h3 ht h5 hf hnew
     refine ⟨c',?_,q2⟩
     simp only [List.map_cons,Instr.fill,h1]
     rw [if_neg]
     ·exact q1
     ·simp only [hsz,Bool.or_eq_true,bne_iff_ne,ne_eq,not_true_eq_false,decide_eq_true_eq,false_or]
      omega
    ·cases hf
   ·cases he
  ·cases hp
theorem places_sound:∀ {fs:List Field} {pl:List (Nat × Nat)},placesC P fs=some pl →
  (fs.mapM (m:=Sem) fun f=>do pure (f.offset,←sizeOf f.type)).run P w=.ok pl w
 | [],pl,h=>by cases h;rfl
 | f::r,pl,h=>by
  unfold placesC at h
  split at h
  ·rename_i s l h1 h2
   cases h
   rw [List.mapM_cons]
   simp only [Sem.run_bind,run_size h1,Result.andThen_ok,Sem.run_pure,places_sound h2]
  ·cases h
theorem arrMapM {α β:Type} (f:α→Sem β) (xs:Array α) {l:List β} {w':World} (h:(xs.toList.mapM f).run P w=.ok l w'):(xs.mapM f).run P w=.ok l.toArray w':=by
 have:xs.mapM f=(List.toArray <$> xs.toList.mapM f:Sem (Array β)):=by
  rw [Array.mapM_eq_mapM_toList]
 rw [this,Sem.run_map,h]
 rfl
/-! ### Slice expressions -/
theorem int_of {x:V} {i:Int} (h:intV x=some i) {u:Value} (hx:VR ρ x u):∃ k,u=.int k i:=by
 cases hx <;> simp only [intV,Option.some.injEq] at h <;> first | (cases h;done) | (subst h;exact ⟨_,rfl⟩)
inductive VRo (ρ:Rho):Option V→Option Value→Prop where
 | none:VRo ρ none none
 | some (v:V) (u:Value) (h:VR ρ v u):VRo ρ (some v) (some u)
theorem evo_sound {nt:Nat} {tm:TM} {a:Act} (ht:TMR ρ nt tm a.tmps) {x:Option Operand} {y:Option Opd} (hc:opdO x=some y) {v:Option V} (hv:evo tm y=some v):VRo ρ v (x.map a.eval):=by
 unfold opdO at hc
 split at hc
 ·cases hc
  cases hv
  exact .none
 ·split at hc
  ·rename_i q hq
   cases hc
   unfold evo at hv
   split at hv
   ·rename_i h1;cases h1
   ·rename_i z h1
    cases h1
    split at hv
    ·rename_i v' hv'
     cases hv
     exact .some _ _ (ev_sound ht hq hv')
    ·cases hv
  ·cases hc
theorem bound_sound {i:Int} {k:IntKind} {y:Nat} {code:BoundsCode} (h:0≤i∧i≤y):(Instr.sliceBound (.int k i) y code).run P w=.ok i.toNat w:=by
 simp only [Instr.sliceBound,asIntOf,Sem.run_bind,Sem.run_pure,Result.andThen_ok,h,and_self,if_true]
theorem bounds_none {isSl:Bool} {len cap cap':Nat} {lo hi:Option V} {l hh:Nat} (hb:boundsA len cap lo hi=some (l,hh)) (hc:cap≤cap') (hlc:len≤cap) {ulo uhi:Option Value} (h1:VRo ρ lo ulo) (h2:VRo ρ hi uhi) :
  (Instr.sliceBounds isSl len cap' ulo uhi none).run P w=.ok (l,hh,cap') w∧l≤hh∧hh≤cap:=by
 unfold boundsA at hb
 cases h2 with
 | none =>
  simp only at hb
  cases h1 with
  | none =>
   simp only [Option.some.injEq,Prod.mk.injEq] at hb
   obtain ⟨rfl,rfl⟩:=hb
   exact ⟨by simp [Instr.sliceBounds],by omega,hlc⟩
  | some v u hv =>
   simp only at hb
   split at hb
   ·rename_i i hi
    split at hb
    ·rename_i hk
     simp only [Option.some.injEq,Prod.mk.injEq] at hb
     obtain ⟨rfl,rfl⟩:=hb
     obtain ⟨k,rfl⟩:=int_of hi hv
     refine ⟨?_,by omega,hlc⟩
     simp only [Instr.sliceBounds,Sem.run_bind,Sem.run_pure,Result.andThen_ok,bound_sound hk]
    ·cases hb
   ·cases hb
 | some v u hv =>
  simp only at hb
  cases hi:intV v with
  | none=>rw [hi] at hb;cases hb
  | some i =>
  rw [hi] at hb
  simp only at hb
  obtain ⟨k,rfl⟩:=int_of hi hv
  by_cases hk:0≤i∧i≤(cap:Int)
  ·rw [if_pos hk] at hb
   simp only at hb
   have hk':0≤i∧i≤(cap':Int):=⟨hk.1,by omega⟩
   cases h1 with
   | none =>
    simp only [Option.some.injEq,Prod.mk.injEq] at hb
    obtain ⟨rfl,rfl⟩:=hb
    refine ⟨?_,by omega,by omega⟩
    simp only [Instr.sliceBounds,Sem.run_bind,Sem.run_pure,Result.andThen_ok,bound_sound hk']
   | some v2 u2 hv2 =>
    simp only at hb
    split at hb
    ·rename_i j hj
     split at hb
     ·rename_i hk2
      simp only [Option.some.injEq,Prod.mk.injEq] at hb
      obtain ⟨rfl,rfl⟩:=hb
      obtain ⟨k2,rfl⟩:=int_of hj hv2
      refine ⟨?_,by omega,by omega⟩
      simp only [Instr.sliceBounds,Sem.run_bind,Sem.run_pure,Result.andThen_ok,bound_sound hk',bound_sound hk2,Option.isSome_none,Bool.false_eq_true,if_false]
     ·cases hb
    ·cases hb
  ·rw [if_neg hk] at hb
   cases hb
theorem bounds_max {len cap:Nat} {m:Int} {lo hi:Option V} {l hh:Nat} (hb:boundsA len m.toNat lo hi=some (l,hh)) (hm:0≤m∧m≤cap) (hs:hi.isSome=true) {km:IntKind} {ulo uhi:Option Value} (h1:VRo ρ lo ulo) (h2:VRo ρ hi uhi) :
  (Instr.sliceBounds true len cap ulo uhi (some (.int km m))).run P w=.ok (l,hh,m.toNat) w∧l≤hh∧hh≤m.toNat:=by
 unfold boundsA at hb
 cases h2 with
 | none=>cases hs
 | some v u hv =>
  simp only at hb
  cases hi:intV v with
  | none=>rw [hi] at hb;cases hb
  | some i =>
  rw [hi] at hb
  simp only at hb
  obtain ⟨k,rfl⟩:=int_of hi hv
  by_cases hk:0≤i∧i≤(m.toNat:Int)
  ·rw [if_pos hk] at hb
   simp only at hb
   cases h1 with
   | none =>
    simp only [Option.some.injEq,Prod.mk.injEq] at hb
    obtain ⟨rfl,rfl⟩:=hb
    refine ⟨?_,by omega,by omega⟩
    simp only [Instr.sliceBounds,Sem.run_bind,Sem.run_pure,Result.andThen_ok,bound_sound hm,bound_sound hk]
   | some v2 u2 hv2 =>
    simp only at hb
    split at hb
    ·rename_i j hj
     split at hb
     ·rename_i hk2
      simp only [Option.some.injEq,Prod.mk.injEq] at hb
      obtain ⟨rfl,rfl⟩:=hb
      obtain ⟨k2,rfl⟩:=int_of hj hv2
      refine ⟨?_,by omega,by omega⟩
      simp only [Instr.sliceBounds,Sem.run_bind,Sem.run_pure,Result.andThen_ok,bound_sound hm,bound_sound hk,bound_sound hk2,Option.isSome_some,if_true]
     ·cases hb
    ·cases hb
  ·rw [if_neg hk] at hb
   cases hb
theorem sliceSl_sound {t e:TypeId} {sz:Nat} (ht:P.underlying t=some (.slice e)) (hs:sizeC P e=some sz) {x v:V} {lo hi mx:Option V} (hv:sliceSlA sz x lo hi mx=some v) {ux:Value} {ulo uhi umx:Option Value}
  (hx:VR ρ x ux) (h1:VRo ρ lo ulo) (h2:VRo ρ hi uhi) (h3:VRo ρ mx umx):∃ u,(Instr.sliceAt t ux ulo uhi umx).run P w=.ok u w∧VR ρ v u:=by
 have hrun:∀ (A:Option Addr) (len cap l hh m:Nat),ux=.slice A len cap→(Instr.sliceBounds true len cap ulo uhi umx).run P w=.ok (l,hh,m) w →
   (Instr.sliceAt t ux ulo uhi umx).run P w=.ok (.slice (if m=l then A else A.map (·.add (l*sz))) (hh-l) (m-l)) w:=by
  intro A len cap l hh m hux hb
  subst hux
  simp only [Instr.sliceAt,Sem.run_bind,run_und ht,Result.andThen_ok,Instr.slice,hb,run_size hs,Sem.run_pure]
 unfold sliceSlA at hv
 split at hv
 ·rename_i A len cap
  have hlen:len≤cap∧∃ A',ux=.slice A' len cap∧(A=none→A'=none∧cap=0)∧(∀ b o,A=some (b,o)→∃ e a,ρ b=some e∧A'=some a∧(cap≠0→a=at_ e o)):=by
   cases hx with
   | sliceNil=>exact ⟨Nat.le_refl _,none,rfl,fun _=>⟨rfl,rfl⟩,fun b o h=>by cases h⟩
   | slice b o _ _ em a he ha hl=>exact ⟨hl,some a,rfl,(fun h=>by cases h),fun b' o' h=>by cases h;exact ⟨em,a,he,rfl,ha⟩⟩
  obtain ⟨hlc,A',rfl,hA1,hA2⟩:=hlen
  have fin:∀ l hh m:Nat,l≤hh→hh≤m→m≤cap→VR ρ (.slice (A.map fun p=>(p.1,p.2+l*sz)) (hh-l) (m-l)) (.slice (if m=l then A' else A'.map (·.add (l*sz))) (hh-l) (m-l)):=by
   intro l hh m q1 q2 q3
   cases A with
   | none =>
    obtain ⟨rfl,rfl⟩:=hA1 rfl
    have:m=0:=by omega
    subst this
    have:l=0:=by omega
    subst this
    have:hh=0:=by omega
    subst this
    simpa using VR.sliceNil
   | some p =>
    obtain ⟨b,o⟩:=p
    obtain ⟨em,a,he,rfl,ha⟩:=hA2 b o rfl
    by_cases hml:m=l
    ·rw [if_pos hml]
     exact .slice _ _ _ _ em a he (fun h=>by omega) (by omega)
    ·rw [if_neg hml]
     exact .slice _ _ _ _ em _ he (fun h=>by rw [ha (by omega)];exact at_add _ _ _) (by omega)
  cases h3 with
  | none =>
   simp only at hv
   split at hv
   ·rename_i l hh hb
    cases hv
    obtain ⟨q1,q2,q3⟩:=bounds_none (P:=P) (w:=w) (isSl:=true) hb (Nat.le_refl _) hlc h1 h2
    exact ⟨_,hrun _ _ _ _ _ _ rfl q1,fin _ _ _ q2 q3 (Nat.le_refl _)⟩
   ·cases hv
  | some vm um hm =>
   simp only at hv
   split at hv
   ·rename_i m hmi
    obtain ⟨km,rfl⟩:=int_of hmi hm
    split at hv
    ·rename_i hk
     split at hv
     ·rename_i l hh hb
      cases hv
      obtain ⟨q1,q2,q3⟩:=bounds_max (P:=P) (w:=w) hb ⟨hk.1,hk.2.1⟩ hk.2.2 (km:=km) h1 h2
      exact ⟨_,hrun _ _ _ _ _ _ rfl q1,fin _ _ _ q2 q3 (by omega)⟩
     ·cases hv
    ·cases hv
   ·cases hv
 ·rename_i b o len cap z
  split at hv
  ·rename_i hz
   cases hx with
   | oslice _ _ _ _ _ cap' em a he ha hl hcap =>
   cases h3 with
   | none =>
    simp only at hv
    split at hv
    ·rename_i l hh hb
     cases hv
     obtain ⟨q1,q2,q3⟩:=bounds_none (P:=P) (w:=w) (isSl:=true) hb hcap hl h1 h2
     refine ⟨_,hrun _ _ _ _ _ _ rfl q1,?_⟩
     by_cases hml:cap'=l
     ·rw [if_pos hml]
      exact .oslice _ _ _ _ _ _ em a he (fun h=>by omega) (by omega) (by omega)
     ·rw [if_neg hml]
      refine .oslice _ _ _ _ _ _ em _ he (fun h=>?_) (by omega) (by omega)
      obtain ⟨g1,g2⟩:=ha (by omega)
      refine ⟨by rw [g1];exact at_add _ _ _,?_⟩
      rcases hz with rfl | rfl
      ·refine g2.imp id fun g2=>⟨?_,by omega⟩
       replace g2:=g2.1
       have:l*z+(cap'-l)*z=cap'*z:=by rw [←Nat.add_mul];congr 1;omega
       omega
      ·exact .inl rfl
    ·cases hv
   | some vm um hm =>
    simp only at hv
    split at hv
    ·rename_i m hmi
     obtain ⟨km,rfl⟩:=int_of hmi hm
     split at hv
     ·rename_i hk
      split at hv
      ·rename_i l hh hb
       cases hv
       obtain ⟨q1,q2,q3⟩:=bounds_max (P:=P) (w:=w) (cap:=cap') hb ⟨hk.1,by omega⟩ hk.2.2 (km:=km) h1 h2
       refine ⟨_,hrun _ _ _ _ _ _ rfl q1,?_⟩
       by_cases hml:m.toNat=l
       ·rw [if_pos hml]
        exact .slice _ _ _ _ em a he (fun h=>by omega) (by omega)
       ·rw [if_neg hml]
        exact .slice _ _ _ _ em _ he (fun h=>by rw [(ha (by omega)).1];exact at_add _ _ _) (by omega)
      ·cases hv
     ·cases hv
    ·cases hv
  ·cases hv
 ·cases hv
end
end Abs
end Go.Proofs.YthgcjbniipfnbaaGreatDoor
