/-
  RedirectsHopsMatchSpec, as its tied card says. Conditions: what the card itself names (the package-level variables that are listed, tied to the program's text).
-/
import Derived.Test.YtdallkhojokceaaGreatDoorKRI2
import Derived.BigQuiet
import Derived.Deep.Draws
import Derived.Deep.QuietTactic
import Derived.KernelRfl
import Derived.LaidMore
import Derived.LaidSub
import Derived.Laws.RangeString
import Derived.Lay
import Derived.Lib.IndexMore
import Derived.Lib.ItoaNum
import Derived.Lib.Join
import Derived.Lib.LaidTab
import Derived.Lib.LaidU8
import Derived.Lib.RuneCount
import Derived.Lib.TrailingZeros
import Derived.Lib.ValidU
import Derived.OpenShut
import Derived.ProofKit
import Derived.Shelf.Abstract
import Derived.Shelf.LaysM
import Derived.Shelf.Small.Strs
import Derived.Shelf.Spec.SlicesInsert
import Derived.Shelf.Spec.SlicesInsertGrow
import Derived.Shelf.Spec.TrailingZeros
import Derived.Shelf.Strconv.Itoa3
import Derived.Shelf.Strings.Count
import Derived.Shelf.Strings.Cut
import Derived.Shelf.Strings.IndexAnyAll
import Derived.Shelf.Strings.OnBuilder
import Derived.Shelf.Strings.Search3
import Derived.Shelf.Unicode.ValidAny
import Derived.Shelf.Utf8.RuneCount
import Derived.Shelf.Vars
import Derived.Sort.Grow
import Derived.Test.YtdallkhojokceaaGreatDoorCards
import Derived.Test.YtdallkhojokceaaGreatDoorChecked
import Derived.Test.YtdallkhojokceaaGreatDoorProg
import Derived.Test.YtdallkhojokceaaGreatDoorRows
import Derived.Test.YtdallkhojokceaaGreatDoorTie
import Derived.WalkKit
import Derived.WideMake
namespace Go.Proofs.YtdallkhojokceaaGreatDoor.E
set_option linter.all false
section
open Go
def Jq (n:Nat):PV->PV
 | .s (.sl z t k els)=>if n=0 then .s (.sl z t k els) else if k=n then .s (.sl z t k els) else .s (.sl z t (cond z n k) els)
 | v=>v
def Eb:List Nat->List PV->List PV
 | n::r,v::l=>Jq n v::Eb r l
 | _,l=>l
def Uv (szs:List Nat):PV->PV
 | .agg l=>.agg (Eb szs l)
 | v=>Jq (szs.headD 0) v
def T2:List (List Nat)->List PV->List PV
 | s::r,v::l=>Uv s v::T2 r l
 | _,l=>l
section
variable {Γ : Ctx} {sh : Nat -> Option Shp} {w : World}
theorem Da {n:Nat} {v:PV} {V:Value} (h:VP Γ sh w v V):VP Γ sh w (Jq n v) V:=by
 unfold Jq
 split
 ·rename_i z t k els
  split
  ·exact h
  ·split
   ·exact h
   ·cases z with
    | false=>exact h
    | true=>
     have hs:=h.inv_s
     cases hs with
     | nil=>exact .s _ _ (.nil _ _)
 ·exact h
theorem Y5:∀ (szs:List Nat) (l:List PV),(Eb szs l).length=l.length
 | [],_=>rfl
 | _::_,[]=>rfl
 | n::r,v::l=>by simp [Eb,Y5 r l]
theorem Ec:∀ (szs:List Nat) (l:List PV) (j:Nat) (h:j<l.length) (h':j<(Eb szs l).length),∃ n,(Eb szs l)[j]=Jq n l[j]
 | [],l,j,h,h'=>⟨0,by
  have e:Eb [] l=l:=by cases l<;>rfl
  simp only [e]
  unfold Jq
  split
  ·rename_i he;rw [he];simp
  ·rfl⟩
 | n::r,v::l,0,h,h'=>⟨n,rfl⟩
 | n::r,v::l,j+1,h,h'=>by
  obtain ⟨m,e⟩:=Ec r l j (by simpa using h) (by simpa [Eb] using h')
  exact ⟨m,by simpa [Eb] using e⟩
theorem Sg {szs:List Nat} {v:PV} {V:Value} (h:VP Γ sh w v V):VP Γ sh w (Uv szs v) V:=by
 unfold Uv
 split
 ·rename_i l
  obtain ⟨A,rfl,hA,hc⟩:=h.inv_agg
  refine VP.mk_agg (by rw [Y5];exact hA) λj hj=>?_
  have hj':j<l.length:=by rw [Y5] at hj;exact hj
  obtain ⟨U,e,k⟩:=hc j hj'
  obtain ⟨m,e2⟩:=Ec szs l j hj' hj
  exact ⟨U,e,by rw [e2];exact Da k⟩
 ·exact Da h
theorem Jr:∀ (szs:List (List Nat)) (l:List PV),(T2 szs l).length=l.length
 | [],_=>rfl
 | _::_,[]=>rfl
 | n::r,v::l=>by simp [T2,Jr r l]
theorem Si:∀ (szs:List (List Nat)) (l:List PV) (V:Array Value),CR Γ sh w l V->CR Γ sh w (T2 szs l) V:=by
 intro szs l V h
 refine ⟨by rw [Jr];exact h.1,?_⟩
 have key:∀ (szs:List (List Nat)) (l:List PV) (As:Nat->Option Value),(∀ j (h:j<l.length),∃ U,As j=some U/\VP Γ sh w (l[j]) U)->∀ j (h:j<(T2 szs l).length),∃ U,As j=some U/\VP Γ sh w ((T2 szs l)[j]) U:=by
  intro szs
  induction szs with
  | nil=>intro l As hl j hj;exact hl j (by cases l<;>exact hj)
  | cons s r ih=>
   intro l As hl j hj
   cases l with
   | nil=>simp [T2] at hj
   | cons v l=>
    cases j with
    | zero=>
     obtain ⟨U,e,k⟩:=hl 0 (by simp)
     exact ⟨U,e,Sg k⟩
    | succ j=>
     have:=ih l (λj=>As (j+1)) (λj h=>hl (j+1) (by simpa using h)) j (by simpa [T2] using hj)
     simpa [T2] using this
 exact key szs l (λj=>V[j]?) h.2
end
theorem C0.fix {P:Program} {G:GT} {g:Nat} {pf:List PV->Tr} (szs:List (List Nat)) (h:C0 P G g pf):C0 P G g (λargs=>pf (T2 szs args)):=
 λargs ret Hc hpf C hP hGe Γ w Vs hnm hH hG hc=>h (T2 szs args) ret Hc hpf C hP hGe Γ w Vs hnm hH hG (Si szs args Vs hc)
theorem R4 {v:PV} {H:List Blk} {ret:PV} {Hc:List Blk} (h:C3 (.ret v H)=some (ret,Hc)):ret=v/\Hc=H:=by
 simp only [C3,M7,Option.some.injEq,Prod.mk.injEq] at h
 grind
theorem Ip {c:Bool} {t:Tr} {ret:PV} {Hc:List Blk} (h:C3 (.need c t)=some (ret,Hc)):c=true/\C3 t=some (ret,Hc):=by
 cases c with
 | true=>exact ⟨rfl,h⟩
 | false=>cases h
theorem Re {c:Bool} {a b:Tr} {ret:PV} {Hc:List Blk} (h:C3 (.split c a b)=some (ret,Hc)):(c=true/\C3 a=some (ret,Hc))\/(c=false/\C3 b=some (ret,Hc)):=by
 cases c with
 | true=>exact .inl ⟨rfl,h⟩
 | false=>exact .inr ⟨rfl,h⟩
theorem Ua:∃ n:Nat,100000000000000000000<=n:=⟨_,Nat.le_refl _⟩
noncomputable def LF:Nat:=Classical.choose Ua
theorem Gy:100000000000000000000<=LF:=Classical.choose_spec Ua
attribute [irreducible] LF
theorem Vn (n:Nat):IntKind.wrap .u8 (n:Int)=((n % 256:Nat):Int):=by simp [IntKind.wrap,IntKind.bits,IntKind.signed]
theorem To (n:Nat):IntKind.wrap .u16 (n:Int)=((n % 65536:Nat):Int):=by simp [IntKind.wrap,IntKind.bits,IntKind.signed]
theorem Tp (n:Nat):IntKind.wrap .u32 (n:Int)=((n % 4294967296:Nat):Int):=by simp [IntKind.wrap,IntKind.bits,IntKind.signed]
theorem Tq (n:Nat):IntKind.wrap .u64 (n:Int)=((n % 18446744073709551616:Nat):Int):=by simp [IntKind.wrap,IntKind.bits,IntKind.signed]
theorem Tn (n:Int) (h0:-9223372036854775808<=n) (h1:n<9223372036854775808):IntKind.wrap .i64 n=n:=by
 simp [IntKind.wrap,IntKind.bits,IntKind.signed]
 split<;>omega
end
section
open Go Go.ChangeShapes Go.RowKit Go.Sort Go.WideShapes
theorem Fk {P:Program} {f:Nat} {fn:Func} {Vs:Array Value} {w:World} {R:Value->World->Prop} (hf:P.funcs[f]? = some fn) (hb:fn.body.isSome=true) (hn:(fn.name == "runtime.NumGoroutine")=false)
  (h:Calls P f Vs w λe w'=>∃ V,e = .returned V/\R V w'):D5 P ((callFunc f Vs).run P w) R:=by
 obtain ⟨c,hb⟩:=Option.isSome_iff_exists.1 hb
 intro ro n o a next Q hnext
 have hrun:(callFunc f Vs).run P w = .ok (.enter f Vs) w:=by
  have hn':¬ fn.name = "runtime.NumGoroutine":=by simpa using hn
  simp [callFunc,hf,hb,hn',Result.andThen]
 rw [hrun]
 simp only [Oper.uponIn_enter]
 refine ⟨λh=>(by simp [B2,Fence.wide] at h),?_⟩
 have key:CallsIn Fence.wide (n-1) P f Vs w λe w'=>∃ V,e = .returned V/\R V w':=callsIn_wide.2 h
 have key':CallsIn (B2 ro) (n-1) P f Vs w λe w'=>∃ V,e = .returned V/\R V w':=key
 refine key'.mono ?_
 rintro e w' ⟨V,rfl,hR⟩
 exact hnext V w' hR
theorem Py {C:Cfg} {Γ:Ctx} {w w':World} {ret:PV} {V:Value} (hnm:∀ b,Γ.nm b=none) (hH:HR Γ [] w) (hb:Below w.heap.size w w') (hv:VP Γ (A0 []) w' ret V) (hr:ret.nms=[]):X0 C I0 Γ [] w noΦ ret [] () V w':=by
 refine ⟨Γ,noΦ,⟨hb.os,hb.tape,hb.output,hb.size,λ_ h=>h,λ_ h=>.inl h,λb g h=>(by rw [hnm] at h;cases h),λ_ h=>h.elim,λg hg _ _=>hb.block g hg,rfl,Nat.le_refl _,λb h=>(by simp at h)⟩,
  ⟨λb b' g h=>(by rw [hnm] at h;cases h),λb g h=>(by rw [hnm] at h;cases h),λg hg=>Nat.lt_of_lt_of_le (hH.stlt g hg) hb.size,λb h=>(by simp at h),λb h=>(by simp at h)⟩,hv,by rw [hr];simp,λ_ h=>h,λb g h=>(by rw [hnm] at h;cases h)⟩
theorem Je (w:World) (n:Nat):Below w.heap.size w (w.drewN n):=⟨rfl,rfl,rfl,Nat.le_refl _,λ_ _=>rfl⟩
section
variable {Γ : Ctx} {sh : Nat -> Option Shp} {w : World}
theorem CR.arr1 {a:PV} {A:Array Value} (h:CR Γ sh w [a] A):∃ U,A = #[U]/\VP Γ sh w a U:=by
 obtain ⟨U,e,k⟩:=h.2 0 (by simp)
 refine ⟨U,?_,k⟩
 have hs:A.size=1:=h.1
 grind
theorem CR.arr2 {a b:PV} {A:Array Value} (h:CR Γ sh w [a,b] A):∃ U V,A = #[U,V]/\VP Γ sh w a U/\VP Γ sh w b V:=by
 obtain ⟨U,e,k⟩:=h.2 0 (by simp)
 obtain ⟨V,e',k'⟩:=h.2 1 (by simp)
 refine ⟨U,V,?_,k,k'⟩
 have hs:A.size=2:=h.1
 grind
theorem CR.arr3 {a b c:PV} {A:Array Value} (h:CR Γ sh w [a,b,c] A):∃ U V W,A = #[U,V,W]/\VP Γ sh w a U/\VP Γ sh w b V/\VP Γ sh w c W:=by
 obtain ⟨U,e,k⟩:=h.2 0 (by simp)
 obtain ⟨V,e',k'⟩:=h.2 1 (by simp)
 obtain ⟨W,e'',k''⟩:=h.2 2 (by simp)
 refine ⟨U,V,W,?_,k,k',k''⟩
 have hs:A.size=3:=h.1
 grind
theorem VP.mk_str (l:List UInt8):VP Γ sh w (.s (.str l)) (.string ⟨l.toArray⟩):=by
 have:=VP.s (Γ:=Γ) (sh:=sh) (w:=w) _ _ (VS.str (St:=Γ.St) (w:=w) ⟨l.toArray⟩)
 omega
theorem VP.mk_int (k:IntKind) (n:Int):VP Γ sh w (.s (.int k n)) (.int k n):=.s _ _ (.int k n)
theorem VP.mk_bool (b:Bool):VP Γ sh w (.s (.bool b)) (.bool b):=.s _ _ (.bool b)
theorem VP.mk_tup3 {a b c:PV} {U V W:Value} (h:VP Γ sh w a U) (k:VP Γ sh w b V) (l:VP Γ sh w c W):VP Γ sh w (.tup [a,b,c]) (.tuple #[U,V,W]):=
 VP.mk_tup rfl λj hj=>by grind
end
theorem F1 {P:Program} {G:GT} {g:Nat} {fn:Func} {pf:List PV->Tr} (hf:P.funcs[g]? = some fn) (hb:fn.body.isSome=true) (hn:(fn.name == "runtime.NumGoroutine")=false)
  (h:∀ args ret Hc,C3 (pf args)=some (ret,Hc)->Hc=[]/\ret.nms=[]/\∀ C:Cfg,C.P=P->C.G=G->∀ Γ w Vs,GOK C Γ.St w->(∀ g,Γ.St g->g<w.heap.size)->CR Γ (A0 []) w args Vs->
   Calls P g Vs w λe w'=>∃ V,e = .returned V/\Below w.heap.size w w'/\VP Γ (A0 []) w' ret V):C0 P G g pf:=by
 intro args ret Hc hpf C hP hG Γ w Vs hnm hH hg hc
 obtain ⟨rfl,hr,h1⟩:=h args ret Hc hpf
 exact Fk hf hb hn ((h1 C hP hG Γ w Vs hg hH.stlt hc).mono λe w' ⟨V,he,hb,hv⟩=>⟨V,he,Py hnm hH hb hv hr⟩)
def PV.stab (szs:List Nat) (H:List Blk):PV->PV
 | .tup l=>.tup (Eb szs (D4 H l))
 | v=>Jq (szs.headD 0) (v.snap H)
theorem VP.stab {Γ:Ctx} {H:List Blk} {w:World} (szs:List Nat) (hH:HR Γ H w) {v:PV} {V:Value} (h:VP Γ (A0 H) w v V):VP Γ.all (A0 H) w (v.stab szs H) V:=by
 by_cases ht:∃ l,v = .tup l
 ·obtain ⟨l,rfl⟩:=ht
  obtain ⟨A,rfl,hA,hc⟩:=h.inv_tup
  simp only [PV.stab]
  have hl:(Eb szs (D4 H l)).length=l.length:=by rw [Y5,N0,List.length_map]
  refine VP.mk_tup (by rw [hl];exact hA) λj hj=>?_
  obtain ⟨U,e,k⟩:=hc j (by omega)
  refine ⟨U,e,?_⟩
  have hj':j<(D4 H l).length:=by rw [N0,List.length_map];omega
  obtain ⟨n,en⟩:=Ec szs (D4 H l) j hj' hj
  rw [en]
  have e2:(D4 H l)[j]=(l[j]'(by omega)).snap H:=by
   simp only [N0,List.getElem_map]
  rw [e2]
  exact Da (k.snap hH)
 ·have e:v.stab szs H=Jq (szs.headD 0) (v.snap H):=by
   cases v with
   | tup l=>exact absurd ⟨l,rfl⟩ ht
   | _=>rfl
  rw [e]
  exact Da (h.snap hH)
theorem Nd (f:List Blk->PV->PV) (hf:∀ {Γ:Ctx} {H:List Blk} {w:World},HR Γ H w->∀ {v:PV} {V:Value},VP Γ (A0 H) w v V->VP Γ.all (A0 H) w (f H v) V) {C₀:Cfg} {g:Nat} {pf:List PV->Tr} (hX:XOK C₀) (hO:N3 C₀) (hm:C₀.P.follows .mixedOrders=true)
  (h:∀ args ret Hc,C3 (pf args)=some (ret,Hc)->A2 args=[]/\Hc=[]/\ret.nms=[]/\∃ d ret' H0,evC C₀ d Unit noY g args [] ()=some (ret',H0,())/\f H0 ret'=ret):C0 C₀.P C₀.G g pf:=by
 intro args ret Hc hpf C hP hGe Γ w Vs hnm hH hG hc
 obtain ⟨hna,rfl,hnr,d,ret',H0,hev,rfl⟩:=h args ret Hc hpf
 have h0:=O0 (C₀:=C₀) (g:=g) (pf:=λa=>match evC C₀ d Unit noY g a [] () with | some (r,H,_)=>cond (A2 a).isEmpty (.ret r H) .fail | none=>.fail) hX hO hm (λa r H hr=>by
  split at hr
  ·rename_i r' H' _ he
   cases hn:(A2 a).isEmpty with
   | true=>
    rw [hn] at hr
    simp only [cond_true,C3,M7,Option.some.injEq,Prod.mk.injEq] at hr
    grind
   | false=>rw [hn] at hr;cases hr
  ·cases hr)
 refine (h0 args ret' H0 (by dsimp only;rw [hev];dsimp only;rw [hna];rfl) C hP hGe Γ w Vs hnm hH hG hc).mono ?_
 rintro V w' ⟨Γ1,Φ1,hs,hH1,hv,hvn,hi1,hd1⟩
 let Γ2:Ctx:={ Γ1.all with nm:=λ_=>none }
 have hlt:∀ g,Γ2.St g->g<w'.heap.size:=λg hg=>by
  rcases hg with hg | ⟨b,hb⟩
  ·exact hH1.stlt g hg
  ·exact (hH1.lt b g hb).2.1
 refine ⟨Γ2,Φ1,⟨hs.os,hs.tape,hs.output,hs.size,λg hg=>.inl (hs.sub g hg),λg hg=>?_,λb g h=>by simp [Γ2] at h,hs.foot,hs.frame,hs.yv,Nat.le_refl _,λb hb=>by simp at hb⟩,
  Q3 (λ_=>rfl) hlt,?_,by rw [hnr];simp,hi1,λb g h=>by simp [Γ2] at h⟩
 ·rcases hg with hg | ⟨b,hb⟩
  ·exact hs.stnew g hg
  ·rcases hs.own b g hb with ⟨h',_⟩ | h'
   ·simp at h'
   ·exact .inr h'
 ·exact VP.mono (Γ:=Γ1.all) (Γ':=Γ2) (w:=w') (w':=w') (sh:=A0 H0) (ok:=λ_=>False) ⟨λ_ _=>rfl,λ_ h=>h,λ_ h=>h.elim,λ_ h=>h.elim,λ_ _ h=>h.elim,rfl⟩ (hf hH1 hv) (by rw [hnr];simp)
theorem W8 (szs:List Nat) {C₀:Cfg} {g:Nat} {pf:List PV->Tr} (hX:XOK C₀) (hO:N3 C₀) (hm:C₀.P.follows .mixedOrders=true)
  (h:∀ args ret Hc,C3 (pf args)=some (ret,Hc)->A2 args=[]/\Hc=[]/\ret.nms=[]/\∃ d ret' H0,evC C₀ d Unit noY g args [] ()=some (ret',H0,())/\ret'.stab szs H0=ret):C0 C₀.P C₀.G g pf:=
 Nd (λH v=>v.stab szs H) (λhH _ _ h=>h.stab szs hH) hX hO hm h
def Tr.Good (szs:List Nat) (args:List PV) (e:Option (PV × List Blk × Unit)):Tr->Prop
 | .ret v H=>A2 args=[]/\H=[]/\v.nms=[]/\∃ r H0,e=some (r,H0,())/\r.stab szs H0=v
 | .need c t=>c=true->Good szs args e t
 | .split c a b=>(c=true->Good szs args e a)/\(c=false->Good szs args e b)
 | .fail=>True
theorem Tr.Good.res {szs:List Nat} {args:List PV} {e:Option (PV × List Blk × Unit)} {ret:PV} {Hc:List Blk}:∀ {t:Tr},t.Good szs args e->C3 t=some (ret,Hc)->A2 args=[]/\Hc=[]/\ret.nms=[]/\∃ r H0,e=some (r,H0,())/\r.stab szs H0=ret
 | .ret v H,h,hr=>by
  obtain ⟨rfl,rfl⟩:=R4 hr
  exact h
 | .need c t,h,hr=>by
  obtain ⟨h0,hr⟩:=Ip hr
  exact res (h h0) hr
 | .split c a b,h,hr=>by
  rcases Re hr with ⟨h0,hr⟩ | ⟨h0,hr⟩
  ·exact res (h.1 h0) hr
  ·exact res (h.2 h0) hr
theorem xf (szs:List Nat) (C₀:Cfg) {g:Nat} (pf:List PV->Tr) {ss:List (List Nat)} {l:List (Nat × (List PV->Tr))} {lo:List Nat} (hl:C₀.X=Ku l) (hx:E8 C₀.P C₀.G l) (ho:C₀.okf=okL lo) (hb:Mc C₀ lo=true) (hm:C₀.P.follows .mixedOrders=true)
  (h:∀ args,(pf args).Good szs args (evC C₀ 1 Unit noY g args [] ())) (h2:C₀.Y=U9 []:=by rfl) (h3:C₀.S=U9 []:=by rfl) (h4:C₀.Z=U9 []:=by rfl):C0 C₀.P C₀.G g (λargs=>pf (T2 ss args)):=
 C0.fix ss (W8 szs (E8.ok hl hx h2 h3 h4) (K0 ho hb) hm λargs ret Hc hr=>by
  obtain ⟨q1,q2,q3,r,H0,q4,q5⟩:=(h args).res hr
  exact ⟨q1,q2,q3,1,r,H0,q4,q5⟩)
end
section
open Go
def orT:Tr->Tr->Tr
 | .fail,t=>t
 | t,_=>t
theorem Wv {P:Program} {G:GT} {g:Nat} {p q:List PV->Tr} (h:C0 P G g p) (k:C0 P G g q):C0 P G g λa=>orT (p a) (q a):=by
 intro args ret Hc hr
 dsimp only at hr
 cases e:p args with
 | fail=>rw [e] at hr;exact k args ret Hc hr
 | _=>rw [e] at hr;exact h args ret Hc (by rw [e];exact hr)
def Aq:List Int:=(List.range 32).map λi=>((if i % 2=0 then Lib.accLo (i / 2) else Lib.accHi (i / 2):Nat):Int)
def GX:GT:=⟨λg=>cond (Nat.beq g 1) (some (.u8,Lib.firstTab)) (cond (Nat.beq g 2) (some (.u8,Aq)) (cond (Nat.beq g 3) (some (.u64,Lib.pow10Tab)) (cond (Nat.beq g 5) (some (.u8,Lib.deBruijn64tab.map λn:Nat=>(n:Int))) none))),λg=>Nat.beq g 0⟩
def Wh:List (Nat × Nat × Nat × Nat)->Nat->Nat->Nat × Nat
 | [],_,_=>(0,0)
 | (t,j,e,k)::r,t',j'=>cond (Nat.beq t t'&&Nat.beq j j') (e,k) (Wh r t' j')
def Ug:List (Nat × Nat)->Nat->Option Nat
 | [],_=>none
 | (a,b)::r,i=>cond (Nat.beq a i) (some b) (Ug r i)
noncomputable def P5 (lf:Nat) (okf:List Nat) (keep:Nat->Option (List Nat)) (X:List (Nat × (List PV->Tr))) (keepR:Nat->Option (List Nat):=λ_=>none) (xp:List Nat:=[]) (keepE:Nat->Option (List Nat):=λ_=>none) (keepT:Option (List Nat):=none) (Y:List (Nat × (List PV->List Blk->Tr)):=[]) (S:List (Nat × (List PV->List Blk->Option (Bool × List (List PV)))):=[]) (lend:List Nat:=[]) (nt:List (Nat × Nat × Nat × Nat):=[]) (rw:List (Nat × Nat):=[]) (Z:List (Nat × (SV->List (List SV)->Bool × List (List SV))):=[]):Cfg:=
 { P:=Tryz.prog,G:=GX,X:=Ku X,lend:=okL lend,okf:=okL okf,lf:=lf,keep:=keep,keepR:=keepR,xp:=okL xp,keepE:=keepE,keepT:=keepT,Y:=U9 Y,S:=U9 S,nilT:=Wh nt,rowR:=Ug rw,Z:=U9 Z }
theorem follows:Tryz.prog.follows .mixedOrders=true:=by kernel_rfl
theorem Oz {n:Nat}:P7 n=true↔n<=68719476736:=by simp [P7]
theorem Qw {n:Nat} (h:n<=68719476736):P7 n=true:=Oz.2 h
theorem Gj {a b:Int} (h:a<b):ltI a b=true:=by rw [Ly];simpa using h
theorem Gi {a b:Int} (h:b<=a):ltI a b=false:=by rw [Ly];simpa using h
theorem Nz {n:Int} (h0:-9223372036854775808<=n) (h1:n<9223372036854775808):O9 n=n:=Tn n h0 h1
theorem Tu {n:Int} (h0:0<=n) (h1:n<18446744073709551616):Wq n=n:=by
 obtain ⟨m,rfl⟩:=Int.eq_ofNat_of_zero_le h0
 unfold Wq;rw [Tq,Nat.mod_eq_of_lt (by omega)]
theorem Tt {n:Int} (h0:0<=n) (h1:n<4294967296):Wp n=n:=by
 obtain ⟨m,rfl⟩:=Int.eq_ofNat_of_zero_le h0
 unfold Wp;rw [Tp,Nat.mod_eq_of_lt (by omega)]
theorem Ts {n:Int} (h0:0<=n) (h1:n<65536):Wo n=n:=by
 obtain ⟨m,rfl⟩:=Int.eq_ofNat_of_zero_le h0
 unfold Wo;rw [To,Nat.mod_eq_of_lt (by omega)]
theorem Vo {n:Int} (h0:0<=n) (h1:n<256):wu8 n=n:=by
 obtain ⟨m,rfl⟩:=Int.eq_ofNat_of_zero_le h0
 unfold wu8;rw [Vn,Nat.mod_eq_of_lt (by omega)]
theorem Vb {a b:Int} (h:b<=a:=by omega):ltI a b=false:=Gi h
theorem Bv {n:Int} (h:-9223372036854775808<=n:=by omega) (g:n<9223372036854775808:=by omega):O9 n=n:=Nz h g
theorem Wd {α:Sort _} {c:Prop} [Decidable c] {a b:α} (h:c:=by omega):(if c then a else b)=a:=if_pos h
theorem Vk {l h:Int} {n:Nat} (h0:0<=l) (h1:l<=h) (h2:h<=n):Wl l h n=true:=by simp [Wl,h0,h1,h2]
theorem Gd {i:Int} {n:Nat} (h0:0<=i) (h1:i<n):inR i n=true:=by simp [inR,h0,h1]
end
section
open Go Go.Proofs
def Dd (r:Option (PV × List Blk × Unit)):Bool:=match r with
 | some (.s (.bool true),_,_)=>true
 | _=>false
theorem Ii {r:Option (PV × List Blk × Unit)} (h:Dd r=true):∃ H,r=some (.s (.bool true),H,()):=by
 unfold Dd at h
 split at h
 ·exact ⟨_,rfl⟩
 ·cases h
theorem Nf {C₀:Cfg} {g d:Nat} (hX:XOK C₀) (hO:N3 C₀) (hm:C₀.P.follows .mixedOrders=true) (h:Dd (evC C₀ d Unit noY g [] [] ())=true):C0 C₀.P C₀.G g (λargs=>match args with | []=>.ret (.s (.bool true)) [] | _=>.fail):=
 Ir hX hO hm λargs ret Hc hr=>by
  cases args with
  | nil=>
   obtain ⟨rfl,rfl⟩:=R4 hr
   obtain ⟨H,e⟩:=Ii h
   exact ⟨rfl,rfl,rfl,d,_,H,e,rfl⟩
  | cons a r=>cases hr
theorem Rv {P:Program} {t:Nat} {v:PV} {ty:Ty} (h:Iv P t v) (e:T1 P 20 t=some [ty]) (ha:Dk P t=false):∃ x,v = .s x/\ty.of x:=by
 obtain ⟨tys,l,h1,h2,h3⟩:=h
 rw [e] at h1
 simp only [Option.some.injEq] at h1
 subst h1
 rcases h3 with ⟨h3,_⟩ | ⟨_,x,rfl,rfl⟩
 ·rw [ha] at h3;cases h3
 ·simp only [Ty.ofL] at h2
  obtain ⟨v,q,h4,h5,rfl⟩:=h2
  simp only [List.cons.injEq,and_true] at h4
  subst h4
  exact ⟨_,rfl,h5⟩
end
section
open Go
def Eu (l:List By):LL:=l.map λs=>[SV.str s]
def I4 (n:Nat):Bool:=decide (n<=1000000000)
theorem Gr {n:Nat}:I4 n=true↔n<=1000000000:=by simp [I4]
def isS:List SV->Bool | [.str _]=>true | _=>false
def elS (el:List SV):By:=(el.getD 0 .nilp).gS
def ltN (v:Int) (n:Nat):Bool:=match v with
 | .ofNat m=>Nat.ble (m+1) n
 | .negSucc _=>false
theorem Sn {v:Int} {n:Nat}:ltN v n=true↔0<=v/\v<(n:Int):=by
 cases v with
 | ofNat m=>
  simp only [ltN,Nat.ble_eq,Int.ofNat_eq_natCast]
  omega
 | negSucc m=>
  refine ⟨λh=>(by cases h),λh=>?_⟩
  have:=Int.negSucc_lt_zero m
  omega
def U8 (n:Int) (l:List By):Bool:=l.all λs=>!(ltI n (s.length:Int))
attribute [simp] Gj Gi Nz Tu Tt Ts Vo Vk Gd Qw
attribute [simp] vl
@[simp] theorem Tf {n:Nat} (h:n<=1000000000):I4 n=true:=Gr.2 h
@[simp] theorem Ww {v:Int} {n:Nat} (h:0<=v) (h1:v<n):ltN v n=true:=Sn.2 ⟨h,h1⟩
theorem Te {n:Nat} (h:n<=1000000000:=by omega):I4 n=true:=Tf h
@[simp] theorem Wt {m n:Nat} (h:m+n<4611686018427387904):Uf m n=true:=by simp [Uf,h]
abbrev rv (v:PV) (H:List Blk):Option (PV × List Blk × Unit):=some (v,H,())
theorem Qh {n:Nat} (h:I4 n=true):n<=1000000000:=Gr.1 h
@[simp] theorem Wr (s:By) (i:Nat):bAt s (i:Int)=((s.getD i 0).toNat:Int):=by simp [bAt]
@[simp] theorem Wa (s:By):bAt s 0=((s.getD 0 0).toNat:Int):=by simp [bAt]
@[simp] theorem Ws (s:By):bAt s 1=((s.getD 1 0).toNat:Int):=by simp [bAt]
@[simp] theorem Wu {α:Type} (s:List α) (a:Int):cut s a (s.length:Int)=s.drop a.toNat:=by simp [cut]
@[simp] theorem Wb {α:Type} (s:List α) (b:Int):cut s 0 b=s.take b.toNat:=by simp [cut]
@[simp] theorem Ag (l:List By):(Eu l).length=l.length:=by simp [Eu]
@[simp] theorem Sj (l:List By) (i:Nat):gX (Eu l) i 0=l.getD i []:=by
 unfold gX gC Eu
 by_cases h:i<l.length
 ·simp [List.getD_eq_getElem?_getD,List.getElem?_eq_getElem h,SV.gS]
 ·simp [List.getD_eq_getElem?_getD,List.getElem?_eq_none (show l.length<=i by omega),SV.gS]
@[simp] theorem Qo {l:List By} {i:Nat} (h:i<l.length):okE Kt (Eu l) i 0=true:=by
 unfold okE Eu
 simp [List.getD_eq_getElem?_getD,List.getElem?_eq_getElem h,h,Kt,okS,SV.has]
end
section
open Go Go.ChangeAt Go.ChangeShapes Go.Proofs Go.RowKit Go.WideShapes
set_option maxRecDepth 100000
theorem own:ownKnob Tryz.prog.godebug=none:=by kernel_rfl
theorem Sk:laidOutB Tryz.prog=true:=by kernel_rfl
noncomputable def gTy (g:Nat):Nat:=match Tryz.prog.globals[g]? with | some x=>x.type | none=>0
noncomputable def dbT:Nat:=gTy 5
noncomputable def Sr:Nat:=gTy 3
noncomputable def Hi:Nat:=gTy 2
noncomputable def Sf:Nat:=gTy 1
noncomputable def Hh:Nat:=match Tryz.prog.underlying Hi with | some (.array _ e)=>e | _=>0
noncomputable def Ap:Array Field:=match Tryz.prog.underlying Hh with | some (.struct fs)=>fs | _=>#[]
noncomputable def Fm:Field:=match Ap.toList with | a::_=>a | _=>default
noncomputable def Fo:Field:=match Ap.toList with | _::a::_=>a | _=>default
theorem Um:Ap[0]? = some Fm:=by unfold Fm Ap Hh Hi gTy;kernel_rfl
theorem Un:Ap[1]? = some Fo:=by unfold Fo Ap Hh Hi gTy;kernel_rfl
def K3:List (String × DataW Unit):=[("math/bits.deBruijn32tab", Rows.laid_math_bits_deBruijn32tab), ("math/bits.deBruijn64tab", Rows.laid_math_bits_deBruijn64tab), ("internal/strconv.uint64pow10", Rows.laid_internal_strconv_uint64pow10), ("unicode/utf8.acceptRanges", Rows.laid_unicode_utf8_acceptRanges), ("unicode/utf8.first", Rows.laid_unicode_utf8_first)]
theorem Gw {W:World} {n:String} {g:Nat} {cs:Array Value} (hg:Tryz.prog.globalNamed n=some g) (h:W.var? Tryz.prog n=some cs):∃ e x,W.heap[g]? = some (.cells cs e x):=by
 unfold World.var? at h
 rw [hg,Option.bind_some] at h
 split at h
 ·rename_i c e x hh
  simp only [Option.some.injEq] at h
  subst h
  exact ⟨e,x,hh⟩
 ·cases h
theorem Bt {W:World} {n:String} {g t e m:Nat} {k:IntKind} {zs:List Int} (hg:Tryz.prog.globalNamed n=some g) (hty:(Tryz.prog.globals[g]?).map (·.type)=some t) (ht:Tryz.prog.underlying t=some (.array m e)) (he:Tryz.prog.underlying e=some (.int k)) (hce:Tryz.prog.cellsOf e=1) (hct:Tryz.prog.cellsOf t=m)
  (h:Lib.VarReads Tryz.prog W n (Lib.tabData k zs)):∃ e x,W.heap[g]? = some (.cells (zs.map λz=>Value.int k z).toArray e x):=by
 obtain ⟨g',t',cs,fuel,p,h1,h2,h3,h4⟩:=h
 obtain rfl:=Option.some.inj (hg.symm.trans h1)
 obtain rfl:=Option.some.inj (hty.symm.trans h2)
 have hcs:=Lib.cells_of_tab ht he hce hct h4
 have:cs=(zs.map λz=>Value.int k z).toArray:=by rw [<-hcs]
 rw [this] at h3
 exact Gw hg h3
theorem Ew {H:Type} {enc:TypeId × Value->H} {P:Program} {w:World} {base:Nat} {sp:Nat->Bool} {held:Bool} {fuel:Nat} {t e:TypeId} {n:Nat} {cs:List Value} {d:DataW H} {p:List MemPlace} (ht:P.underlying t=some (.array n e))
  (h:DataW.trod enc P w base sp held fuel t cs=some (d,p)):cs.length=P.cellsOf t:=by
 cases fuel with
 | zero=>simp [DataW.trod] at h
 | succ fuel=>
  simp only [DataW.trod,ht] at h
  split at h
  ·rename_i hl
   simpa using hl
  ·cases h
theorem Ob {W:World} (hg : Tryz.prog.globalNamed "unicode/utf8.acceptRanges" = some 2) (h:Lib.VarReads Tryz.prog W "unicode/utf8.acceptRanges" Lib.acceptData) :
  ∃ e x,W.heap[2]? = some (.cells (Aq.map λz=>Value.int .u8 z).toArray e x):=by
 obtain ⟨g',t,cs,fuel,p,h1,h2,h3,h4⟩:=h
 obtain rfl:=Option.some.inj (hg.symm.trans h1)
 have hty:(Tryz.prog.globals[2]?).map (·.type)=some Hi:=by unfold Hi;kernel_rfl
 obtain rfl:=Option.some.inj (hty.symm.trans h2)
 have ht:Tryz.prog.underlying Hi=some (.array 16 Hh):=by unfold Hi Hh;kernel_rfl
 have hl:=Ew ht h4
 have hct:Tryz.prog.cellsOf Hi=32:=by unfold Hi;kernel_rfl
 have hce:Tryz.prog.cellsOf Hh=2:=by unfold Hh;kernel_rfl
 have hu:∃ fs,Tryz.prog.underlying Hh=some (.struct fs)/\fs.size=2/\∀ (i:Nat) (f:Field),fs[i]? = some f->Tryz.prog.underlying f.type=some (.int .u8)/\f.offset=i/\Tryz.prog.cellsOf f.type=1:=by
  refine ⟨Ap,by unfold Hh Ap;kernel_rfl,by unfold Ap;kernel_rfl,λi f hf=>?_⟩
  have:i<2:=by
   have:=(Array.getElem?_eq_some_iff.1 hf).1
   rwa [show Ap.size=2 by unfold Ap;kernel_rfl] at this
  match i,this with
  | 0,_=>
   obtain rfl:=Option.some.inj (hf.symm.trans (show Ap[0]? = some Fm from Um))
   exact ⟨by unfold Fm;kernel_rfl,by unfold Fm;kernel_rfl,by unfold Fm;kernel_rfl⟩
  | 1,_=>
   obtain rfl:=Option.some.inj (hf.symm.trans (show Ap[1]? = some Fo from Un))
   exact ⟨by unfold Fo;kernel_rfl,by unfold Fo;kernel_rfl,by unfold Fo;kernel_rfl⟩
 obtain ⟨fs,hu1,hu2,hu3⟩:=hu
 have hcs:cs.toList=Aq.map λz=>Value.int .u8 z:=by
  have hlen:(Aq.map λz=>Value.int .u8 z).length=32:=by rw [List.length_map];rfl
  apply List.ext_getElem?
  intro q
  by_cases hq:q<32
  ·obtain ⟨fuel',d,q',hdi,he⟩:=Lib.array_elem ht h4 (q / 2) (by omega)
   simp only [List.getElem?_map,List.getElem?_range (show q / 2<16 by omega),Option.map_some,Option.some.injEq] at hdi
   subst hdi
   rw [hce] at he
   have hz:=Lib.ints_of_struct hu1 hu3 (by rw [hce,hu2]) he
   have e0:=congrArg (·[q % 2]?) hz
   simp only [List.getElem?_take,List.getElem?_drop] at e0
   rw [Wd,show q / 2*2+q % 2=q by omega] at e0
   rw [e0]
   unfold Aq
   have er:∀ g:Nat->Value,(List.map g (List.range 32))[q]? = some (g q):=λg=>by
    rw [List.getElem?_map,List.getElem?_range hq]
    rfl
   rw [List.map_map,er]
   rcases Nat.mod_two_eq_zero_or_one q with h2 | h2
   ·simp [h2]
   ·simp [h2]
  ·rw [List.getElem?_eq_none (by omega),List.getElem?_eq_none (by omega)]
 have:cs=(Aq.map λz=>Value.int .u8 z).toArray:=by rw [<-hcs]
 rw [this] at h3
 exact Gw hg h3
theorem Lt {C:Cfg} (hC:C.G=GX) {W:World} (hL:laidMet Tryz.prog K3 W) (hsh:W.ShapedOpen Tryz.prog):GOK C (· < W.heap.size) W:=by
 have lt:∀ {g:Nat} {o:Obj},W.heap[g]? = some o->g<W.heap.size:=λh=>(Array.getElem?_eq_some_iff.1 h).1
 have r1:Lib.VarReads Tryz.prog W "math/bits.deBruijn64tab" (Lib.tabData .u8 (Lib.deBruijn64tab.map λn:Nat=>(n:Int))):=Lib.laidMet.reads hL (by rw [show (Lib.tabData .u8 (Lib.deBruijn64tab.map λn:Nat=>(n:Int)):DataW Unit)=Rows.laid_math_bits_deBruijn64tab by kernel_rfl];simp [K3])
 have r2:Lib.VarReads Tryz.prog W "internal/strconv.uint64pow10" (Lib.tabData .u64 Lib.pow10Tab):=Lib.laidMet.reads hL (by rw [show (Lib.tabData .u64 Lib.pow10Tab:DataW Unit)=Rows.laid_internal_strconv_uint64pow10 by kernel_rfl];simp [K3])
 have r3:Lib.VarReads Tryz.prog W "unicode/utf8.acceptRanges" Lib.acceptData:=Lib.laidMet.reads hL (by rw [show Lib.acceptData=Rows.laid_unicode_utf8_acceptRanges by kernel_rfl];simp [K3])
 have r4:Lib.VarReads Tryz.prog W "unicode/utf8.first" (Lib.tabData .u8 Lib.firstTab):=Lib.laidMet.reads hL (by rw [show (Lib.tabData .u8 Lib.firstTab:DataW Unit)=Rows.laid_unicode_utf8_first by kernel_rfl];simp [K3])
 have c1:=Bt (g:=5) (t:=dbT) (e:=5) (m:=64) (by kernel_rfl) (by unfold dbT;kernel_rfl) (by unfold dbT;kernel_rfl) (by kernel_rfl) (by kernel_rfl) (by unfold dbT;kernel_rfl) r1
 have c2:=Bt (g:=3) (t:=Sr) (e:=183) (m:=20) (by kernel_rfl) (by unfold Sr;kernel_rfl) (by unfold Sr;kernel_rfl) (by kernel_rfl) (by kernel_rfl) (by unfold Sr;kernel_rfl) r2
 have c3:=Ob (by kernel_rfl) r3
 have c4:=Bt (g:=1) (t:=Sf) (e:=5) (m:=256) (by kernel_rfl) (by unfold Sf;kernel_rfl) (by unfold Sf;kernel_rfl) (by kernel_rfl) (by kernel_rfl) (by unfold Sf;kernel_rfl) r4
 have c5:=cell_of_shapedOpen_int (k:=.i64) (g:=0) (t:=3) (zero:=#[.int .i64 0]) hsh (of_decide_eq_true (by kernel_rfl)) (by kernel_rfl) rfl (by kernel_rfl) (by kernel_rfl) (by kernel_rfl)
 refine ⟨λg k zs h=>?_,λg h=>?_⟩
 ·rw [hC] at h
  simp only [GX] at h
  have key:∀ {g0:Nat} {k0:IntKind} {zs0:List Int},(∃ e x,W.heap[g0]? = some (.cells (zs0.map λz=>Value.int k0 z).toArray e x))->g=g0->(k0,zs0)=(k,zs)->g<W.heap.size/\∃ e x,W.heap[g]? = some (.cells (zs.map λz=>Value.int k z).toArray e x):=λhx e1 e2=>by
   subst e1
   cases e2
   obtain ⟨e,x,hx⟩:=hx
   exact ⟨lt hx,e,x,hx⟩
  cases b1:Nat.beq g 1 with
  | true=>rw [b1,cond_true] at h;exact key c4 (Nat.eq_of_beq_eq_true b1) (Option.some.inj h)
  | false=>
   rw [b1,cond_false] at h
   cases b2:Nat.beq g 2 with
   | true=>rw [b2,cond_true] at h;exact key c3 (Nat.eq_of_beq_eq_true b2) (Option.some.inj h)
   | false=>
    rw [b2,cond_false] at h
    cases b3:Nat.beq g 3 with
    | true=>rw [b3,cond_true] at h;exact key c2 (Nat.eq_of_beq_eq_true b3) (Option.some.inj h)
    | false=>
     rw [b3,cond_false] at h
     cases b4:Nat.beq g 5 with
     | true=>rw [b4,cond_true] at h;exact key c1 (Nat.eq_of_beq_eq_true b4) (Option.some.inj h)
     | false=>rw [b4,cond_false] at h;cases h
 ·rw [hC] at h
  have e:=Nat.eq_of_beq_eq_true h
  subst e
  obtain ⟨m,hm⟩:=c5
  refine ⟨?_,m,hm⟩
  apply Classical.byContradiction
  intro hge
  simp [World.cell?,Array.getElem?_eq_none (Nat.le_of_not_lt hge)] at hm
theorem Bh (os:Os) (args:Array Value):((World.laidAll Tryz.prog os K3).forCall (λ_ _=>0) ⟨#[],args,[]⟩).Shaped Tryz.prog:=
 World.shaped_of_ZipB (by kernel_rfl) (by kernel_rfl)
theorem Fc (os:Os) (args:Array Value):laidMetH Tryz.prog K3 ((World.laidAll Tryz.prog os K3).forCall (λ_ _=>0) ⟨#[],args,[]⟩).memory:=by
 rw [MakeChecks.laidMetH_plain _ _ _ (by kernel_rfl)]
 exact laidMet_laidAll _ (by kernel_rfl) (by kernel_rfl)
theorem Lu {H:Type} {enc:TypeId × Value->H} {os:Os} (started:os.Started) {C:Cfg} (hCP:C.P=Tryz.prog) (hCG:C.G=GX) (hX:XOK C) (hO:N3 C) {f tb:Nat} {fn:Func} {c:Code} {s:ChangeSpec} {conds:List PathCond} {apart fresh handsOn again:Bool} (noInit:Tryz.prog.inits.idxOf? f=none) (hfn:Tryz.prog.funcs[f]? = some fn) (hb:fn.body=some c) (hname:(fn.name == "runtime.NumGoroutine")=false)
  (hp:∀ t∈fn.params.toList,(Tryz.prog.readableRec t=true/\t<Tryz.prog.types.size)/\(T1 Tryz.prog 20 t).isSome=true) (hres:fn.resultTypes = #[tb]) (hbool:Tryz.prog.underlying tb=some .bool) (hvars:s.vars=[])
  (hspec:∀ ds:List (DataW H),ds.length=fn.params.toList.length->s.fn H ds = { results:=[.lit (.bool true)],args:=ds })
  (wit:Array Value) (fuel:Nat) (hok:Input.okWideB Tryz.prog ((World.laidAll Tryz.prog os K3).forCall (λ_ _=>0) ⟨#[],wit,[]⟩) f ⟨#[],wit,[]⟩=true)
  (hpre:s.preB enc Tryz.prog fn conds apart ((World.laidAll Tryz.prog os K3).forCall (λ_ _=>0) ⟨#[],wit,[]⟩).memory wit fuel=true)
  (hsz:s.sizedB enc Tryz.prog fn apart ((World.laidAll Tryz.prog os K3).forCall (λ_ _=>0) ⟨#[],wit,[]⟩).memory wit fuel=true)
  (hev:∀ args,P9 Tryz.prog fn.params.toList args->∃ d Hc,evC C d Unit noY f args [] ()=some (.s (.bool true),Hc,())) :
  ReturnsInHanded {} Tryz.checked os f .any (λw args=>(s.pre enc Tryz.prog fn conds apart w args/\laidMetH Tryz.prog K3 w)/\sizedMet enc Tryz.prog fn (OpenSpec.ofChange s) apart w args) (s.post enc Tryz.prog fn apart fresh handsOn again):=by
 obtain ⟨P,G,X,lend,okf,lf,keep,keepR,xp,keepE,keepT,Y,S,nt,rw0⟩:=C
 simp only at hCP hCG
 subst hCP
 refine returnsInHanded_of_calls (C:=Tryz.checked) own started noInit
  (ChangeSpec.witness_shaped (enc:=enc) (C:=Tryz.checked) (os:=os) (X:=λw _=>laidMetH Tryz.prog K3 w) false (World.laidAll Tryz.prog os K3) wit fuel (World.laidAll_os _ _ _) (Bh os wit) hok hpre hsz (Fc os wit)) ?_
 intro w tape i _ hsh _ hok hpre hholds
 obtain ⟨_,_,_,fn',hfn',_,_,_,_,hval⟩:=hok
 have e:fn'=fn:=Option.some.inj (hfn'.symm.trans hfn)
 subst e
 obtain ⟨⟨⟨ds,gs,before,hw,hc⟩,hx⟩,hz⟩:=hpre
 have hw':=DataW.Whole.of_heap (w':=w.forCall tape i) (by rfl) hw
 have hL:laidMet Tryz.prog K3 (w.forCall tape i):=by
  rw [MakeChecks.laidMetH_plain _ _ _ (by kernel_rfl)] at hx
  exact laidMet.of_heap (w':=w.forCall tape i) (by rfl) hx
 refine (Px (apart:=apart) (fresh:=fresh) (handsOn:=handsOn) (again:=again) hX hO follows Sk hfn hb hname hp hres hbool hvars hspec hev (w.forCall tape i) (Lt hCG hL hsh) w.heap.size i.args ds gs before hval hw').mono λe W' ⟨v,he,hp⟩=>?_
 subst he
 exact ChangeSpec.post_blind hp
end
section
open Go
def G4:List SV->Bool | [.str _,.int .i64 _,.int .i64 _,.str _]=>true | _=>false
def Uu (el:List SV):By × Bool:=if (el.getD 1 .nilp).gI=3 then ([],false) else ((el.getD 3 .nilp).gS,true)
def Y4 (l:LL):By × Bool:=if l.isEmpty then ([],false) else Uu (l.getD (l.length-1) [])
def Ig (el:List SV):Bool:=(el.getD 1 .nilp).gI==1&&(el.getD 2 .nilp).gI==6
def Ki (l:LL):Nat:=l.countP Ig
end
section
open Go Go.Proofs
set_option maxRecDepth 100000
section
def X1:List PV->Tr
 | []=>.ret (.s (.bool true)) []
 | _=>.fail
def An (args:List PV):Tr:=X1 (T2 [] args)
def Ao:List PV->Tr
 | [.s (.int .i64 n),.s (.sl l_z l_t 1 l)]=>.need (List.all l isS) (.need (I4 (List.length l)) (.ret (.s (.bool (U8 n (List.map elS l)))) []))
 | _=>.fail
def Df (args:List PV):Tr:=Ao (T2 [[0],[1]] args)
def Gz:List PV->Tr
 | [.s (.sl l_z l_t 4 l)]=>.need (List.all l G4) (.need (I4 (List.length l)) (.ret (.tup [.s (.str ((Y4 l)).1),.s (.bool ((Y4 l)).2)]) []))
 | _=>.fail
def Lb (args:List PV):Tr:=Gz (T2 [[4]] args)
def Dg:List PV->Tr
 | [.s (.sl l_z l_t 4 l)]=>.need (List.all l G4) (.need (I4 (List.length l)) (.ret (.tup [.s (.str ((Y4 l)).1),.s (.bool ((Y4 l)).2)]) []))
 | _=>.fail
def Hb (args:List PV):Tr:=Dg (T2 [[4]] args)
def Ha:List PV->Tr
 | [.s (.sl l_z l_t 4 l)]=>.need (List.all l G4) (.need (I4 (List.length l)) (.ret (.s (.int .i64 (↑(Ki l):Int))) []))
 | _=>.fail
def Lc (args:List PV):Tr:=Ha (T2 [[4]] args)
def Dh:List PV->Tr
 | [.s (.sl l_z l_t 4 l)]=>.need (List.all l G4) (.need (I4 (List.length l)) (.ret (.s (.int .i64 (↑(Ki l):Int))) []))
 | _=>.fail
def Hd (args:List PV):Tr:=Dh (T2 [[4]] args)
end
section
variable {σ R : Type} (lf : Nat) (cl : B8) (yh : Yh σ) (s : σ) (k : Out -> St σ -> Option R)
noncomputable abbrev Jc:Code:=Q4 Tryz.f10
noncomputable def L4 (lf:Nat):Cfg:=P5 lf [10] (H7 [(2,[0,0,2,0])]) []
 (H7 [(6,[4]),(3,[0,0,3]),(5,[4]),(4,[0,0,3,12]),(2,[0,0,3,3]),(1,[0,0,3]),(0,[0,0])]) [] (H7 [(0,[]),(1,[0,0,3])]) (some [4]) [] [] []
noncomputable def J0 {R:Type} (lf n:Nat) (n0:Int) (l_z1 l_t2:Bool) (l3:LL) (i4:Int) (k0:Unit->Option R) (k1:Unit->Option R):Option R:=match n with
 | 0=>none
 | n+1=>
  cond (ltI i4 (l3.length:Int))
   (cond (inR i4 l3.length)
   (cond (okE Kt l3 (Int.toNat i4) 0)
    (cond (ltI n0 (↑(List.length (gX l3 (Int.toNat i4) 0)):Int))
    (k0 ())
    (J0 lf n n0 l_z1 l_t2 l3 (O9 (i4+1)) k0 k1))
    none)
   none)
   (k1 ())
theorem Hx (n n0 l_z1 l_t2 l3 i4):S7 0 ((L4 lf).keep 2) (bd (L4 lf) cl yh (cd [1,0,1,0,0] Jc)) n ⟨gp [(0,pI n0),(0,.s (.sl l_z1 l_t2 1 l3)),(3,pI i4)] 13,[],s⟩ k =
 J0 lf n n0 l_z1 l_t2 l3 i4 (λ_=>k .ret ⟨gp [(4,pB false)] 14,[],s⟩) (λ_=>k (.exit 0) ⟨gp [] 19,[],s⟩):=by
 induction n generalizing n0 l_z1 l_t2 l3 i4 with
 | zero=>rfl
 | succ n ih=>rw [J0];simp only [<-ih];kernel_rfl
noncomputable def Hw {R:Type} (lf:Nat) (n0:Int) (l_z1 l_t2:Bool) (l3:LL) (k0:Bool->Option R):Option R:=
 J0 lf lf n0 l_z1 l_t2 l3 0 (λ_=>k0 false) (λ_=>k0 true)
theorem Oj (d:Nat) (n0 l_z1 l_t2 l3):evC (L4 lf) (d+1) σ yh 10 [pI n0,.s (.sl l_z1 l_t2 1 l3)] [] s=Hw lf n0 l_z1 l_t2 l3 (λr0=>some (pB r0,[],s)):=by
 refine (evE (fn:=Tryz.f10) (by kernel_rfl)).trans ?_
 generalize evC (L4 lf) d=cl
 unfold Hw;exact (Eq.trans (by kernel_rfl) ((Hx lf cl yh s (Rz 0 (Tc (L4 lf) cl yh (cd [1,1] Jc) (Oy (L4 lf) Tryz.f10))) lf n0 l_z1 l_t2 l3 0).trans (by kernel_rfl)))
noncomputable def Lm (lf:Nat):Cfg:=P5 lf [11] (H7 []) []
 (H7 [(6,[2,0]),(5,[2,0]),(4,[4,12]),(3,[4]),(2,[2,0]),(1,[0,6]),(0,[0])]) [] (H7 []) (some [2,0]) [] [] []
noncomputable def Sv {R:Type} (lf:Nat) (hops_z0 hops_t1:Bool) (hops2:LL) (k0:Unit->Option R) (k1:By->Bool->Int->Int->By->Option R):Option R:=
 cond ((hops2.length:Int)==0)
 (k0 ())
 (vl (O9 ((hops2.length:Int)-1)) λn'4=>
  cond (inR n'4 hops2.length)
  (cond (okE ⟨true,true,[.int .i64,.int .i64,.str]⟩ hops2 (Int.toNat n'4) 1)
   (vl (gE hops2 (Int.toNat n'4) 1) λn'5=>
   vl (gE hops2 (Int.toNat n'4) 2) λn'6=>
    vl (gX hops2 (Int.toNat n'4) 3) λs'7=>
    cond (n'5==3)
     (k1 ([]:List UInt8) false n'5 n'6 s'7)
     (k1 s'7 true n'5 n'6 s'7))
   none)
  none)
theorem Sw (d:Nat) (hops_z0 hops_t1 hops2):evC (Lm lf) (d+1) σ yh 11 [.s (.sl hops_z0 hops_t1 4 hops2)] [] s=Sv lf hops_z0 hops_t1 hops2 (λ_=>some (.tup [pS ([]:List UInt8),pB false],[],s)) (λr0 r1 n2 n3 s4=>some (.tup [pS r0,pB r1],[.box [pI n2,pI n3,pS s4]],s)):=by
 refine (evE (fn:=Tryz.f11) (by kernel_rfl)).trans ?_
 generalize evC (Lm lf) d=cl
 unfold Sv;kernel_rfl
noncomputable def Hp (lf:Nat):Cfg:=P5 lf [12] (H7 []) []
 (H7 [(3,[2,0]),(2,[2,0]),(1,[0,16]),(0,[0])]) [] (H7 []) (some [2,0]) [] [] []
noncomputable def Nv {R:Type} (lf:Nat) (hops_z0 hops_t1:Bool) (hops2:LL) (k0:By->Bool->Option R):Option R:=
 cond ((hops2.length:Int)==0)
 (k0 ([]:List UInt8) false)
 (vl (O9 ((hops2.length:Int)-1)) λn'2=>
  cond (inR n'2 hops2.length)
  (cond (okE Rc hops2 (Int.toNat n'2) 1)
   (vl (gE hops2 (Int.toNat n'2) 1) λn'3=>
   cond (n'3==3)
    (k0 ([]:List UInt8) false)
    (vl (O9 ((hops2.length:Int)-1)) λn'4=>
    cond (inR n'4 hops2.length)
     (cond (okE Kt hops2 (Int.toNat n'4) 3)
     (vl (gX hops2 (Int.toNat n'4) 3) λs'5=>
      k0 s'5 true)
     none)
     none))
   none)
  none)
theorem Qy (d:Nat) (hops_z0 hops_t1 hops2):evC (Hp lf) (d+1) σ yh 12 [.s (.sl hops_z0 hops_t1 4 hops2)] [] s=Nv lf hops_z0 hops_t1 hops2 (λr0 r1=>some (.tup [pS r0,pB r1],[],s)):=by
 refine (evE (fn:=Tryz.f12) (by kernel_rfl)).trans ?_
 generalize evC (Hp lf) d=cl
 unfold Nv;kernel_rfl
noncomputable abbrev Ps:Code:=Q4 Tryz.f13
noncomputable def X3 (lf:Nat):Cfg:=P5 lf [13] (H7 [(3,[2,0,2,0,0])]) []
 (H7 [(8,[2]),(7,[3,2,0,0]),(6,[3,2,0,0]),(5,[3,2,0,0,12]),(4,[3,1,0,0,0]),(3,[3,2,0,0,0]),(2,[3,2,0,0]),(1,[0,2]),(0,[0])]) [] (H7 [(0,[3]),(1,[3,2,0,0])]) (some [2]) [] [] []
noncomputable def K7 {R:Type} (lf n:Nat) (n0:Int) (z1 t2:Bool) (l3:LL) (n4 n5:Int) (k0:Int->Option R):Option R:=match n with
 | 0=>none
 | n+1=>
  cond (ltI n5 n4)
   (cond (inR n5 l3.length)
   (cond (okE ⟨true,true,[.str,.int .i64,.int .i64,.str]⟩ l3 (Int.toNat n5) 0)
    (cond ((gE l3 (Int.toNat n5) 1)==1)
    (cond ((gE l3 (Int.toNat n5) 2)==6)
     (K7 lf n (O9 (n0+1)) z1 t2 l3 n4 (O9 (n5+1)) k0)
     (K7 lf n n0 z1 t2 l3 n4 (O9 (n5+1)) k0))
    (K7 lf n n0 z1 t2 l3 n4 (O9 (n5+1)) k0))
    none)
   none)
   (k0 n0)
theorem Mr (n n0 z1 t2 l3 n4 n5):S7 0 ((X3 lf).keep 3) (bd (X3 lf) cl yh (cd [1,1,0,1,0,0] Ps)) n ⟨gp [(3,pI n0),(2,.s (.sl z1 t2 4 l3)),(0,pI n4),(0,pI n5)] 17,[],s⟩ k =
 K7 lf n n0 z1 t2 l3 n4 n5 (λn0=>k (.exit 0) ⟨gp [(3,pI n0)] 22,[],s⟩):=by
 induction n generalizing n0 z1 t2 l3 n4 n5 with
 | zero=>rfl
 | succ n ih=>rw [K7];simp only [<-ih];kernel_rfl
noncomputable def Sz {R:Type} (lf:Nat) (hops_z0 hops_t1:Bool) (hops2:LL) (k0:Int->Option R):Option R:=
 K7 lf lf 0 hops_z0 hops_t1 hops2 (hops2.length:Int) 0 (λn'0=>k0 n'0)
theorem Ta (d:Nat) (hops_z0 hops_t1 hops2):evC (X3 lf) (d+1) σ yh 13 [.s (.sl hops_z0 hops_t1 4 hops2)] [] s=Sz lf hops_z0 hops_t1 hops2 (λr0=>some (pI r0,[],s)):=by
 refine (evE (fn:=Tryz.f13) (by kernel_rfl)).trans ?_
 generalize evC (X3 lf) d=cl
 unfold Sz;exact (Eq.trans (by kernel_rfl) ((Mr lf cl yh s (Rz 0 (Tc (X3 lf) cl yh (cd [1,1,1] Ps) (Oy (X3 lf) Tryz.f13))) lf 0 hops_z0 hops_t1 hops2 (hops2.length:Int) 0).trans (by kernel_rfl)))
noncomputable abbrev Nj:Code:=Q4 Tryz.f14
noncomputable def Q5 (lf:Nat):Cfg:=P5 lf [14] (H7 [(3,[0,1,0,0])]) []
 (H7 [(7,[2]),(4,[0,2,0]),(6,[0,2,0]),(5,[0,2,0,21]),(3,[0,2,0,3]),(2,[0,2,0]),(1,[0,2]),(0,[0])]) [] (H7 [(0,[3]),(1,[0,2,0])]) (some [2]) [] [] []
noncomputable def H9 {R:Type} (lf n:Nat) (hops_z0 hops_t1:Bool) (hops2:LL) (n3 i4:Int) (k0:Int->Option R):Option R:=match n with
 | 0=>none
 | n+1=>
  cond (ltI i4 (hops2.length:Int))
   (cond (inR i4 hops2.length)
   (cond (okE Rc hops2 (Int.toNat i4) 1)
    (vl (gE hops2 (Int.toNat i4) 1) λn'0=>
    cond (n'0==1)
     (cond (inR i4 hops2.length)
     (cond (okE Rc hops2 (Int.toNat i4) 2)
      (vl (gE hops2 (Int.toNat i4) 2) λn'1=>
      cond (n'1==6)
       (H9 lf n hops_z0 hops_t1 hops2 (O9 (n3+1)) (O9 (i4+1)) k0)
       (H9 lf n hops_z0 hops_t1 hops2 n3 (O9 (i4+1)) k0))
      none)
     none)
     (H9 lf n hops_z0 hops_t1 hops2 n3 (O9 (i4+1)) k0))
    none)
   none)
   (k0 n3)
theorem Kl (n hops_z0 hops_t1 hops2 n3 i4):S7 0 ((Q5 lf).keep 3) (bd (Q5 lf) cl yh (cd [1,1,0,1,0,0] Nj)) n ⟨gp [(0,.s (.sl hops_z0 hops_t1 4 hops2)),(2,pI n3),(0,pI i4)] 25,[],s⟩ k =
 H9 lf n hops_z0 hops_t1 hops2 n3 i4 (λn0=>k (.exit 0) ⟨gp [(3,pI n0)] 26,[],s⟩):=by
 induction n generalizing hops_z0 hops_t1 hops2 n3 i4 with
 | zero=>rfl
 | succ n ih=>rw [H9];simp only [<-ih];kernel_rfl
noncomputable def Nw {R:Type} (lf:Nat) (hops_z0 hops_t1:Bool) (hops2:LL) (k0:Int->Option R):Option R:=
 H9 lf lf hops_z0 hops_t1 hops2 0 0 (λn'2=>k0 n'2)
theorem Qz (d:Nat) (hops_z0 hops_t1 hops2):evC (Q5 lf) (d+1) σ yh 14 [.s (.sl hops_z0 hops_t1 4 hops2)] [] s=Nw lf hops_z0 hops_t1 hops2 (λr0=>some (pI r0,[],s)):=by
 refine (evE (fn:=Tryz.f14) (by kernel_rfl)).trans ?_
 generalize evC (Q5 lf) d=cl
 unfold Nw;exact (Eq.trans (by kernel_rfl) ((Kl lf cl yh s (Rz 0 (Tc (Q5 lf) cl yh (cd [1,1,1] Nj) (Oy (Q5 lf) Tryz.f14))) lf hops_z0 hops_t1 hops2 0 0).trans (by kernel_rfl)))
noncomputable abbrev Ue:Code:=Q4 Tryz.f4
noncomputable def Cb (lf:Nat):Cfg:=P5 lf [4] (H7 [(4,[0,1,0])]) [(6,An),(10,Df),(11,Lb),(12,Hb),(13,Lc),(14,Hd)]
 (H7 [(10,[2]),(9,[0,3,0,0,0]),(8,[0,3,0]),(5,[0,2]),(7,[2]),(6,[0,2,27]),(4,[0,2,11]),(3,[0,2]),(2,[2]),(1,[0,9]),(0,[0])]) [6,10,11,12,13,14] (H7 [(0,[0]),(1,[0,2])]) (some [2]) [] [] []
noncomputable def U2 {R:Type} (lf n:Nat) (hops_z0 hops_t1:Bool) (hops2:LL) (i3:Int) (k0:Unit->Option R) (k1:Bool->Bool->LL->Option R):Option R:=match n with
 | 0=>none
 | n+1=>
  cond (ltI i3 (hops2.length:Int))
   (cond (inR i3 hops2.length)
   (cond (okE Kt hops2 (Int.toNat i3) 0)
    (vl (gX hops2 (Int.toNat i3) 0) λs'0=>
    cond (inR i3 hops2.length)
     (cond (okE Kt hops2 (Int.toNat i3) 3)
     (vl (gX hops2 (Int.toNat i3) 3) λs'1=>
      cond (List.all [[(SV.str s'0)],[(SV.str s'1)]] isS)
      (cond (not (U8 (3000:Int) (List.map elS [[(SV.str s'0)],[(SV.str s'1)]])))
       (k0 ())
       (U2 lf n hops_z0 hops_t1 hops2 (O9 (i3+1)) k0 k1))
      none)
     none)
     none)
    none)
   none)
   (k1 hops_z0 hops_t1 hops2)
theorem Oo (n hops_z0 hops_t1 hops2 i3):S7 0 ((Cb lf).keep 4) (bd (Cb lf) cl yh (cd [1,1,0,1,0,0] Ue)) n ⟨gp [(0,.s (.sl hops_z0 hops_t1 4 hops2)),(2,pI i3)] 57,[],s⟩ k =
 U2 lf n hops_z0 hops_t1 hops2 i3 (λ_=>k .ret ⟨gp [(2,pB true)] 58,[],s⟩) (λhops_z0 hops_t1 hops2=>k (.exit 0) ⟨gp [(0,.s (.sl hops_z0 hops_t1 4 hops2))] 60,[],s⟩):=by
 induction n generalizing hops_z0 hops_t1 hops2 i3 with
 | zero=>rfl
 | succ n ih=>rw [U2];exact (Eq.trans (by kernel_rfl) (E9 (E9 (E9 (Kx λs'0=>(E9 (E9 (Kx λs'1=>(E9 (E9 rfl (ih hops_z0 hops_t1 hops2 (O9 (i3+1)))) rfl)) rfl) rfl)) rfl) rfl) rfl))
noncomputable def lrh {R:Type} (lf:Nat) (hops_z0 hops_t1:Bool) (hops2:LL) (k0:Bool->Option R):Option R:=
 cond (ltI 50 (hops2.length:Int))
 (k0 true)
 (U2 lf lf hops_z0 hops_t1 hops2 0 (λ_=>k0 true) (λhops_z'2 hops_t'3 hops'4=>cond (List.all hops'4 G4)
  (cond (I4 hops'4.length)
  (cond (List.all hops'4 G4)
   (cond (I4 hops'4.length)
   (cond (((Y4 hops'4)).1==((Y4 hops'4)).1)
    (cond (((Y4 hops'4)).2==((Y4 hops'4)).2)
    (cond (List.all hops'4 G4)
     (cond (I4 hops'4.length)
     (cond (List.all hops'4 G4)
      (cond (I4 hops'4.length)
      (cond ((↑(Ki hops'4):Int)==(↑(Ki hops'4):Int))
       (k0 true)
       (k0 false))
      none)
      none)
     none)
     none)
    (k0 false))
    (k0 false))
   none)
   none)
  none)
  none))
theorem Va (d:Nat) (hops_z0 hops_t1 hops2):evC (Cb lf) (d+1) σ yh 4 [.s (.sl hops_z0 hops_t1 4 hops2)] [] s=lrh lf hops_z0 hops_t1 hops2 (λr0=>some (pB r0,[],s)):=by
 refine (evE (fn:=Tryz.f4) (by kernel_rfl)).trans ?_
 generalize evC (Cb lf) d=cl
 unfold lrh;exact (Eq.trans (by kernel_rfl) (E9 rfl ((Oo lf cl yh s (Rz 0 (Tc (Cb lf) cl yh (cd [1,1,1] Ue) (Oy (Cb lf) Tryz.f4))) lf hops_z0 hops_t1 hops2 0).trans (by kernel_rfl))))
end
theorem Th {l:LL} (h:l.all isS=true):l=Eu (l.map elS):=by
 unfold Eu
 rw [List.map_map]
 symm
 rw [List.map_congr_left (g:=id)]
 ·simp
 ·intro x hx
  have:=List.all_eq_true.1 h x hx
  unfold isS at this
  split at this
  ·rfl
  grind
theorem Cm {R:Type} (n:Int) (z t:Bool) (l:List By) (k0 k1:Unit->Option R) (hl:l.length<=1000000000):∀ (r:List By) (i m:Nat),l.drop i=r->r.length<m->J0 LF m n z t (Eu l) (i:Int) k0 k1=if U8 n r then k1 () else k0 ()
 | [],i,m,h,hm=>by
  obtain ⟨m,rfl⟩:∃ q,m=q+1:=⟨m-1,by simp at hm;omega⟩
  rw [J0]
  have:l.length<=i:=List.drop_eq_nil_iff.1 h
  rw [Gi (by rw [Ag];omega)]
  rfl
 | x::r,i,m,h,hm=>by
  obtain ⟨m,rfl⟩:∃ q,m=q+1:=⟨m-1,by simp at hm;omega⟩
  rw [J0]
  have hi:i<l.length:=Decidable.byContradiction λhge=>by
   rw [List.drop_eq_nil_iff.2 (by omega)] at h
   cases h
  have hx:l.getD i []=x:=by
   have:=List.drop_eq_getElem_cons hi
   rw [h] at this
   rw [List.getD_eq_getElem?_getD,List.getElem?_eq_getElem hi]
   exact (List.cons.inj this).1.symm
  have hr:l.drop (i+1)=r:=by
   have:=List.drop_eq_getElem_cons hi
   rw [h] at this
   exact (List.cons.inj this).2.symm
  rw [Gj (by rw [Ag];omega),cond_true,Gd (by omega) (by rw [Ag];omega),cond_true,Int.toNat_natCast,Qo hi,cond_true,Sj,hx]
  have e:U8 n (x::r)=(!(ltI n (x.length:Int))&&U8 n r):=rfl
  rw [e]
  by_cases hc:n<(x.length:Int)
  ·rw [Gj hc];rfl
  ·rw [Vb,cond_false,Bv,Bool.not_false,Bool.true_and]
   exact Cm n z t l k0 k1 hl r (i+1) m hr (by simp at hm;omega)
theorem Jz {R:Type} {k0:Bool->Option R} (n:Int) (z t:Bool) (l:LL) (h0:l.all isS=true) (h1:I4 l.length=true):Hw LF n z t l k0=k0 (U8 n (l.map elS)):=by
 have hLF:=Gy
 have hl:=Qh h1
 rw [Th h0] at hl ⊢
 generalize l.map elS=q at hl ⊢
 rw [Ag] at hl
 unfold Hw
 rw [show (0:Int)=((0:Nat):Int) from rfl,Cm n z t q _ _ hl q 0 LF rfl (by omega)]
 have:List.map elS (Eu q)=q:=by
  unfold Eu
  rw [List.map_map]
  exact List.map_id'' (λ_=>rfl) q
 rw [this]
 cases U8 n q<;>rfl
theorem Uw {l:LL} (h:l.all G4=true) {i:Nat} (hi:i<l.length):∃ u a r v,l.getD i []=[.str u,.int .i64 a,.int .i64 r,.str v]:=by
 have hx:=List.all_eq_true.1 h (l[i]) (List.getElem_mem hi)
 rw [List.getD_eq_getElem?_getD,List.getElem?_eq_getElem hi,Option.getD_some]
 unfold G4 at hx
 split at hx
 ·rename_i u a r v e
  exact ⟨u,a,r,v,e⟩
 ·cases hx
theorem Z6 {l:LL} (h:l.all G4=true) {i:Nat} (hi:i<l.length):okE ⟨true,true,[.str,.int .i64,.int .i64,.str]⟩ l i 0=true/\okE ⟨true,true,[.int .i64,.int .i64,.str]⟩ l i 1=true/\okE Rc l i 1=true/\okE Rc l i 2=true/\okE Kt l i 0=true/\okE Kt l i 3=true:=by
 obtain ⟨u,a,r,v,e⟩:=Uw h hi
 unfold okE
 rw [e,decide_eq_true hi]
 exact ⟨rfl,rfl,rfl,rfl,rfl,rfl⟩
theorem X5 (l:LL) (i j:Nat):gE l i j=((l.getD i []).getD j .nilp).gI/\gX l i j=((l.getD i []).getD j .nilp).gS:=⟨rfl,rfl⟩
theorem Sx (z t:Bool) (l:LL) (h0:l.all G4=true) (h1:I4 l.length=true):∃ r H,Sv LF z t l (λ_=>rv (.tup [pS ([]:List UInt8),pB false]) []) (λr0 r1 n2 n3 s4=>rv (.tup [pS r0,pB r1]) [.box [pI n2,pI n3,pS s4]])=rv r H/\r.stab [0,0] H = .tup [pS (Y4 l).1,pB (Y4 l).2]:=by
 have hl:=Qh h1
 unfold Sv Y4
 cases l with
 | nil=>exact ⟨_,_,rfl,rfl⟩
 | cons e q=>
  rw [show (((e::q).length:Int)==0)=false by simp;omega,cond_false]
  simp only [vl]
  have hn:O9 (((e::q).length:Int)-1)=(((e::q).length-1:Nat):Int):=by rw [Bv];simp
  rw [hn,Gd (by omega) (by simp;omega),cond_true,Int.toNat_natCast,(Z6 h0 (by simp)).2.1,cond_true,(X5 _ _ 1).1,(X5 _ _ 2).1,(X5 _ _ 3).2]
  generalize (e::q).getD ((e::q).length-1) []=el
  simp only [List.isEmpty_cons,Bool.false_eq_true,if_false]
  unfold Uu
  by_cases ha:(el.getD 1 .nilp).gI=3
  ·rw [if_pos ha,ha];exact ⟨_,_,rfl,rfl⟩
  ·rw [if_neg ha,show ((el.getD 1 .nilp).gI==3)=false by simpa using ha];exact ⟨_,_,rfl,rfl⟩
theorem Ms {R:Type} {k0:By->Bool->Option R} (z t:Bool) (l:LL) (h0:l.all G4=true) (h1:I4 l.length=true):Nv LF z t l k0=k0 (Y4 l).1 (Y4 l).2:=by
 have hl:=Qh h1
 unfold Nv Y4
 cases l with
 | nil=>rfl
 | cons e q=>
  rw [show (((e::q).length:Int)==0)=false by simp;omega,cond_false]
  simp only [vl]
  have hn:O9 (((e::q).length:Int)-1)=(((e::q).length-1:Nat):Int):=by rw [Bv];simp
  rw [hn,Gd (by omega) (by simp;omega),cond_true,Int.toNat_natCast,(Z6 h0 (by simp)).2.2.1,(Z6 h0 (by simp)).2.2.2.2.2,cond_true,cond_true,(X5 _ _ 1).1,(X5 _ _ 3).2]
  generalize (e::q).getD ((e::q).length-1) []=el
  simp only [List.isEmpty_cons,Bool.false_eq_true,if_false]
  unfold Uu
  by_cases ha:(el.getD 1 .nilp).gI=3
  ·rw [if_pos ha,ha];rfl
  ·rw [if_neg ha,show ((el.getD 1 .nilp).gI==3)=false by simpa using ha];rfl
theorem Ot (l:LL) (i:Nat) (hi:i<l.length):((l.take (i+1)).countP Ig)=(l.take i).countP Ig+cond (gE l i 1==1) (cond (gE l i 2==6) 1 0) 0:=by
 rw [List.take_add_one,List.countP_append,List.getElem?_eq_getElem hi]
 congr 1
 have e:l.getD i []=l[i]:=by rw [List.getD_eq_getElem?_getD,List.getElem?_eq_getElem hi];rfl
 have key:∀ b1 b2:Bool,(0+if (b1&&b2)=true then 1 else 0)=cond b1 (cond b2 1 0) 0:=by decide
 rw [(X5 l i 1).1,(X5 l i 2).1,e]
 simp only [Option.toList_some,List.countP_cons,List.countP_nil,Ig]
 exact key _ _
theorem Bo {R:Type} (z t:Bool) (l:LL) (h0:l.all G4=true) (hl:l.length<=1000000000) (k0:Int->Option R):∀ (r i m:Nat),i+r=l.length->r<m->
  K7 LF m (((l.take i).countP Ig:Nat):Int) z t l (l.length:Int) (i:Int) k0=k0 ((Ki l:Nat):Int)/\H9 LF m z t l (((l.take i).countP Ig:Nat):Int) (i:Int) k0=k0 ((Ki l:Nat):Int)
 | 0,i,m,hi,hm=>by
  obtain ⟨m,rfl⟩:∃ q,m=q+1:=⟨m-1,by omega⟩
  rw [K7,H9,Gi (by omega),List.take_of_length_le (by omega)]
  exact ⟨rfl,rfl⟩
 | r+1,i,m,hi,hm=>by
  obtain ⟨m,rfl⟩:∃ q,m=q+1:=⟨m-1,by omega⟩
  obtain ⟨o1,_,o2,o3,_,_⟩:=Z6 h0 (show i<l.length by omega)
  have hc:(l.take i).countP Ig<=l.length:=Nat.le_trans List.countP_le_length (by rw [List.length_take];omega)
  have ih:=Bo z t l h0 hl k0 r (i+1) m (by omega) (by omega)
  rw [Ot l i (by omega)] at ih
  rw [K7,H9,Gj (by omega),Gd (by omega) (by omega),Int.toNat_natCast,o1,o2,o3]
  simp only [cond_true,vl]
  have e1:O9 ((i:Int)+1)=((i+1:Nat):Int):=by rw [Bv];rfl
  have e2:O9 ((((l.take i).countP Ig:Nat):Int)+1)=(((l.take i).countP Ig+1:Nat):Int):=by rw [Bv];rfl
  rw [e1,e2]
  revert ih
  generalize (gE l i 1==1)=b1
  generalize (gE l i 2==6)=b2
  cases b1<;>cases b2<;>exact id
theorem Pb {R:Type} {k0:Int->Option R} (z t:Bool) (l:LL) (h0:l.all G4=true) (h1:I4 l.length=true):Sz LF z t l k0=k0 ((Ki l:Nat):Int):=by
 have hLF:=Gy
 have hl:=Qh h1
 unfold Sz
 exact (Bo z t l h0 hl k0 l.length 0 LF (by omega) (by omega)).1
theorem Mt {R:Type} {k0:Int->Option R} (z t:Bool) (l:LL) (h0:l.all G4=true) (h1:I4 l.length=true):Nw LF z t l k0=k0 ((Ki l:Nat):Int):=by
 have hLF:=Gy
 have hl:=Qh h1
 unfold Nw
 exact (Bo z t l h0 hl k0 l.length 0 LF (by omega) (by omega)).2
theorem Kc {R:Type} (z t:Bool) (l:LL) (h0:l.all G4=true) (hl:l.length<=50) (k0:Unit->Option R) (k1:Bool->Bool->LL->Option R):∀ (r i m:Nat),i+r=l.length->r<m->U2 LF m z t l (i:Int) k0 k1=k0 ()\/U2 LF m z t l (i:Int) k0 k1=k1 z t l
 | 0,i,m,hi,hm=>by
  obtain ⟨m,rfl⟩:∃ q,m=q+1:=⟨m-1,by omega⟩
  rw [U2,Gi (by omega)]
  exact .inr rfl
 | r+1,i,m,hi,hm=>by
  obtain ⟨m,rfl⟩:∃ q,m=q+1:=⟨m-1,by omega⟩
  obtain ⟨_,_,_,_,o1,o2⟩:=Z6 h0 (show i<l.length by omega)
  rw [U2,Gj (by omega),Gd (by omega) (by omega),Int.toNat_natCast,o1,o2]
  simp only [cond_true,vl]
  have e1:O9 ((i:Int)+1)=((i+1:Nat):Int):=by rw [Bv];rfl
  rw [e1,show (List.all [[(SV.str (gX l i 0))],[(SV.str (gX l i 3))]] isS)=true from rfl,cond_true]
  cases (not (U8 (3000:Int) (List.map elS [[(SV.str (gX l i 0))],[(SV.str (gX l i 3))]])))
  ·exact Kc z t l h0 hl k0 k1 r (i+1) m (by omega) (by omega)
  ·exact .inl rfl
theorem Qg {R:Type} {k0:Bool->Option R} (z t:Bool) (l:LL) (h0:l.all G4=true):lrh LF z t l k0=k0 true:=by
 have hLF:=Gy
 unfold lrh
 by_cases hl:l.length<=50
 ·rw [Gi (by omega),cond_false]
  rcases Kc z t l h0 hl (λ_=>k0 true) _ l.length 0 LF (by omega) (by omega) with e | e
  ·exact e
  ·refine e.trans ?_
   simp only [h0,Te (n:=l.length),beq_self_eq_true,cond_true]
 ·rw [Gj (by omega)]
  rfl
theorem Qe {els:LL} (h:∀ el∈els,Ty.ofL [.str,.int .i64,.int .i64,.str] el):els.all G4=true:=by
 rw [List.all_eq_true]
 intro el he
 have:=h el he
 simp only [Ty.ofL,Ty.of] at this
 obtain ⟨_,_,rfl,⟨u,rfl,_⟩,_,_,rfl,⟨a,rfl,_⟩,_,_,rfl,⟨r,rfl,_⟩,_,_,rfl,⟨v,rfl,_⟩,rfl⟩:=this
 rfl
theorem Sm (args:List PV) (h:P9 Tryz.prog [29] args):∃ d Hc,evC (Cb LF) d Unit noY 4 args [] ()=some (.s (.bool true),Hc,()):=by
 obtain ⟨v1,q1,rfl,h1,rfl⟩:=h
 obtain ⟨x,rfl,hx⟩:=Rv (ty:=.slice [.str,.int .i64,.int .i64,.str]) h1 (by kernel_rfl) (by kernel_rfl)
 have ⟨z,l,e,hl⟩:∃ z l,x = .sl z false 4 l/\l.all G4=true:=by
  simp only [Ty.of,List.length_cons,List.length_nil] at hx
  rcases hx with rfl | ⟨els,rfl,_,hall⟩
  ·exact ⟨true,[],rfl,rfl⟩
  ·exact ⟨false,els,rfl,Qe hall⟩
 subst e
 exact ⟨1,_,(Va (σ:=Unit) LF noY () 0 z false l).trans (Qg z false l hl)⟩
section
theorem Rj:C0 Tryz.prog GX 10 Df:=xf [] (L4 LF) Ao rfl trivial rfl (by kernel_rfl) follows λargs=>by
 unfold Ao;split
 ·rename_i n l_z l_t l;exact λh0=>λh1=>⟨rfl,rfl,rfl,_,_,(Oj LF noY () 0 n l_z l_t l).trans (Jz n l_z l_t l h0 h1),rfl⟩
 ·trivial
theorem Vq:C0 Tryz.prog GX 11 Lb:=xf [0,0] (Lm LF) Gz rfl trivial rfl (by kernel_rfl) follows λargs=>by
 unfold Gz;split
 ·rename_i l_z l_t l;exact λh0=>λh1=>(let ⟨r,H,e,q⟩:=Sx l_z l_t l h0 h1;⟨rfl,rfl,rfl,r,H,(Sw LF noY () 0 l_z l_t l).trans e,q⟩)
 ·trivial
theorem Tv:C0 Tryz.prog GX 12 Hb:=xf [0,0] (Hp LF) Dg rfl trivial rfl (by kernel_rfl) follows λargs=>by
 unfold Dg;split
 ·rename_i l_z l_t l;exact λh0=>λh1=>⟨rfl,rfl,rfl,_,_,(Qy LF noY () 0 l_z l_t l).trans (Ms l_z l_t l h0 h1),rfl⟩
 ·trivial
theorem Vr:C0 Tryz.prog GX 13 Lc:=xf [] (X3 LF) Ha rfl trivial rfl (by kernel_rfl) follows λargs=>by
 unfold Ha;split
 ·rename_i l_z l_t l;exact λh0=>λh1=>⟨rfl,rfl,rfl,_,_,(Ta LF noY () 0 l_z l_t l).trans (Pb l_z l_t l h0 h1),rfl⟩
 ·trivial
theorem Tw:C0 Tryz.prog GX 14 Hd:=xf [] (Q5 LF) Dh rfl trivial rfl (by kernel_rfl) follows λargs=>by
 unfold Dh;split
 ·rename_i l_z l_t l;exact λh0=>λh1=>⟨rfl,rfl,rfl,_,_,(Qz LF noY () 0 l_z l_t l).trans (Mt l_z l_t l h0 h1),rfl⟩
 ·trivial
end
end
end Go.Proofs.YtdallkhojokceaaGreatDoor.E
namespace Go.Proofs
open Go.Shelf
def Tryz.lays143_ren:Go.Shelf.Ren:=⟨fun | 143=>120 | 219=>73 | 217=>74 | 225=>77 | 224=>76 | 267=>102 | 266=>103 | 314=>124 | n=>n,fun | 9=>9 | 3=>3 | 4=>4 | 5=>5 | 46=>128 | 146=>169 | 51=>56 | n=>n,fun | 1=>0 | n=>n⟩
theorem Tryz.lays143:Go.Proofs.Lays.n143 Tryz.prog Tryz.lays143_ren:={
 mixed:=by kernel_rfl
 f143:=Tryz.func120.trans (congrArg some (by kernel_rfl))
 f217:=Tryz.func74.trans (congrArg some (by kernel_rfl))
 f219:=Tryz.func73.trans (congrArg some (by kernel_rfl))
 f224:=Tryz.func76.trans (congrArg some (by kernel_rfl))
 f225:=Tryz.func77.trans (congrArg some (by kernel_rfl))
 f266:=Tryz.func103.trans (congrArg some (by kernel_rfl))
 f267:=Tryz.func102.trans (congrArg some (by kernel_rfl))
 f314:=Tryz.func124.trans (congrArg some (by kernel_rfl))
 t3:=Tryz.underlying3
 a3:=Tryz.isAgg3
 z3:=Tryz.sizeOf3
 v3:=Tryz.zeroValue3
 t4:=Tryz.underlying4
 a4:=Tryz.isAgg4
 z4:=Tryz.sizeOf4
 v4:=Tryz.zeroValue4
 t5:=Tryz.underlying5
 a5:=Tryz.isAgg5
 z5:=Tryz.sizeOf5
 v5:=Tryz.zeroValue5
 t9:=Tryz.underlying9
 a9:=Tryz.isAgg9
 z9:=Tryz.sizeOf9
 v9:=Tryz.zeroValue9
 t46:=Tryz.underlying128
 a46:=Tryz.isAgg128
 z46:=Tryz.sizeOf128
 v46:=Tryz.zeroValue128
 t51:=Tryz.underlying56
 a51:=Tryz.isAgg56
 z51:=Tryz.sizeOf56
 v51:=Tryz.zeroValue56
 t146:=Tryz.underlying169
 a146:=Tryz.isAgg169
 z146:=Tryz.sizeOf169
 v146:=Tryz.zeroValue169
 g1:=by kernel_rfl }
def Tryz.lays145_ren:Go.Shelf.Ren:=⟨fun | 145=>29 | 220=>49 | 219=>73 | 217=>74 | 225=>77 | 224=>76 | 267=>102 | 266=>103 | 314=>124 | n=>n,fun | 9=>9 | 4=>4 | 59=>78 | 3=>3 | 5=>5 | 46=>128 | 146=>169 | 51=>56 | n=>n,fun | 1=>0 | n=>n⟩
theorem Tryz.lays145:Go.Proofs.Lays.n145 Tryz.prog Tryz.lays145_ren:={
 mixed:=by kernel_rfl
 f145:=Tryz.func29.trans (congrArg some (by kernel_rfl))
 f217:=Tryz.func74.trans (congrArg some (by kernel_rfl))
 f219:=Tryz.func73.trans (congrArg some (by kernel_rfl))
 f220:=Tryz.func49.trans (congrArg some (by kernel_rfl))
 f224:=Tryz.func76.trans (congrArg some (by kernel_rfl))
 f225:=Tryz.func77.trans (congrArg some (by kernel_rfl))
 f266:=Tryz.func103.trans (congrArg some (by kernel_rfl))
 f267:=Tryz.func102.trans (congrArg some (by kernel_rfl))
 f314:=Tryz.func124.trans (congrArg some (by kernel_rfl))
 t3:=Tryz.underlying3
 a3:=Tryz.isAgg3
 z3:=Tryz.sizeOf3
 v3:=Tryz.zeroValue3
 t4:=Tryz.underlying4
 a4:=Tryz.isAgg4
 z4:=Tryz.sizeOf4
 v4:=Tryz.zeroValue4
 t5:=Tryz.underlying5
 a5:=Tryz.isAgg5
 z5:=Tryz.sizeOf5
 v5:=Tryz.zeroValue5
 t9:=Tryz.underlying9
 a9:=Tryz.isAgg9
 z9:=Tryz.sizeOf9
 v9:=Tryz.zeroValue9
 t46:=Tryz.underlying128
 a46:=Tryz.isAgg128
 z46:=Tryz.sizeOf128
 v46:=Tryz.zeroValue128
 t51:=Tryz.underlying56
 a51:=Tryz.isAgg56
 z51:=Tryz.sizeOf56
 v51:=Tryz.zeroValue56
 t59:=Tryz.underlying78
 a59:=Tryz.isAgg78
 z59:=Tryz.sizeOf78
 v59:=Tryz.zeroValue78
 t146:=Tryz.underlying169
 a146:=Tryz.isAgg169
 z146:=Tryz.sizeOf169
 v146:=Tryz.zeroValue169
 g1:=by kernel_rfl }
def Tryz.lays138_ren:Go.Shelf.Ren:=⟨fun | 138=>128 | 195=>109 | 218=>144 | 143=>120 | 219=>73 | 217=>74 | 225=>77 | 224=>76 | 267=>102 | 266=>103 | 314=>124 | n=>n,fun | 9=>9 | 3=>3 | 4=>4 | 5=>5 | 0=>0 | 46=>128 | 146=>169 | 51=>56 | n=>n,fun | 1=>0 | n=>n⟩
theorem Tryz.lays138:Go.Proofs.Lays.n138 Tryz.prog Tryz.lays138_ren:={
 mixed:=by kernel_rfl
 f138:=Tryz.func128.trans (congrArg some (by kernel_rfl))
 f143:=Tryz.func120.trans (congrArg some (by kernel_rfl))
 f195:=Tryz.func109.trans (congrArg some (by kernel_rfl))
 f217:=Tryz.func74.trans (congrArg some (by kernel_rfl))
 f218:=Tryz.func144.trans (congrArg some (by kernel_rfl))
 f219:=Tryz.func73.trans (congrArg some (by kernel_rfl))
 f224:=Tryz.func76.trans (congrArg some (by kernel_rfl))
 f225:=Tryz.func77.trans (congrArg some (by kernel_rfl))
 f266:=Tryz.func103.trans (congrArg some (by kernel_rfl))
 f267:=Tryz.func102.trans (congrArg some (by kernel_rfl))
 f314:=Tryz.func124.trans (congrArg some (by kernel_rfl))
 t0:=Tryz.underlying0
 a0:=Tryz.isAgg0
 z0:=Tryz.sizeOf0
 v0:=Tryz.zeroValue0
 t3:=Tryz.underlying3
 a3:=Tryz.isAgg3
 z3:=Tryz.sizeOf3
 v3:=Tryz.zeroValue3
 t4:=Tryz.underlying4
 a4:=Tryz.isAgg4
 z4:=Tryz.sizeOf4
 v4:=Tryz.zeroValue4
 t5:=Tryz.underlying5
 a5:=Tryz.isAgg5
 z5:=Tryz.sizeOf5
 v5:=Tryz.zeroValue5
 t9:=Tryz.underlying9
 a9:=Tryz.isAgg9
 z9:=Tryz.sizeOf9
 v9:=Tryz.zeroValue9
 t46:=Tryz.underlying128
 a46:=Tryz.isAgg128
 z46:=Tryz.sizeOf128
 v46:=Tryz.zeroValue128
 t51:=Tryz.underlying56
 a51:=Tryz.isAgg56
 z51:=Tryz.sizeOf56
 v51:=Tryz.zeroValue56
 t146:=Tryz.underlying169
 a146:=Tryz.isAgg169
 z146:=Tryz.sizeOf169
 v146:=Tryz.zeroValue169
 g1:=by kernel_rfl }
def Tryz.lays137_ren:Go.Shelf.Ren:=⟨fun | 137=>50 | 217=>74 | 266=>103 | n=>n,fun | 9=>9 | 5=>5 | 3=>3 | n=>n,fun | n=>n⟩
theorem Tryz.lays137:Go.Proofs.Lays.n137 Tryz.prog Tryz.lays137_ren:={
 mixed:=by kernel_rfl
 f137:=Tryz.func50.trans (congrArg some (by kernel_rfl))
 f217:=Tryz.func74.trans (congrArg some (by kernel_rfl))
 f266:=Tryz.func103.trans (congrArg some (by kernel_rfl))
 t3:=Tryz.underlying3
 a3:=Tryz.isAgg3
 z3:=Tryz.sizeOf3
 v3:=Tryz.zeroValue3
 t5:=Tryz.underlying5
 a5:=Tryz.isAgg5
 z5:=Tryz.sizeOf5
 v5:=Tryz.zeroValue5
 t9:=Tryz.underlying9
 a9:=Tryz.isAgg9
 z9:=Tryz.sizeOf9
 v9:=Tryz.zeroValue9 }
end Go.Proofs
namespace Go.Proofs.YtdallkhojokceaaGreatDoor.E
set_option linter.all false
section
open Go Go.Proofs Go.RowKit
set_option maxRecDepth 100000
abbrev V0 (sc us:ByteArray) (kd:Int) (nm:ByteArray) (v4 a0 a1 a2 a3 a4 a5 a6 a7 po:Int) (re:ByteArray):Array Value:=#[.string sc,.string us,.int .i64 kd,.string nm,.int .u32 v4,.int .u16 a0,.int .u16 a1,.int .u16 a2,.int .u16 a3,.int .u16 a4,.int .u16 a5,.int .u16 a6,.int .u16 a7,.int .i64 po,.string re]
abbrev Aa:ByteArray:=⟨#[104,116,116,112]⟩
abbrev U7:ByteArray:=⟨#[104,116,116,112,115]⟩
abbrev sWs:ByteArray:=⟨#[119,115]⟩
abbrev Tb:ByteArray:=⟨#[119,115,115]⟩
abbrev P4:MapEntry:={ key:=.string Aa,val:=.string U7,born:=0 }
abbrev Az:MapEntry:={ key:=.string sWs,val:=.string Tb,born:=1 }
theorem Y1 (w:World) (o:Obj):(w.alloc o).heap[w.heap.size]? = some o:=(MapKept.heap_alloc w o).1
theorem Fq (w:World) (o p:Obj):({ (w.alloc o) with heap:=(w.alloc o).heap.setIfInBounds w.heap.size p }:World)=w.alloc p:=by
 have e:(w.heap.push o).setIfInBounds w.heap.size p=w.heap.push p:=by
  apply Array.toList_inj.1
  rw [Array.toList_setIfInBounds,Array.toList_push,Array.toList_push,<-Array.length_toList,List.set_append_right _ _ (Nat.le_refl _),Nat.sub_self]
  rfl
 show ({ w with heap:=(w.heap.push o).setIfInBounds w.heap.size p }:World) = { w with heap:=w.heap.push p }
 rw [e]
theorem Vc {P:Program} {t k e:TypeId} (hm:P.underlying t=some (.map k e)) (hk:P.underlying k=some .string) (w:World):(Instr.mapUpdate t (.map (some w.heap.size)) (.string Aa) (.string U7)).run P (w.alloc (.map #[] 0)) = .ok () (w.alloc (.map #[P4] 1)):=by
 rw [run_mapUpdate_first (w:=w.alloc (.map #[] 0)) t k e w.heap.size 0 Aa (.string U7) hm hk (Y1 w _),Fq]
theorem Vd {P:Program} {t k e:TypeId} (hm:P.underlying t=some (.map k e)) (hk:P.underlying k=some .string) (w:World):(Instr.mapUpdate t (.map (some w.heap.size)) (.string sWs) (.string Tb)).run P (w.alloc (.map #[P4] 1)) = .ok () (w.alloc (.map #[P4,Az] 2)):=by
 have hb:=Y1 w (.map #[P4] 1)
 have hf:Instr.findNow .string (.string sWs) (#[P4]:Array MapEntry).toList 0=some none:=rfl
 have hc:(Instr.checkKey false 10000 k (.string sWs)).run P (w.alloc (.map #[P4] 1)) = .ok () (w.alloc (.map #[P4] 1)):=MapKept.run_checkKey (k:=.string sWs) hk (by simp [MapKept.IsKey]) false 9999
 simp only [Instr.mapUpdate,Sem.run_bind,run_underlying hm,MapKept.run_getObj_map hb,hc,MapKept.run_findKey hk hf,MapKept.run_setObj_map _ hb,Result.andThen]
 exact congrArg (Result.ok ()) (Fq w (.map #[P4] 1) (.map #[P4,Az] 2))
theorem Ve {P:Program} {t k e:TypeId} (hm:P.underlying t=some (.map k e)) (hk:P.underlying k=some .string) (w:World):(Instr.lookup t (.map (some w.heap.size)) (.string Aa) false).run P (w.alloc (.map #[P4,Az] 2)) = .ok (.string U7) (w.alloc (.map #[P4,Az] 2))/\(Instr.lookup t (.map (some w.heap.size)) (.string sWs) false).run P (w.alloc (.map #[P4,Az] 2)) = .ok (.string Tb) (w.alloc (.map #[P4,Az] 2)):=by
 have hb:=Y1 w (.map #[P4,Az] 2)
 have hf:Instr.findNow .string (.string Aa) (#[P4,Az]:Array MapEntry).toList 0=some (some (0,.string U7)):=rfl
 have hf2:Instr.findNow .string (.string sWs) (#[P4,Az]:Array MapEntry).toList 0=some (some (1,.string Tb)):=rfl
 have hc:∀ s b,(Instr.checkKey b 10000 k (.string s)).run P (w.alloc (.map #[P4,Az] 2)) = .ok () (w.alloc (.map #[P4,Az] 2)):=λs b=>MapKept.run_checkKey (k:=.string s) hk (by simp [MapKept.IsKey]) b 9999
 constructor
 ·simp [Instr.lookup,run_underlying hm,MapKept.run_getObj_map hb,hc,MapKept.run_findKey hk hf,Result.andThen]
 ·simp [Instr.lookup,run_underlying hm,MapKept.run_getObj_map hb,hc,MapKept.run_findKey hk hf2,Result.andThen]
theorem size_alloc (w:World) (o:Obj):(w.alloc o).heap.size=w.heap.size+1:=Array.size_push ..
theorem Jv (w:World) (A B C D:Obj):((((w.alloc A).alloc B).alloc C).alloc D).heap[w.heap.size+1]? = some B:=by
 have e:∀ (w:World) (o:Obj) (i:Nat),i<w.heap.size->(w.alloc o).heap[i]? = w.heap[i]?:=λw o i h=>by
  show (w.heap.push o)[i]? = w.heap[i]?
  rw [Array.getElem?_push,if_neg (Nat.ne_of_lt h)]
 rw [e _ _ _ (by simp only [size_alloc];omega),e _ _ _ (by simp only [size_alloc];omega),<-size_alloc w A]
 exact Y1 (w.alloc A) B
theorem Jp (w:World) (o:Obj) (n:Nat):(w.alloc o).drewN n=(w.drewN n).alloc o:=rfl
theorem Ou (w:World):Calls Tryz.prog 51 #[.string Aa] w λe w'=>e = .returned (.int .i64 80)/\w'=w:=by
 go_enter Tryz.func51,Tryz.ntmps51
 go_wp2
 go_ret
 exact ⟨rfl,rfl⟩
theorem Mg (w:World):Calls Tryz.prog 51 #[.string U7] w λe w'=>e = .returned (.int .i64 443)/\w'=w:=by
 go_enter Tryz.func51,Tryz.ntmps51
 go_wp2
 go_ret
 exact ⟨rfl,rfl⟩
theorem Ux (sc us nm re:ByteArray) (kd v4 a0 a1 a2 a3 a4 a5 a6 a7 po:Int) (hp:∀ w,Calls Tryz.prog 51 #[.string sc] w λe w'=>e = .returned (.int .i64 80)/\w'=w) (w:World):Calls Tryz.prog 38 #[.agg (V0 sc us kd nm v4 a0 a1 a2 a3 a4 a5 a6 a7 po re)] w λe w'=>e = .returned (.bool true)/\w'=w.alloc (.cells (V0 sc us kd nm v4 a0 a1 a2 a3 a4 a5 a6 a7 po re) 62):=by
 have e44:∀ args w,(callFunc 51 args).run Tryz.prog w = .ok (.enter 51 args) w:=enters_of Tryz.func51 (by kernel_rfl) rfl
 go_enter Tryz.func38,Tryz.ntmps38
 go_wp2_with (go_at_fn 51;refine (hp _).mono ?_;rintro e w' ⟨rfl,hw⟩;rw [hw])
 go_ret
 exact ⟨rfl,rfl⟩
theorem Tk (sc sc2 us nm re:ByteArray) (kd v4 a0 a1 a2 a3 a4 a5 a6 a7 po po2:Int) (h1:po=443->po2 = -1) (h2:¬ po=443->po2=po)
  (hins:∀ w,Calls Tryz.prog 38 #[.agg (V0 sc us kd nm v4 a0 a1 a2 a3 a4 a5 a6 a7 po re)] w λe w'=>e = .returned (.bool true)/\w'=w.alloc (.cells (V0 sc us kd nm v4 a0 a1 a2 a3 a4 a5 a6 a7 po re) 62))
  (hl:∀ w:World,(Instr.lookup 115 (.map (some w.heap.size)) (.string sc) false).run Tryz.prog (w.alloc (.map #[P4,Az] 2)) = .ok (.string sc2) (w.alloc (.map #[P4,Az] 2)))
  (hport:∀ w,Calls Tryz.prog 51 #[.string sc2] w λe w'=>e = .returned (.int .i64 443)/\w'=w) (w:World) :
  Calls Tryz.prog 40 #[.agg (V0 sc us kd nm v4 a0 a1 a2 a3 a4 a5 a6 a7 po re)] w λe w'=>e = .returned (.agg (V0 sc2 us kd nm v4 a0 a1 a2 a3 a4 a5 a6 a7 po2 re))/\Below w.heap.size w w':=by
 have e24:∀ args w,(callFunc 38 args).run Tryz.prog w = .ok (.enter 38 args) w:=enters_of Tryz.func38 (by kernel_rfl) rfl
 have e44:∀ args w,(callFunc 51 args).run Tryz.prog w = .ok (.enter 51 args) w:=enters_of Tryz.func51 (by kernel_rfl) rfl
 have hmm:=@run_makeMap Tryz.prog
 have h3:∀ (w:World) A B C,(((w.alloc A).alloc B).alloc C).heap.size=w.heap.size+1+1+1:=λw A B C=>by simp only [World.alloc,Array.size_push]
 have hi1:∀ (w:World) A B C,_:=λw A B C=>h3 w A B C ▸ Vc (P:=Tryz.prog) Tryz.underlying115 Tryz.underlying9 (((w.alloc A).alloc B).alloc C)
 have hi2:∀ (w:World) A B C,_:=λw A B C=>h3 w A B C ▸ Vd (P:=Tryz.prog) Tryz.underlying115 Tryz.underlying9 (((w.alloc A).alloc B).alloc C)
 have hlk:∀ (w:World) A B C,_:=λw A B C=>h3 w A B C ▸ hl (((w.alloc A).alloc B).alloc C)
 clear hl
 go_enter Tryz.func40,Tryz.ntmps40
 go_wp2_with (go_at_fn 38;refine (hins _).mono ?_;rintro e w' ⟨rfl,hw⟩;rw [hw])
 clear hins hmm e24
 go_quiet (first | (go_at_call 51;exact Calls.quiet_of_same (hport _)))
 obtain ⟨w2,hw2⟩:∃ w2,w2=w.drewN nq:=⟨_,rfl⟩
 have hs:w.heap.size=w2.heap.size:=by rw [hw2];rfl
 have hB:Below w2.heap.size w w2:=by rw [<-hs,hw2];exact ⟨rfl,rfl,rfl,Nat.le_refl _,λ_ _=>rfl⟩
 simp only [Jp,<-hw2,hs]
 clear hi1 hi2 hlk h3 hw2
 go_wp2
 all_goals (try simp only [Exit.inBlock,Exit.then])
 ·have e:=h1 (by first | rfl | simpa using ‹(po==443)=true›)
  subst e
  refine bodyPost_ret (results_cell_row rfl _ _ (w2.heap.size+1) 62 _ _ _ rfl (Jv _ _ _ _ _) Tryz.underlying62 rfl (by kernel_rfl)) rfl ⟨rfl,?_⟩
  rw [hs]
  exact (((hB.alloc (Nat.le_refl _) _).alloc (by simp only [size_alloc];omega) _).alloc (by simp only [size_alloc];omega) _).alloc (by simp only [size_alloc];omega) _
 ·have e:=h2 (by first | assumption | simpa using ‹(po==443)=false›)
  subst e
  refine bodyPost_ret (results_cell_row rfl _ _ (w2.heap.size+1) 62 _ _ _ rfl (Jv _ _ _ _ _) Tryz.underlying62 rfl (by kernel_rfl)) rfl ⟨rfl,?_⟩
  rw [hs]
  exact (((hB.alloc (Nat.le_refl _) _).alloc (by simp only [size_alloc];omega) _).alloc (by simp only [size_alloc];omega) _).alloc (by simp only [size_alloc];omega) _
end
section
open Go Go.Proofs Go.RowKit Go.Sort
set_option maxRecDepth 100000
theorem Qd {C:Cfg} {St:Nat->Prop} {w:World} (hG:GOK C St w) (hc:C.G=GX):∃ m,w.cell? ⟨0,0,none⟩=some (.int .i64 m):=(hG.2 _ (by rw [hc];rfl)).2
def Hf:List PV->Tr
 | [.s (.str s),.s (.str p)]=>.need (Nat.ble s.length 10000) (.ret (.tup [.s (.str (Lib.cut s p).1),.s (.str (Lib.cut s p).2.1),.s (.bool (Lib.cut s p).2.2)]) [])
 | _=>.fail
theorem Rl:C0 Tryz.prog GX 29 Hf:=by
 refine F1 (fn:=Tryz.f29) (by kernel_rfl) (by kernel_rfl) (by kernel_rfl) ?_
 intro args ret Hc h
 unfold Hf at h
 split at h
 ·rename_i s p
  obtain ⟨h0,h⟩:=Ip h
  obtain ⟨rfl,rfl⟩:=R4 h
  refine ⟨rfl,rfl,λC hP hCG Γ w Vs hG hlt hc=>?_⟩
  obtain ⟨U,V,rfl,hu,hv⟩:=hc.arr2
  obtain ⟨s',rfl,rfl⟩:=hu.inv_str
  obtain ⟨p',rfl,rfl⟩:=hv.inv_str
  obtain ⟨m,hm⟩:=Qd hG hCG
  have hs:=Nat.le_of_ble_eq_true h0
  refine (Any.strings_Cut Tryz.lays145 s' p' m w (by simp at hs;omega) hm).mono ?_
  rintro e w' ⟨rfl,n,rfl⟩
  exact ⟨_,rfl,Je _ _,VP.mk_tup3 (VP.mk_str _) (VP.mk_str _) (VP.mk_bool _)⟩
 ·cases h
def Hg:List PV->Tr
 | [.s (.str s),.s (.str p)]=>.need (Nat.ble s.length 10000) (.ret (.s (.int .i64 (Lib.index s p))) [])
 | _=>.fail
theorem Rm:C0 Tryz.prog GX 120 Hg:=by
 refine F1 (fn:=Tryz.f120) (by kernel_rfl) (by kernel_rfl) (by kernel_rfl) ?_
 intro args ret Hc h
 unfold Hg at h
 split at h
 ·rename_i s p
  obtain ⟨h0,h⟩:=Ip h
  obtain ⟨rfl,rfl⟩:=R4 h
  refine ⟨rfl,rfl,λC hP hCG Γ w Vs hG hlt hc=>?_⟩
  obtain ⟨U,V,rfl,hu,hv⟩:=hc.arr2
  obtain ⟨s',rfl,rfl⟩:=hu.inv_str
  obtain ⟨p',rfl,rfl⟩:=hv.inv_str
  obtain ⟨m,hm⟩:=Qd hG hCG
  have hs:=Nat.le_of_ble_eq_true h0
  refine (Any.strings_Index Tryz.lays143 s' p' m w (by simp at hs;omega) hm).mono ?_
  rintro e w' ⟨rfl,rfl⟩
  exact ⟨_,rfl,RowKit.Below.refl _ _,VP.mk_int _ _⟩
 ·cases h
def Cz:List PV->Tr
 | [.s (.str s),.s (.int .u8 c)]=>.ret (.s (.int .i64 (Lib.indexByte s (UInt8.ofNat c.toNat)))) []
 | _=>.fail
theorem Oa:C0 Tryz.prog GX 50 Cz:=by
 refine F1 (fn:=Tryz.f50) (by kernel_rfl) (by kernel_rfl) (by kernel_rfl) ?_
 intro args ret Hc h
 unfold Cz at h
 split at h
 ·rename_i s c
  obtain ⟨rfl,rfl⟩:=R4 h
  refine ⟨rfl,rfl,λC hP hCG Γ w Vs hG hlt hc=>?_⟩
  obtain ⟨U,V,rfl,hu,hv⟩:=hc.arr2
  obtain ⟨s',rfl,rfl⟩:=hu.inv_str
  obtain rfl:=hv.inv_int
  refine (Any.strings_IndexByte Tryz.lays137 s' c w).mono ?_
  rintro e w' ⟨rfl,rfl⟩
  exact ⟨_,rfl,RowKit.Below.refl _ _,VP.mk_int _ _⟩
 ·cases h
def He:List PV->Tr
 | [.s (.str s),.s (.str [c])]=>.ret (.s (.int .i64 (List.count c s))) []
 | _=>.fail
theorem Rk:C0 Tryz.prog GX 128 He:=by
 refine F1 (fn:=Tryz.f128) (by kernel_rfl) (by kernel_rfl) (by kernel_rfl) ?_
 intro args ret Hc h
 unfold He at h
 split at h
 ·rename_i s c
  obtain ⟨rfl,rfl⟩:=R4 h
  refine ⟨rfl,rfl,λC hP hCG Γ w Vs hG hlt hc=>?_⟩
  obtain ⟨U,V,rfl,hu,hv⟩:=hc.arr2
  obtain ⟨s',rfl,rfl⟩:=hu.inv_str
  obtain ⟨p',rfl,hp⟩:=hv.inv_str
  have hp':p'=⟨#[c]⟩:=by
   cases p' with
   | mk d=>congr 1;exact Array.toList_inj.1 hp
  subst hp'
  refine (Any.strings_Count_one Tryz.lays138 s' c w).mono ?_
  rintro e w' ⟨rfl,rfl⟩
  exact ⟨_,rfl,RowKit.Below.refl _ _,VP.mk_int _ _⟩
 ·cases h
abbrev gU (sc us:By) (kd:Int) (nm:By) (v4 a0 a1 a2 a3 a4 a5 a6 a7 po:Int) (re:By):PV:=.agg [.s (.str sc),.s (.str us),.s (.int .i64 kd),.s (.str nm),.s (.int .u32 v4),.s (.int .u16 a0),.s (.int .u16 a1),.s (.int .u16 a2),.s (.int .u16 a3),.s (.int .u16 a4),.s (.int .u16 a5),.s (.int .u16 a6),.s (.int .u16 a7),.s (.int .i64 po),.s (.str re)]
theorem Uy {Γ:Ctx} {sh:Nat->Option Shp} {w:World} {V:Value} {sc us:By} {kd:Int} {nm:By} {v4 a0 a1 a2 a3 a4 a5 a6 a7 po:Int} {re:By} (h:VP Γ sh w (gU sc us kd nm v4 a0 a1 a2 a3 a4 a5 a6 a7 po re) V) :
  ∃ sc' us' nm' re':ByteArray,sc=sc'.data.toList/\us=us'.data.toList/\nm=nm'.data.toList/\re=re'.data.toList/\V = .agg (V0 sc' us' kd nm' v4 a0 a1 a2 a3 a4 a5 a6 a7 po re'):=by
 obtain ⟨A,rfl,hA,hc⟩:=h.inv_agg
 have hs:A.size=15:=hA
 obtain ⟨_,e0,q0⟩:=hc 0 (show 0<15 by omega)
 obtain ⟨_,e1,q1⟩:=hc 1 (show 1<15 by omega)
 obtain ⟨_,e2,q2⟩:=hc 2 (show 2<15 by omega)
 obtain ⟨_,e3,q3⟩:=hc 3 (show 3<15 by omega)
 obtain ⟨_,e4,q4⟩:=hc 4 (show 4<15 by omega)
 obtain ⟨_,e5,q5⟩:=hc 5 (show 5<15 by omega)
 obtain ⟨_,e6,q6⟩:=hc 6 (show 6<15 by omega)
 obtain ⟨_,e7,q7⟩:=hc 7 (show 7<15 by omega)
 obtain ⟨_,e8,q8⟩:=hc 8 (show 8<15 by omega)
 obtain ⟨_,e9,q9⟩:=hc 9 (show 9<15 by omega)
 obtain ⟨_,e10,q10⟩:=hc 10 (show 10<15 by omega)
 obtain ⟨_,e11,q11⟩:=hc 11 (show 11<15 by omega)
 obtain ⟨_,e12,q12⟩:=hc 12 (show 12<15 by omega)
 obtain ⟨_,e13,q13⟩:=hc 13 (show 13<15 by omega)
 obtain ⟨_,e14,q14⟩:=hc 14 (show 14<15 by omega)
 obtain ⟨sc',rfl,rfl⟩:=VP.inv_str q0
 obtain ⟨us',rfl,rfl⟩:=VP.inv_str q1
 obtain rfl:=VP.inv_int q2
 obtain ⟨nm',rfl,rfl⟩:=VP.inv_str q3
 obtain rfl:=VP.inv_int q4
 obtain rfl:=VP.inv_int q5
 obtain rfl:=VP.inv_int q6
 obtain rfl:=VP.inv_int q7
 obtain rfl:=VP.inv_int q8
 obtain rfl:=VP.inv_int q9
 obtain rfl:=VP.inv_int q10
 obtain rfl:=VP.inv_int q11
 obtain rfl:=VP.inv_int q12
 obtain rfl:=VP.inv_int q13
 obtain ⟨re',rfl,rfl⟩:=VP.inv_str q14
 refine ⟨sc',us',nm',re',rfl,rfl,rfl,rfl,?_⟩
 congr 1
 apply Array.ext_getElem?
 intro i
 match i with
 | 0=>exact e0
 | 1=>exact e1
 | 2=>exact e2
 | 3=>exact e3
 | 4=>exact e4
 | 5=>exact e5
 | 6=>exact e6
 | 7=>exact e7
 | 8=>exact e8
 | 9=>exact e9
 | 10=>exact e10
 | 11=>exact e11
 | 12=>exact e12
 | 13=>exact e13
 | 14=>exact e14
 | n+15=>rw [Array.getElem?_eq_none (by omega),Array.getElem?_eq_none (by simp)]
theorem Wf {Γ:Ctx} {sh:Nat->Option Shp} {w:World} (sc us:ByteArray) (kd:Int) (nm:ByteArray) (v4 a0 a1 a2 a3 a4 a5 a6 a7 po:Int) (re:ByteArray) :
  VP Γ sh w (gU sc.data.toList us.data.toList kd nm.data.toList v4 a0 a1 a2 a3 a4 a5 a6 a7 po re.data.toList) (.agg (V0 sc us kd nm v4 a0 a1 a2 a3 a4 a5 a6 a7 po re)):=by
 refine VP.mk_agg rfl λj hj=>?_
 match j,hj with
 | 0,_=>exact ⟨_,rfl,VP.mk_str sc.data.toList⟩
 | 1,_=>exact ⟨_,rfl,VP.mk_str us.data.toList⟩
 | 2,_=>exact ⟨_,rfl,VP.mk_int _ _⟩
 | 3,_=>exact ⟨_,rfl,VP.mk_str nm.data.toList⟩
 | 4,_=>exact ⟨_,rfl,VP.mk_int _ _⟩
 | 5,_=>exact ⟨_,rfl,VP.mk_int _ _⟩
 | 6,_=>exact ⟨_,rfl,VP.mk_int _ _⟩
 | 7,_=>exact ⟨_,rfl,VP.mk_int _ _⟩
 | 8,_=>exact ⟨_,rfl,VP.mk_int _ _⟩
 | 9,_=>exact ⟨_,rfl,VP.mk_int _ _⟩
 | 10,_=>exact ⟨_,rfl,VP.mk_int _ _⟩
 | 11,_=>exact ⟨_,rfl,VP.mk_int _ _⟩
 | 12,_=>exact ⟨_,rfl,VP.mk_int _ _⟩
 | 13,_=>exact ⟨_,rfl,VP.mk_int _ _⟩
 | 14,_=>exact ⟨_,rfl,VP.mk_str re.data.toList⟩
 | n+15,h=>exact absurd h (by simp)
theorem Pu {s t:ByteArray} (h:s.data.toList=t.data.toList):s=t:=by
 cases s with
 | mk a=>cases t with
  | mk b=>congr 1;exact Array.toList_inj.1 h
def upR (po:Int):Int:=cond (po==443) (-1) po
def Ld:List PV->Tr
 | [.agg [.s (.str sc),.s (.str us),.s (.int .i64 kd),.s (.str nm),.s (.int .u32 v4),.s (.int .u16 a0),.s (.int .u16 a1),.s (.int .u16 a2),.s (.int .u16 a3),.s (.int .u16 a4),.s (.int .u16 a5),.s (.int .u16 a6),.s (.int .u16 a7),.s (.int .i64 po),.s (.str re)]]=>
  cond (sc==[104,116,116,112]) (.ret (gU [104,116,116,112,115] us kd nm v4 a0 a1 a2 a3 a4 a5 a6 a7 (upR po) re) []) .fail
 | _=>.fail
theorem Vt:C0 Tryz.prog GX 40 Ld:=by
 refine F1 (fn:=Tryz.f40) (by kernel_rfl) (by kernel_rfl) (by kernel_rfl) ?_
 intro args ret Hc h
 unfold Ld at h
 split at h
 ·rename_i sc us kd nm v4 a0 a1 a2 a3 a4 a5 a6 a7 po re
  have h0:(sc==[104,116,116,112])=true:=by
   cases q:(sc==[104,116,116,112]) with
   | true=>rfl
   | false=>rw [q] at h;cases h
  rw [h0] at h
  obtain ⟨rfl,rfl⟩:=R4 h
  refine ⟨rfl,rfl,λC hP hCG Γ w Vs hG hlt hc=>?_⟩
  obtain ⟨U,rfl,hu⟩:=hc.arr1
  obtain ⟨sc',us',nm',re',rfl,rfl,rfl,rfl,rfl⟩:=Uy hu
  obtain rfl:sc'=Aa:=Pu (t:=Aa) (eq_of_beq h0)
  have e:upR po=if po=443 then -1 else po:=by
   unfold upR
   by_cases q:po=443
   ·rw [if_pos q,q];rfl
   ·rw [if_neg q,show (po==443)=false by simpa using q];rfl
  rw [e]
  have W:=Tk Aa U7 us' nm' re' kd v4 a0 a1 a2 a3 a4 a5 a6 a7 po (if po=443 then -1 else po) (λq=>if_pos q) (λq=>if_neg q) (λw=>Ux _ _ _ _ _ _ _ _ _ _ _ _ _ _ _ Ou w) (λw=>(Ve Tryz.underlying115 Tryz.underlying9 w).1) Mg w
  refine W.mono ?_
  rintro e w' ⟨rfl,hB⟩
  exact ⟨_,rfl,hB,Wf U7 us' kd nm' v4 a0 a1 a2 a3 a4 a5 a6 a7 _ re'⟩
 ·cases h
def evX (C:Cfg) (d g:Nat) (args:List PV):Tr:=match evC C d Unit noY g args [] () with
 | some (r,H,_)=>cond (A2 args).isEmpty (.ret r H) .fail
 | none=>.fail
theorem Vp {C:Cfg} (d g:Nat) (hX:XOK C) (hO:N3 C) (hm:C.P.follows .mixedOrders=true):C0 C.P C.G g (evX C d g):=
 O0 hX hO hm λargs ret Hc h=>by
  unfold evX at h
  split at h
  ·rename_i r H s e
   cases hn:(A2 args).isEmpty with
   | false=>rw [hn] at h;cases h
   | true=>
    rw [hn] at h
    obtain ⟨rfl,rfl⟩:=R4 h
    exact ⟨List.isEmpty_iff.1 hn,d,e⟩
  ·cases h
def evS (C:Cfg) (d g:Nat) (args:List PV):Tr:=match evC C d Unit noY g args [] () with
 | some (r,H,_)=>cond ((A2 args).isEmpty&&(r.stab [] H).nms.isEmpty) (.ret (r.stab [] H) []) .fail
 | none=>.fail
theorem Ui {C:Cfg} (d g:Nat) (hX:XOK C) (hO:N3 C) (hm:C.P.follows .mixedOrders=true):C0 C.P C.G g (evS C d g):=
 W8 [] hX hO hm λargs ret Hc h=>by
  unfold evS at h
  split at h
  ·rename_i r H s e
   cases hn:((A2 args).isEmpty&&(r.stab [] H).nms.isEmpty) with
   | false=>rw [hn] at h;cases h
   | true=>
    rw [hn] at h
    obtain ⟨rfl,rfl⟩:=R4 h
    rw [Bool.and_eq_true] at hn
    exact ⟨List.isEmpty_iff.1 hn.1,rfl,List.isEmpty_iff.1 hn.2,d,r,H,e,rfl⟩
  ·cases h
noncomputable def cU:Cfg:=P5 100000 [40,38] (λ_=>none) [(51,evX (P5 100000 [51] (λ_=>none) []) 3 51)]
noncomputable def Pp (a:List PV):Tr:=orT (Ld a) (evX cU 5 40 a)
theorem Uk:C0 Tryz.prog GX 40 Pp:=
 Wv Vt (Vp (C:=cU) 5 _ (E8.ok rfl ⟨Vp (C:=P5 100000 [51] (λ_=>none) []) 3 _ (E8.ok rfl trivial) (K0 rfl (by kernel_rfl)) follows,trivial⟩) (K0 rfl (by kernel_rfl)) follows)
def awF:List Nat:=[17,19,20,21,22,23,24,25,26,27,28,30,31,32,33,34,35,36,37,38,39,41,43,44,45,47,48,51,52,53,54,57,58,59,60,61,62,64,66,67,68,69,78,80,81,83,84,85,86,90,92,93,95,96,106,107,108,109,117,118,126]
noncomputable def cX (Xs:Nat->List PV->Tr):Cfg:=P5 100000 awF (λ_=>none) [(29,Hf),(120,Hg),(50,Cz),(128,He),(40,Pp),
 (20,Xs 20),(21,Xs 21),(39,Xs 39),(105,Xs 105),(129,Xs 129)]
noncomputable def XS:Nat->Nat->List PV->Tr
 | 0,_,_=>.fail
 | k+1,g,a=>evS (cX (XS k)) 20 g a
theorem Wi (Xs:Nat->List PV->Tr):N3 (cX Xs):=K0 rfl (by kernel_rfl)
theorem Pk:∀ k g,C0 Tryz.prog GX g (XS k g)
 | 0,g=>λargs ret Hc h=>by cases h
 | k+1,g=>Ui (C:=cX (XS k)) 20 g (E8.ok rfl ⟨Rl,Rm,Oa,Rk,Uk,Pk k _,Pk k _,Pk k _,Pk k _,Pk k _,trivial⟩) (Wi _) follows
def Ur:SV->SV->Bool
 | .bool a,.bool b=>a==b
 | .int k a,.int l b=>decide (k=l)&&a==b
 | .str a,.str b=>a==b
 | _,_=>false
theorem Lr {a b:SV} (h:Ur a b=true):a=b:=by
 cases a<;>cases b<;>first | (cases h;done) | skip
 ·rw [eq_of_beq (show (_==_)=true from h)]
 ·simp only [Ur,Bool.and_eq_true,decide_eq_true_eq] at h
  rw [h.1,eq_of_beq h.2]
 ·rw [eq_of_beq (show (_==_)=true from h)]
def Qb:List PV->List PV->Bool
 | [],[]=>true
 | .s a::x,.s b::y=>Ur a b&&Qb x y
 | _,_=>false
theorem Dv:∀ {a b:List PV},Qb a b=true->a=b
 | [],b,h=>by
  cases b with
  | nil=>rfl
  | cons c r=>cases h
 | p::x,b,h=>by
  cases b with
  | nil=>cases p<;>cases h
  | cons q y=>
   cases p with
   | s u=>
    cases q with
    | s v=>
     simp only [Qb,Bool.and_eq_true] at h
     rw [Lr h.1,Dv h.2]
    | _=>cases h
   | _=>cases h
def Ti:List (List PV × PV)->List PV->Tr
 | [],_=>.fail
 | (a,r)::t,b=>cond (Qb a b) (.ret r []) (Ti t b)
theorem Uj {P:Program} {G:GT} {g:Nat} {p:List PV->Tr} (hp:C0 P G g p):∀ (l:List (List PV × PV)),(∀ e∈l,C3 (p e.1)=some (e.2,[]))->C0 P G g (Ti l)
 | [],_=>λargs ret Hc h=>by cases h
 | (a,r)::t,h=>λargs ret Hc hr=>by
  unfold Ti at hr
  cases e:Qb a args with
  | true=>
   rw [e] at hr
   obtain rfl:=Dv e
   have:=(h (a,r) (by simp)).symm
   exact hp _ ret Hc ((h (a,r) (by simp)).trans hr)
  | false=>
   rw [e] at hr
   exact Uj hp t (λe he=>h e (by simp [he])) args ret Hc hr
theorem Vg:C3 (XS 2 22 [.s (.str [104,116,116,112,115,58,47,47,97,47])])=some (.tup [gU [104,116,116,112,115] [] 1 [97] 0 0 0 0 0 0 0 0 0 (-1) [47],.s (.int .i64 0)],[]):=by kernel_rfl
theorem Vh:C3 (XS 2 22 [.s (.str [104,116,116,112,58,47,47,98,47])])=some (.tup [gU [104,116,116,112] [] 1 [98] 0 0 0 0 0 0 0 0 0 (-1) [47],.s (.int .i64 0)],[]):=by kernel_rfl
theorem Vi:C3 (XS 2 22 [.s (.str [104,116,116,112,115,58,47,47,98,47])])=some (.tup [gU [104,116,116,112,115] [] 1 [98] 0 0 0 0 0 0 0 0 0 (-1) [47],.s (.int .i64 0)],[]):=by kernel_rfl
def Ni:List PV->Tr:=Ti [([.s (.str [104,116,116,112,115,58,47,47,97,47])],.tup [gU [104,116,116,112,115] [] 1 [97] 0 0 0 0 0 0 0 0 0 (-1) [47],.s (.int .i64 0)]),([.s (.str [104,116,116,112,58,47,47,98,47])],.tup [gU [104,116,116,112] [] 1 [98] 0 0 0 0 0 0 0 0 0 (-1) [47],.s (.int .i64 0)]),([.s (.str [104,116,116,112,115,58,47,47,98,47])],.tup [gU [104,116,116,112,115] [] 1 [98] 0 0 0 0 0 0 0 0 0 (-1) [47],.s (.int .i64 0)])]
theorem Tx:C0 Tryz.prog GX 22 Ni:=Uj (Pk 2 _) _ λe he=>by
 simp only [List.mem_cons,List.mem_nil_iff,or_false] at he
 rcases he with rfl | rfl | rfl
 ·exact Vg
 ·exact Vh
 ·exact Vi
noncomputable def cY (Xs:Nat->List PV->Tr):Cfg:=P5 100000 awF (λ_=>none) [(22,Ni),(29,Hf),(120,Hg),(50,Cz),(128,He),(40,Pp),
 (20,Xs 20),(21,Xs 21),(39,Xs 39),(105,Xs 105),(129,Xs 129)]
noncomputable def YS:Nat->Nat->List PV->Tr
 | 0,_,_=>.fail
 | k+1,g,a=>evS (cY (YS k)) 20 g a
theorem Wj (Xs:Nat->List PV->Tr):N3 (cY Xs):=K0 rfl (by kernel_rfl)
theorem Pl:∀ k g,C0 Tryz.prog GX g (YS k g)
 | 0,g=>λargs ret Hc h=>by cases h
 | k+1,g=>Ui (C:=cY (YS k)) 20 g (E8.ok rfl ⟨Tx,Rl,Rm,Oa,Rk,Uk,Pl k _,Pl k _,Pl k _,Pl k _,Pl k _,trivial⟩) (Wj _) follows
noncomputable def cF:Cfg:=P5 100000 [7,15,18,16] (λ_=>none) [(17,YS 4 17)] (rw:=[(7,1000)])
noncomputable def Iy:List PV->Tr:=evX cF 20 7
theorem Ri:C0 Tryz.prog GX 7 Iy:=
 Vp (C:=cF) 20 _ (E8.ok rfl ⟨Pl 4 _,trivial⟩) (K0 rfl (by kernel_rfl)) follows
noncomputable def Ft:Cfg:=P5 100000 [6,11] (λ_=>none) [(7,Iy)]
theorem Jb:Dd (evC Ft 5 Unit noY 6 [] [] ())=true:=by kernel_rfl
theorem Pm:C0 Tryz.prog GX 6 An:=
 C0.fix (pf:=X1) _ (by
  have h:=Nf (C₀:=Ft) (E8.ok rfl ⟨Ri,trivial⟩) (K0 rfl (by kernel_rfl)) follows Jb
  have e:(λargs:List PV=>match args with | []=>Tr.ret (.s (.bool true)) [] | _=>.fail)=X1:=by
   funext args
   cases args<;>rfl
  rw [<-e]
  exact h)
end
section
open Go Go.ChangeAt Go.ChangeShapes Go.Proofs Go.RowKit Go.WideShapes
set_option maxRecDepth 100000
section
theorem Lx (os:Os) (started:os.Started) (H:Type) (enc:TypeId × Value->H) :
  ReturnsInHanded {} Tryz.checked os 4 .any (λw args=>(Rows.redirectsHopsMatchSpecSpec.pre enc Tryz.prog Tryz.f4 Rows.redirectsHopsMatchSpecRow.domain false w args/\laidMetH Tryz.prog K3 w)/\sizedMet enc Tryz.prog Tryz.f4 (OpenSpec.ofChange Rows.redirectsHopsMatchSpecSpec) false w args) (Rows.redirectsHopsMatchSpecSpec.post enc Tryz.prog Tryz.f4 false true false false):=
 Lu started (C:=Cb LF) (tb:=4) rfl rfl (E8.ok (l:=[(6,An),(10,Df),(11,Lb),(12,Hb),(13,Lc),(14,Hd)]) rfl ⟨Pm,Rj,Vq,Tv,Vr,Tw,trivial⟩) (K0 rfl (by kernel_rfl)) (by kernel_rfl) Tryz.func4 (c:=Q4 Tryz.f4) rfl (by kernel_rfl)
  (by
   intro t ht
   obtain rfl:t=29:=by simpa using (show t∈[29] from ht)
   exact ⟨⟨by kernel_rfl,of_decide_eq_true (by kernel_rfl)⟩,by kernel_rfl⟩) rfl (by kernel_rfl) rfl
  (λds hds=>by
   match ds,hds with
   | [d0],_=>rfl)
  #[(.slice none 0 0)] 8 (by kernel_rfl) (by kernel_rfl) (by kernel_rfl)
  (λargs h=>Sm args h)
theorem On:Rows.RedirectsHopsMatchSpecSaid:=
 OpenClaim.holds_of_wide 4 Tryz.f4 rfl rfl rfl rfl rfl rfl rfl ⟨rfl,rfl,rfl,rfl,rfl⟩ rfl rfl rfl rfl rfl (by kernel_rfl) Tryz.func4 (by kernel_rfl)
  (of_decide_eq_true (by kernel_rfl)) (by unfold Func.isWrapper;first | (rw [if_pos (by decide +kernel)];kernel_rfl) | (rw [if_neg (by decide +kernel)];exact ⟨rfl,rfl⟩))
  (λos started H enc _=>Lx os started H enc)
theorem lrh_card:Rows.RedirectsHopsMatchSpecCardSaid:=
 Claim7.holds_tied_plain_at .later [] [.data,.data,.data,.data,.pinned] true (true, "d3f065b4b5af7099399e296a2d819660f01464b8d9e5f234cd099b17c1d8a9c0") false On (λ_ h=>by cases h) (by kernel_rfl) (λ_ h=>by cases h) redirectsHopsMatchSpec_row_tie rfl ⟨rfl,rfl⟩ (by kernel_rfl) rfl
  (λf fn hf hfn=>by
   obtain rfl:f=4:=Option.some.inj ((show Tryz.prog.funcNamed "hstsstore/hstsstorelaw30.RedirectsHopsMatchSpec" = some 4 by kernel_rfl).symm.trans hf) |>.symm
   obtain rfl:fn=Tryz.f4:=(Option.some.inj (Tryz.func4.symm.trans hfn)).symm
   exact ⟨by kernel_rfl,λj t ht=>by
    have hm:t∈[29]:=Array.mem_toList_iff.2 (Array.mem_of_getElem? ht)
    have hall:([29].all λu=>!Tryz.prog.wantsStandIn u)=true:=by kernel_rfl
    exact (show Tryz.prog.wantsStandIn t=false by simpa using List.all_eq_true.1 hall t hm)⟩)
  (by kernel_rfl)
end
end
#print axioms lrh_card
end Go.Proofs.YtdallkhojokceaaGreatDoor.E
