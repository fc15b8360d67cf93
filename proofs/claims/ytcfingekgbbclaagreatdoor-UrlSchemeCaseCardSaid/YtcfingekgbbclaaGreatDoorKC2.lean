/-
  Parts of the proof, merged by a program of the prover's own; no condition.
-/
import Derived.Test.YtcfingekgbbclaaGreatDoorKC1
import Derived.JoinedCond
import Derived.OpenShut
import Derived.ProofKit
import Derived.RangeFuncLeaves
import Derived.RangeFuncRecord
import Derived.Sort.QuietThIn
import Derived.TacticsIn
import Derived.WalkKit
namespace Go.Proofs.YtcfingekgbbclaaGreatDoor.E
open Go
set_option linter.unusedVariables false
def callOp:Op→Bool
 | .call c=>match c.callee with
  | .builtin _=>false
  | _=>true
 | _=>false
section
variable {σ R : Type} {r : R} {C : Cfg} {I : σ → (Nat → Prop) → (Nat → Prop) → World → Prop} {Γ : Ctx} {Φ : Nat → Prop} {st : St σ} {a : Act} {w : World} {cl : CallT} {yh : Yh σ} {o : Oper} {k : St σ → Option R}
def LOut (C:Cfg) (I:σ→(Nat→Prop)→(Nat→Prop)→World→Prop) (Γ:Ctx) (Φ:Nat→Prop) (st:St σ) (a:Act) (w:World) (o:Oper) (k:St σ→Option R) (r:R):Prop:=
 ∃ V w' Γ' st',k st'=some r∧((execOp a.eval o).run C.P w = .ok (.value V) w'∨(V=undef∧(execOp a.eval o).run C.P w = .ok .skip w'))∧SI C I Γ' Φ st' (a.put o.dst V).tmps w'∧Stp C Γ st.hp w Φ Γ' st'.hp w' Φ
theorem Stp.lift {Γ':Ctx} {H H':List Blk} {w':World} (h:Stp C Γ H w noΦ Γ' H' w' noΦ) (Φ:Nat→Prop):Stp C Γ H w Φ Γ' H' w' Φ:=
 ⟨h.os,h.tape,h.output,h.size,h.sub,h.stnew,h.own,fun _ h=>.inl h,fun g hg hn _=>h.frame g hg hn (fun x=>x),h.yv,h.len,h.keep⟩
theorem QOut.loud (h:QOut C I Γ Φ st a w o k r):LOut C I Γ Φ st a w o k r:=by
 obtain ⟨V,st',h1,h2,h3,h4⟩:=h
 exact ⟨V,w,Γ,st',h1,.inl (h2 w (Ext.refl w)),h3,h4.lift Φ⟩
theorem SI.after (hI:HI I) (S:SI C I Γ Φ st a.tmps w) {w':World} {Γ':Ctx} {H':List Blk} {sl':List PV} {v:PV} {V:Value} (h:Stp C Γ st.hp w noΦ Γ' H' w' noΦ) (hr:HR Γ' H' w') (hs:SR Γ st.hp w st.sl a.tmps→SR Γ' H' w' sl' a.tmps) (hv:VP Γ' (shpOf H') w' v V) (hn:∀ c∈v.nms,c<H'.length) :
  SI C I Γ' Φ { sl:=putS o.dst v sl',hp:=H',s:=st.s } (a.put o.dst V).tmps w':=
 S.step hI (h.lift Φ) (fun g hg=>h.frame g (hI.foot _ _ _ _ S.inv g hg).1 (fun b hb=>S.dis b g hb hg) (fun x=>x)) hr ((hs S.sr).put (ds:=a.defers) o hv hn)
theorem WV.out {m:Sem Value} {v:PV} {sl':List PV} {H':List Blk} (hI:HI I) (S:SI C I Γ Φ st a.tmps w) (h:WV C Γ st.hp w st.sl a.tmps m v sl' H') (hk:k { sl:=putS o.dst v sl',hp:=H',s:=st.s } = some r) (he:execOp a.eval o=(do pure (.value (←m)))):LOut C I Γ Φ st a w o k r:=by
 obtain ⟨V,w',Γ',h1,h2,h3,h4,h5,h6⟩:=h
 refine ⟨V,w',Γ',_,hk,.inl ?_,S.after hI h2 h3 h4 h5 h6,h2.lift Φ⟩
 rw [he]
 simp [h1]
theorem WV.outU {m:Sem Unit} {v:PV} {sl':List PV} {H':List Blk} (hI:HI I) (S:SI C I Γ Φ st a.tmps w) (h:WV C Γ st.hp w st.sl a.tmps (do m;pure undef) v sl' H') (hk:k { sl:=putS o.dst v sl',hp:=H',s:=st.s } = some r) (he:execOp a.eval o=(do m;pure .skip)):LOut C I Γ Φ st a w o k r:=by
 obtain ⟨V,w',Γ',h1,h2,h3,h4,h5,h6⟩:=h
 have key:V=undef∧m.run C.P w = .ok () w':=by
  simp only [Sem.run_bind] at h1
  cases hm:m.run C.P w with
  | ok u w1=>rw [hm] at h1;simp at h1;exact ⟨h1.1.symm,by rw [h1.2]⟩
  | halt x w1=>rw [hm] at h1;simp [Result.andThen] at h1
 refine ⟨V,w',Γ',_,hk,.inr ⟨key.1,?_⟩,S.after hI h2 h3 h4 h5 h6,h2.lift Φ⟩
 rw [he]
 simp [key.2]
theorem opK_loud (hI:HI I) (hq:callOp o.op=false) (h:opK C cl yh o st k=some r) (S:SI C I Γ Φ st a.tmps w):LOut C I Γ Φ st a w o k r:=by
 by_cases hqq:quietOp C o.op=true
 ·exact (opK_quiet hqq h S).loud
 have h0:=h
 unfold opK at h
 dsimp only at h
 split at h
 ·rename_i hop;exact absurd (by rw [hop];rfl) hqq
 ·rename_i hop;exact absurd (by rw [hop];rfl) hqq
 ·rename_i hop;exact absurd (by rw [hop];rfl) hqq
 ·rename_i e hop
  by_cases hok:(C.ti e).ok=true
  ·obtain ⟨i,z,hi,hz,hsz,hCR⟩:=zero_CR (Γ:=Γ) (sh:=shpOf st.hp) (w:=w) hok
   obtain ⟨v,H',hk,hv⟩:=boxK_sound (V:=z) (sl:=st.sl) (tmps:=a.tmps) (m:=Instr.alloc e true (.tuple #[])) S.hr h hCR (by rw [zero_nms];simp) (by simp [Instr.alloc,zeroValue,typeInfo,hi,hz,newVar,newRow])
   exact hv.out hI S hk (by simp only [execOp,hop])
  ·simp [boxK,hok] at h
 ·rename_i e x hop
  split at h
  ·rename_i hlen
   by_cases hok:(C.ti e).ok=true
   ·obtain ⟨i,hi,hsz,hpos⟩:=ok_size hok
    have hne:(opnd C st.sl x).cells≠[]:=by intro e;rw [e] at hlen;simp at hlen;omega
    obtain ⟨v,H',hk,hv⟩:=boxK_sound (V:=a.eval x) (sl:=st.sl) (tmps:=a.tmps) (m:=Instr.box e (a.eval x)) S.hr h ((S.opnd x).1.cells' hne) (fun c hc=>(S.opnd x).2 c (PV.cells_nms c hc)) (by simp [Instr.box,newVar,newRow])
    exact hv.out hI S hk (by simp only [execOp,hop])
   ·simp [boxK,hok] at h
  ·cases h
 ·rename_i hop;exact absurd (by rw [hop];rfl) hqq
 ·rename_i t len parts hop
  obtain ⟨h1,h2⟩:=S.parts parts.toList
  obtain ⟨v,H',hk,hv,_⟩:=buildSliceK_sound (ps:=parts.map fun (i,x)=>(i,a.eval x)) (sl:=st.sl) (tmps:=a.tmps) S.hr h (by rw [Array.toList_map];exact h1)
  exact hv.out hI S hk (by simp only [execOp,hop])
 ·rename_i hop;exact absurd (by rw [hop];rfl) hqq
 ·rename_i t x y hop
  obtain ⟨H',hk,hv⟩:=storeK_sound (sl:=st.sl) (tmps:=a.tmps) S.hr h (S.opnd x).1 (S.opnd y).1 (S.opnd y).2
  exact hv.outU hI S hk (by simp only [execOp,hop])
 ·rename_i hop;exact absurd (by rw [hop];rfl) hqq
 ·rename_i hop;exact absurd (by rw [hop];rfl) hqq
 ·rename_i hop;exact absurd (by rw [hop];rfl) hqq
 ·rename_i src dst x hop
  split at h
  ·obtain ⟨v,hk,hv⟩:=bytesK_sound (sl:=st.sl) (tmps:=a.tmps) S.hr h (S.opnd x).1
   exact hv.out hI S hk (by simp only [execOp,hop])
  ·rename_i hne
   refine absurd ?_ hqq
   rw [hop]
   simp only [quietOp]
   done
 ·rename_i hop;exact absurd (by rw [hop];rfl) hqq
 ·rename_i t l c hop
  obtain ⟨v,H',hk,hv⟩:=makeSliceK_sound (sl:=st.sl) (tmps:=a.tmps) S.hr h (S.opnd l).1 (S.opnd c).1
  exact hv.out hI S hk (by simp only [execOp,hop])
 ·rename_i hop;exact absurd (by rw [hop];rfl) hqq
 ·rename_i hop;exact absurd (by rw [hop];rfl) hqq
 ·rename_i hop;exact absurd (by rw [hop];rfl) hqq
 ·rename_i hop;exact absurd (by rw [hop];rfl) hqq
 ·rename_i hop;exact absurd (by rw [hop];rfl) hqq
 ·rename_i t x hop
  split at h
  ·rename_i l hx
   split at h
   ·rename_i hsh
    have hv:=(S.opnd x).1
    rw [hx] at hv
    obtain ⟨s,e,rfl⟩:=hv.inv_str
    have:=range_WV (C:=C) (s:=s) (sl:=st.sl) (tmps:=a.tmps) S.hr (sh_str hsh)
    exact this.out hI S h (by simp only [execOp,hop,e])
   ·cases h
  ·cases h
 ·rename_i it hop
  split at h
  ·rename_i b hx
   have hv:=(S.opnd it).1
   rw [hx] at hv
   split at h
   ·rename_i l p hb
    by_cases hp:p<l.length
    ·simp only [hp,decide_true,splitB,cond_true] at h
     have:=next_WV (C:=C) (ty:=o.type) (sl:=st.sl) (tmps:=a.tmps) S.hr hv hb hp
     exact this.out hI S h (by simp only [execOp,hop])
    ·simp only [hp,decide_false,splitB,cond_false] at h
     have:=next_end_QV (C:=C) (ty:=o.type) S.hr hv hb hp
     exact (this.out S h (by simp only [execOp,hop])).loud
   ·cases h
  ·cases h
 ·rename_i hop;exact absurd (by rw [hop];rfl) hqq
 ·rename_i c hop
  split at h
  ·rename_i b hcb
   unfold builtinK at h
   dsimp only at h
   split at h
   ·exact absurd (by rw [hop];simp [quietOp,hcb]) hqq
   ·rename_i t u s x hts hargs
    obtain ⟨s0,x0,hx0,rfl,rfl⟩:=args2 hargs
    have hts':c.argTypes=[t,u].toArray:=by rw [←hts]
    split at h
    ·rename_i hu
     obtain ⟨v,sl',H',hk,hv⟩:=appendK_sound (ty:=o.type) (tmps:=a.tmps) S.hr hu h (S.opnd s0).1 (S.opnd x0).1
     refine hv.out hI S hk ?_
     obtain ⟨cs,he⟩:=exec_builtin (ρ:=a.eval) hop hcb
     rw [he,hx0,hts']
     simp [builtin]
    ·cases h
   ·rename_i t u d x hts hargs
    obtain ⟨s0,x0,hx0,rfl,rfl⟩:=args2 hargs
    have hts':c.argTypes=[t,u].toArray:=by rw [←hts]
    obtain ⟨v,H',hk,hv⟩:=copyK_sound (u:=u) (ty:=o.type) (sl:=st.sl) (tmps:=a.tmps) S.hr h (S.opnd s0).1 (S.opnd x0).1
    refine hv.out hI S hk ?_
    obtain ⟨cs,he⟩:=exec_builtin (ρ:=a.eval) hop hcb
    rw [he,hx0,hts']
    simp [builtin]
   ·exact absurd (by rw [hop];simp [quietOp,hcb]) hqq
   ·exact absurd (by rw [hop];simp [quietOp,hcb]) hqq
   ·cases h
  ·rename_i hcb;rw [hop] at hq;simp [callOp,hcb] at hq
  ·cases h
 ·cases h
end
end Go.Proofs.YtcfingekgbbclaaGreatDoor.E
namespace Go.Proofs.YtcfingekgbbclaaGreatDoor.E
open Go
set_option linter.unusedVariables false
theorem rnL_eq (f:Nat→Nat) (l:List PV):rnL f l=l.map (PV.rn f):=by
 induction l with
 | nil=>rfl
 | cons v r ih=>simp [rnL,ih]
theorem snapL_eq (H:List Blk) (l:List PV):snapL H l=l.map (PV.snap H):=by
 induction l with
 | nil=>rfl
 | cons v r ih=>simp [snapL,ih]
theorem cleanL_mem {l:List PV} (h:cleanL l=true):∀ v∈l,v.clean=true:=by
 induction l with
 | nil=>simp
 | cons a l ih=>
  simp only [cleanL,Bool.and_eq_true] at h
  intro v hv
  rcases List.mem_cons.1 hv with rfl | hv
  ·exact h.1
  ·exact ih h.2 v hv
mutual
theorem PV.rn_nms (f:Nat→Nat):∀ v:PV,(v.rn f).nms=v.nms.map f
 | .s _=>rfl
 | .nsl=>rfl
 | .fl b=>rfl
 | .vw b _ _=>rfl
 | .ptr b _ _=>rfl
 | .fnr _ x y=>by simp only [PV.rn,PV.nms,List.map_append,nmsL_rn f x,nmsL_rn f y]
 | .it b=>rfl
 | .yd=>rfl
 | .agg l=>by simp only [PV.rn,PV.nms,nmsL_rn f l]
 | .tup l=>by simp only [PV.rn,PV.nms,nmsL_rn f l]
 | .bad=>rfl
theorem nmsL_rn (f:Nat→Nat):∀ l:List PV,nmsL (rnL f l)=(nmsL l).map f
 | []=>rfl
 | v::r=>by simp only [rnL,nmsL,List.map_append,PV.rn_nms f v,nmsL_rn f r]
end
theorem Blk.rn_nms (f:Nat→Nat) (x:Blk):(x.rn f).nms=x.nms.map f:=by
 cases x<;>simp [Blk.rn,Blk.nms,nmsL_rn]
theorem Blk.rn_shp (f:Nat→Nat) (x:Blk):(x.rn f).shp=x.shp:=by cases x<;>rfl
theorem VS.clean {St St':Nat→Prop} {w w':World} {v:SV} {V:Value} (h:VS St w v V) (hc:v.plain=true):VS St' w' v V:=by
 cases h with
 | bool=>exact .bool _
 | int=>exact .int _ _
 | str=>exact .str _
 | nilp=>exact .nilp
 | nilm=>exact .nilm
 | nilf=>exact .nilf
 | nil=>simp [SV.plain] at hc
 | emp=>simp [SV.plain] at hc
 | sl=>simp [SV.plain] at hc
 | sp=>simp [SV.plain] at hc
 | fn=>simp [SV.plain] at hc
theorem VP.rn {f:Nat→Nat} {Γ Γ':Ctx} {sh sh':Nat→Option Shp} {w:World} (hyv:Γ'.yv = Γ.yv) {v:PV} {V:Value} (h:VP Γ sh w v V) :
  (v.clean=true∨∀ g,Γ.St g→Γ'.St g)→(∀ b∈v.nms,Γ'.nm (f b) = Γ.nm b∧sh' (f b)=sh b)→VP Γ' sh' w (v.rn f) V:=by
 induction h with
 | s v V h=>
  intro hc _
  rcases hc with hc | hc
  ·refine .s _ _ (h.clean ?_)
   cases v<;>simp_all [PV.clean,SV.plain]
  ·exact .s _ _ (h.mono (fun _ _=>rfl) hc)
 | nsl=>intro _ _;exact .nsl
 | flv b e sz h=>intro _ hn;exact .flv _ e sz (by rw [(hn b (by simp [PV.nms])).2];exact h)
 | fl b g v e sz n cap h hv hg hcap hm hs=>
  intro _ hn
  have o:=hn b (by simp [PV.nms])
  exact .fl _ g v e sz n cap (by rw [o.2];exact h) hv (by rw [o.1];exact hg) hcap hm hs
 | vwv b e sz i h=>intro _ hn;exact .vwv _ e sz i (by rw [(hn b (by simp [PV.nms])).2];exact h)
 | vw b i n g a cap v e sz m h hv hg ha hi hcap hm=>
  intro _ hn
  have o:=hn b (by simp [PV.nms])
  exact .vw _ i n g a cap v e sz m (by rw [o.2];exact h) hv (by rw [o.1];exact hg) ha hi hcap hm
 | ptrA b i off g v e sz n h hg=>
  intro _ hn
  have o:=hn b (by simp [PV.nms])
  exact .ptrA _ i off g v e sz n (by rw [o.2];exact h) (by rw [o.1];exact hg)
 | ptrB b off g h hg=>
  intro _ hn
  have o:=hn b (by simp [PV.nms])
  exact .ptrB _ off g (by rw [o.2];exact h) (by rw [o.1];exact hg)
 | fnr g x y A B As Bs hf hA hB ha hb hx hy ihx ihy=>
  intro hc hn
  simp only [PV.rn,rnL_eq]
  refine .fnr g _ _ A B As Bs hf (by simpa using hA) (by simpa using hB) (fun j h=>ha j (by simpa using h)) (fun j h=>hb j (by simpa using h)) (fun j h=>?_) (fun j h=>?_)
  ·have hj:j<x.length:=by simpa using h
   rw [List.getElem_map]
   refine ihx j hj (hc.imp (fun e=>?_) id) (fun b hb=>hn b (by simp only [PV.nms,List.mem_append];exact .inl (mem_nmsL.2 ⟨j,hj,hb⟩)))
   simp only [PV.clean,Bool.and_eq_true] at e
   exact cleanL_mem e.1 _ (List.getElem_mem hj)
  ·have hj:j<y.length:=by simpa using h
   rw [List.getElem_map]
   refine ihy j hj (hc.imp (fun e=>?_) id) (fun b hb=>hn b (by simp only [PV.nms,List.mem_append];exact .inr (mem_nmsL.2 ⟨j,hj,hb⟩)))
   simp only [PV.clean,Bool.and_eq_true] at e
   exact cleanL_mem e.2 _ (List.getElem_mem hj)
 | it b g h hg=>
  intro _ hn
  have o:=hn b (by simp [PV.nms])
  exact .it _ g (by rw [o.2];exact h) (by rw [o.1];exact hg)
 | yd=>intro _ _;rw [←hyv];exact .yd
 | agg l A As hA ha hl ih=>
  intro hc hn
  simp only [PV.rn,rnL_eq]
  refine .agg _ A As (by simpa using hA) (fun j h=>ha j (by simpa using h)) (fun j h=>?_)
  have hj:j<l.length:=by simpa using h
  rw [List.getElem_map]
  refine ih j hj (hc.imp (fun e=>?_) id) (fun b hb=>hn b (by simp only [PV.nms];exact mem_nmsL.2 ⟨j,hj,hb⟩))
  simp only [PV.clean] at e
  exact cleanL_mem e _ (List.getElem_mem hj)
 | tup l A As hA ha hl ih=>
  intro hc hn
  simp only [PV.rn,rnL_eq]
  refine .tup _ A As (by simpa using hA) (fun j h=>ha j (by simpa using h)) (fun j h=>?_)
  have hj:j<l.length:=by simpa using h
  rw [List.getElem_map]
  refine ih j hj (hc.imp (fun e=>?_) id) (fun b hb=>hn b (by simp only [PV.nms];exact mem_nmsL.2 ⟨j,hj,hb⟩))
  simp only [PV.clean] at e
  exact cleanL_mem e _ (List.getElem_mem hj)
 | bad V=>intro _ _;exact .bad V
theorem BR.rn {f:Nat→Nat} {Γ Γ':Ctx} {sh sh':Nat→Option Shp} {w:World} (hyv:Γ'.yv = Γ.yv) {b b':Nat} {x:Blk} (h:BR Γ sh w b x) (hc:x.clean=true∨∀ g,Γ.St g→Γ'.St g) (hb:Γ'.nm b' = Γ.nm b)
  (hn:∀ c∈x.nms,Γ'.nm (f c) = Γ.nm c∧sh' (f c)=sh c):BR Γ' sh' w b' (x.rn f):=by
 cases x with
 | arr v e sz els=>
  rcases h with h | ⟨hn,g,cur,h1,h2,h3,h4,h5⟩
  ·exact .inl h
  ·refine .inr ⟨hn,g,cur,by rw [hb];exact h1,h2,h3,h4,fun i hi j hj=>?_⟩
   obtain ⟨V,e1,e2⟩:=h5 i hi j hj
   refine ⟨V,e1,?_⟩
   rcases hc with hc | hc
   ·simp only [Blk.clean,List.all_eq_true] at hc
    exact e2.clean (hc _ (List.getElem_mem hi) _ (List.getElem_mem hj))
   ·exact e2.mono (fun _ _=>rfl) hc
 | box cells=>
  obtain ⟨g,cur,e,h1,h2,h3,h4⟩:=h
  simp only [Blk.rn,rnL_eq]
  refine ⟨g,cur,e,by rw [hb];exact h1,h2,by simpa using h3,fun j hj=>?_⟩
  have hj':j<cells.length:=by simpa using hj
  obtain ⟨V,e1,e2⟩:=h4 j hj'
  rw [List.getElem_map]
  refine ⟨V,e1,e2.rn hyv (hc.imp (fun e=>?_) id) (fun c hc=>hn c (by simp only [Blk.nms];exact mem_nmsL.2 ⟨j,hj',hc⟩))⟩
  simp only [Blk.clean] at e
  exact cleanL_mem e _ (List.getElem_mem hj')
 | iter s p=>
  obtain ⟨g,s',h1,h2,h3⟩:=h
  exact ⟨g,s',by rw [hb];exact h1,h2,h3⟩
 | dead=>trivial
theorem mem_addNew {l:List Nat} {b c:Nat}:c∈addNew l b↔c∈l∨c=b:=by
 unfold addNew
 split
 ·rename_i h
  have hb:b∈l:=by simpa using h
  exact ⟨.inl,fun h=>h.elim id (fun e=>e ▸ hb)⟩
 ·simp
theorem mem_addAll:∀ (xs acc:List Nat) (c:Nat),c∈xs.foldl addNew acc↔c∈acc∨c∈xs
 | [],acc,c=>by simp
 | x::xs,acc,c=>by rw [List.foldl_cons,mem_addAll xs,mem_addNew,List.mem_cons,or_assoc]
theorem addNew_nodup {l:List Nat} {b:Nat} (h:l.Nodup):(addNew l b).Nodup:=by
 unfold addNew
 split
 ·exact h
 ·rename_i hb
  rw [List.nodup_append]
  refine ⟨h,by simp,fun x hx y hy e=>?_⟩
  simp at hy
  subst hy
  subst e
  simp at hb
  exact hb hx
theorem addAll_nodup:∀ (xs acc:List Nat),acc.Nodup→(xs.foldl addNew acc).Nodup
 | [],acc,h=>h
 | x::xs,acc,h=>by rw [List.foldl_cons];exact addAll_nodup xs _ (addNew_nodup h)
theorem step_nodup (H:List Blk):∀ (l acc:List Nat),acc.Nodup→(l.foldl (fun acc b=>((H.getD b .dead).nms).foldl addNew acc) acc).Nodup
 | [],acc,h=>h
 | x::l,acc,h=>by rw [List.foldl_cons];exact step_nodup H l _ (addAll_nodup _ _ h)
theorem step_sub (H:List Blk):∀ (l acc:List Nat) c,c∈acc→c∈l.foldl (fun acc b=>((H.getD b .dead).nms).foldl addNew acc) acc
 | [],acc,c,h=>h
 | x::l,acc,c,h=>by rw [List.foldl_cons];exact step_sub H l _ c ((mem_addAll _ _ _).2 (.inl h))
theorem step_all (H:List Blk) (p:Nat→Prop) (hp:∀ b,p b→∀ c∈(H.getD b .dead).nms,p c):∀ (l acc:List Nat),(∀ c∈acc,p c)→(∀ c∈l,p c)→∀ c∈l.foldl (fun acc b=>((H.getD b .dead).nms).foldl addNew acc) acc,p c
 | [],acc,h,_=>h
 | x::l,acc,h,hl=>by
  rw [List.foldl_cons]
  refine step_all H p hp l _ (fun c hc=>?_) (fun c hc=>hl c (by simp [hc]))
  rcases (mem_addAll _ _ _).1 hc with hc | hc
  ·exact h c hc
  ·exact hp x (hl x (by simp)) c hc
theorem reach_nodup (H:List Blk) (l:List Nat):(reach H l).Nodup:=
 step_nodup H _ _ (step_nodup H _ _ (step_nodup H _ _ (addAll_nodup _ _ List.nodup_nil)))
theorem reach_sub (H:List Blk) (l:List Nat):∀ c∈l,c∈reach H l:=fun c hc=>
 step_sub H _ _ c (step_sub H _ _ c (step_sub H _ _ c ((mem_addAll _ _ _).2 (.inr hc))))
theorem reach_all (H:List Blk) (l:List Nat) (p:Nat→Prop) (hp:∀ b,p b→∀ c∈(H.getD b .dead).nms,p c) (hl:∀ c∈l,p c):∀ c∈reach H l,p c:=by
 have h0:∀ c∈l.foldl addNew [],p c:=fun c hc=>by
  rcases (mem_addAll _ _ _).1 hc with h | h
  ·simp at h
  ·exact hl c h
 have step:∀ m,(∀ c∈m,p c)→∀ c∈reach1 H m,p c:=fun m hm=>step_all H p hp m m hm hm
 exact step _ (step _ (step _ h0))
theorem closedIn_spec {H:List Blk} {ns:List Nat} (h:closedIn H ns=true):∀ b∈ns,∀ c∈(H.getD b .dead).nms,c∈ns:=by
 intro b hb c hc
 simp only [closedIn,List.all_eq_true] at h
 simpa using h b hb c hc
theorem idxIn_spec {ns:List Nat} {b:Nat} (h:b∈ns):∃ hlt:idxIn ns b<ns.length,ns[idxIn ns b]=b:=by
 have hlt:ns.idxOf b<ns.length:=List.idxOf_lt_length_of_mem h
 exact ⟨hlt,List.getElem_idxOf hlt⟩
theorem killAll_spec {Γ:Ctx} {sh:Nat→Option Shp} {w:World}:∀ (ks:List Nat) (sl:List PV),(killAll ks sl).length=sl.length∧(∀ c∈nmsL (killAll ks sl),c∉ks∧c∈nmsL sl)∧
  ∀ i (h:i<(killAll ks sl).length) (h':i<sl.length) V,VP Γ sh w (sl[i]) V→VP Γ sh w ((killAll ks sl)[i]) V
 | [],sl=>⟨rfl,fun c hc=>⟨by simp,hc⟩,fun i h h' V hv=>hv⟩
 | b::ks,sl=>by
  obtain ⟨h1,h2,h3⟩:=killAll_spec (Γ:=Γ) (sh:=sh) (w:=w) ks (killL b sl)
  have hl:(killL b sl).length=sl.length:=by rw [killL_eq];simp
  have e:killAll (b::ks) sl=killAll ks (killL b sl):=rfl
  refine ⟨by rw [e,h1,hl],fun c hc=>?_,fun i h h' V hv=>?_⟩
  ·rw [e] at hc
   obtain ⟨q1,q2⟩:=h2 c hc
   refine ⟨?_,killL_nms b sl c q2⟩
   rintro hcc
   rcases List.mem_cons.1 hcc with rfl | hcc
   ·exact not_mem_killL c sl q2
   ·exact q1 hcc
  ·simp only [e]
   refine h3 i (by rw [e] at h;exact h) (by rw [hl];exact h') V ?_
   have e3:(killL b sl)[i]'(by rw [hl];exact h')=(sl[i]).kill b:=by simp [killL_eq]
   rw [e3]
   exact hv.kill b
theorem killBs_spec {Γ:Ctx} {sh:Nat→Option Shp} {w:World}:∀ (ks:List Nat) (H:List Blk),(killBs ks H).length=H.length∧(∀ b,shpOf (killBs ks H) b=shpOf H b)∧
  ∀ i (h:i<(killBs ks H).length) (h':i<H.length),(∀ c∈((killBs ks H)[i]).nms,c∉ks∧c∈(H[i]).nms)∧∀ b,BR Γ sh w b (H[i])→BR Γ sh w b ((killBs ks H)[i])
 | [],H=>⟨rfl,fun _=>rfl,fun i h h'=>⟨fun c hc=>⟨by simp,hc⟩,fun b hb=>hb⟩⟩
 | k::ks,H=>by
  obtain ⟨h1,h2,h3⟩:=killBs_spec (Γ:=Γ) (sh:=sh) (w:=w) ks (H.map (Blk.kill k))
  have hl:(H.map (Blk.kill k)).length=H.length:=by simp
  have e:killBs (k::ks) H=killBs ks (H.map (Blk.kill k)):=rfl
  refine ⟨by rw [e,h1,hl],fun b=>by rw [e,h2,shpOf_kill],fun i h h'=>?_⟩
  have h'':i<(H.map (Blk.kill k)).length:=by rw [hl];exact h'
  obtain ⟨q1,q2⟩:=h3 i (by rw [e] at h;exact h) h''
  have e3:(H.map (Blk.kill k))[i]=(H[i]).kill k:=by simp
  refine ⟨fun c hc=>?_,fun b hb=>?_⟩
  ·simp only [e] at hc
   obtain ⟨r1,r2⟩:=q1 c hc
   rw [e3] at r2
   obtain ⟨r3,r4⟩:=Blk.kill_nms' c r2
   refine ⟨?_,r4⟩
   rintro hcc
   rcases List.mem_cons.1 hcc with rfl | hcc
   ·exact r3 rfl
   ·exact r1 hcc
  ·simp only [e]
   exact q2 b (by rw [e3];exact hb.kill)
theorem setAll_spec:∀ (ns:List Nat) (xs H:List Blk),ns.Nodup→xs.length=ns.length→(∀ b∈ns,b<H.length)→(setAll H ns xs).length=H.length∧
  ∀ b,(setAll H ns xs)[b]? = if b∈ns then xs[ns.idxOf b]? else H[b]?
 | [],xs,H,_,hl,_=>by cases xs<;>simp [setAll]
 | n::ns,[],H,_,hl,_=>by simp at hl
 | n::ns,x::xs,H,hd,hl,hlt=>by
  obtain ⟨h1,h2⟩:=setAll_spec ns xs (H.set n x) (List.nodup_cons.1 hd).2 (by simpa using hl) (fun b hb=>by simpa using hlt b (by simp [hb]))
  have e:setAll H (n::ns) (x::xs)=setAll (H.set n x) ns xs:=rfl
  refine ⟨by rw [e,h1];simp,fun b=>?_⟩
  rw [e,h2]
  have hn:n∉ns:=(List.nodup_cons.1 hd).1
  by_cases hb:b∈ns
  ·have hbn:n≠b:=by rintro rfl;exact hn hb
   rw [if_pos hb,if_pos (by simp [hb]),List.idxOf_cons]
   have:(n==b)=false:=by simpa using hbn
   simp [this]
  ·rw [if_neg hb,List.getElem?_set]
   by_cases e:n=b
   ·subst e
    rw [if_pos rfl,if_pos (hlt n (by simp)),if_pos (by simp)]
    simp
   ·rw [if_neg e,if_neg (by simp only [List.mem_cons,not_or];exact ⟨fun h=>e h.symm,hb⟩)]
end Go.Proofs.YtcfingekgbbclaaGreatDoor.E
namespace Go.Proofs.YtcfingekgbbclaaGreatDoor.E
open Go
set_option linter.unusedVariables false
def wideAt (ro:Option Nat):Fence:={ Fence.wide with round:=ro }
def UponOK (P:Program) (res:Result Next) (R:Value→World→Prop):Prop:=
 ∀ (ro:Option Nat) (n:Nat) (o:Oper) (a:Act) (next:Act→World→Prop) (Q:Exit→Act→World→Prop),(∀ V w',R V w'→next (a.put o.dst V) w')→o.uponIn (wideAt ro) n P a next Q res
theorem UponOK.mono {P:Program} {res:Result Next} {R R':Value→World→Prop} (h:UponOK P res R) (hr:∀ V w',R V w'→R' V w'):UponOK P res R':=
 fun ro n o a next Q hn=>h ro n o a next Q fun V w' hR=>hn V w' (hr V w' hR)
def CRes {σ:Type} (C:Cfg) (I:σ→(Nat→Prop)→(Nat→Prop)→World→Prop) (Γ:Ctx) (H:List Blk) (w:World) (Φ:Nat→Prop) (ret:PV) (Hc:List Blk) (s':σ) (V:Value) (w':World):Prop:=
 ∃ Γ' Φ',Stp C Γ H w Φ Γ' Hc w' Φ'∧HR Γ' Hc w'∧VP Γ' (shpOf Hc) w' ret V∧(∀ c∈ret.nms,c<Hc.length)∧I s' Γ'.St Φ' w'∧∀ b g,Γ'.nm b=some g→¬ Φ' g
def YdOK {σ:Type} (P:Program) (I:σ→(Nat→Prop)→(Nat→Prop)→World→Prop) (yh:Yh σ) (yv:Value):Prop:=
 ∀ args s b s',yh args s=some (b,s')→svArgs args=true→∀ Γ Φ w Vs,I s Γ.St Φ w→(∀ g,Γ.St g→g<w.heap.size)→CR Γ (fun _=>none) w args Vs→
  UponOK P ((do let d ←Deferred.ofValue yv Vs;invoke d.target d.args).run P w) fun V w'=>V = .bool b∧∃ St' Φ',I s' St' Φ' w'∧(∀ g,Γ.St g→St' g)∧(∀ g,St' g→Γ.St g∨w.heap.size≤g)∧(∀ g,Φ' g→Φ g∨w.heap.size≤g)∧
   (∀ g,g<w.heap.size→¬ Φ g→w'.heap[g]? = w.heap[g]?)∧w.heap.size≤w'.heap.size∧w'.os=w.os∧w'.tape=w.tape∧w'.output=w.output∧∀ g,St' g→g<w'.heap.size
def CalleeOK (C:Cfg) (cl:CallT):Prop:=
 ∀ (σ:Type) (I:σ→(Nat→Prop)→(Nat→Prop)→World→Prop) (yh:Yh σ) (yv:Value),HI I→YdOK C.P I yh yv→
  ∀ g args H s ret Hc s',cl σ yh g args H s=some (ret,Hc,s')→∀ Γ Φ w Vs,Γ.yv=yv→HR Γ H w→GOK C Γ.St w→I s Γ.St Φ w→(∀ b g,Γ.nm b=some g→¬ Φ g)→CR Γ (shpOf H) w args Vs→(∀ c∈nmsL args,c<H.length)→
   UponOK C.P ((callFunc g Vs).run C.P w) (CRes C I Γ H w Φ ret Hc s')
def I0:Unit→(Nat→Prop)→(Nat→Prop)→World→Prop:=fun _ _ Φ _=>∀ g,¬ Φ g
def X1OK (C:Cfg):Prop:=
 ∀ g pf args ret Hc,C.X g=some pf→trRes (pf args)=some (ret,Hc)→∀ Γ w Vs,(∀ b,Γ.nm b=none)→HR Γ [] w→GOK C Γ.St w→CR Γ (shpOf []) w args Vs→
  UponOK C.P ((callFunc g Vs).run C.P w) (CRes C I0 Γ [] w noΦ ret Hc ())
def clY (C:Cfg):CallT:=fun _ _ g args H s=>match C.Y g with
 | some pf=>match trRes (pf args H) with
  | some (r,h)=>some (r,h,s)
  | none=>none
 | none=>none
def seqRun {σ:Type} (yh:Yh σ):List (List PV)→σ→Option σ
 | [],s=>some s
 | x::xs,s=>match yh x s with
  | some (true,s')=>seqRun yh xs s'
  | some (false,s')=>some s'
  | none=>none
def clS (C:Cfg):CallT:=fun _ yh g args H s=>match C.S g with
 | some pf=>if H.all isBox=true then match pf args H with
  | some (true,L)=>match seqRun yh L s with
   | some s'=>some (.tup [],H.map bareB,s')
   | none=>none
  | _=>none
  else none
 | none=>none
structure XOK (C:Cfg):Prop where
 x:X1OK C
 y:CalleeOK C (clY C)
 s:CalleeOK C (clS C)
section
variable {Γ : Ctx} {H : List Blk} {w : World} {C : Cfg}
def Ctx.all (Γ:Ctx):Ctx:={ Γ with St:=fun g=>Γ.St g∨∃ b,Γ.nm b=some g }
theorem row_VS {St':Nat→Prop} {b e sz i n:Nat} {v:Bool} {els:List (List SV)} {a:Addr} {cap g:Nat} (hH:HR Γ H w) (hb:H[b]? = some (.arr v e sz els)) (hne:¬ (v=true∧els=[])) (hg:Γ.nm b=some g) (hi:i+n≤els.length) (ha:n≠0→a=⟨g,i*sz,none⟩) (hcap:n≤cap) (hm:cap≤maxLen) (hs':∀ g,Γ.St g→St' g) (hg':St' g) :
  VS St' w (.sl false false sz ((els.drop i).take n)) (.slice (some a) n cap):=by
 by_cases hn:n=0
 ·subst hn
  rw [List.take_zero]
  exact .emp false sz a cap (by simp) hm
 ·rw [ha hn]
  obtain ⟨g',cur,h1,h2,h3,h4,h5⟩:=hH.arr' hb hne
  rw [hg] at h1;cases h1
  have hlen:((els.drop i).take n).length=n:=by simp;omega
  have hget:∀ k (hk:k<((els.drop i).take n).length),∃ h':i+k<els.length,((els.drop i).take n)[k]=els[i+k]:=fun k hk=>by
   rw [hlen] at hk
   exact ⟨by omega,by simp⟩
  have hcell:∀ k,k<cur.size→w.cell? ⟨g,k,none⟩=cur[k]?:=fun k _=>cell_of_row w g k cur e (0,0) h2
  refine .sl false _ g (i*sz) n cap sz (fun k j=>cur.getD (i*sz+k*sz+j) undef) hlen.symm hcap hm (by simp) hg' (fun k hk=>?_) (fun k hk j hj=>?_) (fun k hk j hj=>?_)
  ·obtain ⟨h',e⟩:=hget k hk;rw [e];exact h4 _ h'
  ·obtain ⟨h',e⟩:=hget k hk
   obtain ⟨V,e1,e2⟩:=h5 _ h' j (by rw [←e];exact hj)
   have e3:cur[i*sz+k*sz+j]? = some V:=by rw [←e1,Nat.add_mul]
   rw [cell_of_row w g _ cur _ (0,0) h2,e3]
   simp [Array.getD_eq_getD_getElem?,e3]
  ·obtain ⟨h',e⟩:=hget k hk
   obtain ⟨V,e1,e2⟩:=h5 _ h' j (by rw [←e];exact hj)
   have e3:cur[i*sz+k*sz+j]? = some V:=by rw [←e1,Nat.add_mul]
   simp only [e,Array.getD_eq_getD_getElem?,e3]
   exact e2.mono (fun _ _=>rfl) hs'
theorem VP.toAll {sh:Nat→Option Shp} {v:PV} {V:Value} (h:VP Γ sh w v V):VP Γ.all sh w v V:=
 h.mono (Γ':=Γ.all) (ok:=fun _=>True) ⟨fun _ _=>rfl,fun _ h=>Or.inl h,fun _ _=>rfl,fun _ _=>rfl,fun _ _ _ _=>rfl,rfl⟩ (fun _ _=>trivial)
theorem VP.snap (hH:HR Γ H w) {v:PV} {V:Value} (h:VP Γ (shpOf H) w v V):VP Γ.all (shpOf H) w (v.snap H) V:=by
 generalize hsh:shpOf H=sh at h
 induction h with
 | s v V h=>exact (VP.s v V h).toAll
 | nsl=>exact .s _ _ (.nil _ _)
 | flv b e sz h=>
  subst hsh
  obtain ⟨x,hx,hs⟩:∃ x,H[b]? = some x∧x.shp = .arr true e sz 0:=by simpa [shpOf] using h
  cases x<;>simp [Blk.shp] at hs
  rename_i v' e' sz' els
  obtain ⟨rfl,rfl,rfl,h4⟩:=hs
  subst h4
  simp only [PV.snap,hx]
  exact .s _ _ (.nil _ _)
 | fl b g v e sz n cap h hv hg hcap hm hs=>
  subst hsh
  obtain ⟨x,hx,hs'⟩:∃ x,H[b]? = some x∧x.shp = .arr v e sz n:=by simpa [shpOf] using h
  cases x<;>simp [Blk.shp] at hs'
  rename_i v' e' sz' els
  obtain ⟨rfl,rfl,rfl,rfl⟩:=hs'
  have hne:¬ (v'=true∧els=[]):=by rintro ⟨q1,q2⟩;exact hv q1 (by rw [q2];rfl)
  have hz:(v'&&els.isEmpty)=false:=by
   cases v'<;>simp_all
  simp only [PV.snap,hx,hz]
  have:=row_VS (i:=0) (n:=els.length) (a:=⟨g,0,none⟩) (cap:=cap) hH hx hne hg (by omega) (fun _=>by simp) hcap hm (St':=Γ.all.St) (fun _ h=>Or.inl h) (.inr ⟨b,hg⟩)
  simp only [List.drop_zero,List.take_length] at this
  exact .s _ _ this
 | vwv b e sz i h=>
  subst hsh
  obtain ⟨x,hx,hs⟩:∃ x,H[b]? = some x∧x.shp = .arr true e sz 0:=by simpa [shpOf] using h
  cases x<;>simp [Blk.shp] at hs
  rename_i v' e' sz' els
  obtain ⟨rfl,rfl,rfl,h4⟩:=hs
  subst h4
  simp only [PV.snap,hx,List.drop_nil,List.take_nil]
  exact .s _ _ (.nil _ _)
 | vw b i n g a cap v e sz m h hv hg ha hi hcap hm=>
  subst hsh
  obtain ⟨x,hx,hs'⟩:∃ x,H[b]? = some x∧x.shp = .arr v e sz m:=by simpa [shpOf] using h
  cases x<;>simp [Blk.shp] at hs'
  rename_i v' e' sz' els
  obtain ⟨rfl,rfl,rfl,rfl⟩:=hs'
  have hne:¬ (v'=true∧els=[]):=by rintro ⟨q1,q2⟩;exact hv q1 (by rw [q2];rfl)
  have hz:(v'&&els.isEmpty)=false:=by
   cases v'<;>simp_all
  simp only [PV.snap,hx,hz]
  exact .s _ _ (row_VS hH hx hne hg hi ha hcap hm (fun _ h=>Or.inl h) (.inr ⟨b,hg⟩))
 | ptrA b i off g v e sz n h hg=>exact (VP.ptrA b i off g v e sz n h hg).toAll
 | ptrB b off g h hg=>exact (VP.ptrB b off g h hg).toAll
 | fnr f x y A B As Bs hf hA hB ha hb hx hy ihx ihy=>exact (VP.fnr f x y A B As Bs hf hA hB ha hb hx hy).toAll
 | it b g h hg=>exact (VP.it b g h hg).toAll
 | yd=>exact .yd
 | agg l A As hA ha hl ih=>
  simp only [PV.snap,snapL_eq]
  refine .agg _ A As (by simpa using hA) (fun j h=>ha j (by simpa using h)) (fun j h=>?_)
  rw [List.getElem_map]
  exact ih j (by simpa using h)
 | tup l A As hA ha hl ih=>exact (VP.tup l A As hA ha hl).toAll
 | bad V=>exact .bad V
theorem rowsL_mem {l:List PV} (h:rowsL l=false):∀ v∈l,v.rows=false:=by
 induction l with
 | nil=>simp
 | cons a l ih=>
  simp only [rowsL,Bool.or_eq_false_iff] at h
  intro v hv
  rcases List.mem_cons.1 hv with rfl | hv
  ·exact h.1
  ·exact ih h.2 v hv
theorem VP.snap_plain {sh:Nat→Option Shp} {v:PV} {V:Value} (h:VP Γ sh w v V):v.rows=false→VP Γ sh w (v.snap H) V∧∀ c∈(v.snap H).nms,c∈v.nms:=by
 induction h with
 | nsl=>intro _;exact ⟨.s _ _ (.nil _ _),by simp [PV.snap,PV.nms]⟩
 | flv b e sz h=>intro hr;simp [PV.rows] at hr
 | fl b g v e sz n cap h hv hg hcap hm hs=>intro hr;simp [PV.rows] at hr
 | vwv b e sz i h=>intro hr;simp [PV.rows] at hr
 | vw b i n g a cap v e sz m h hv hg ha hi hcap hm=>intro hr;simp [PV.rows] at hr
 | agg l A As hA ha hl ih=>
  intro hr
  simp only [PV.rows] at hr
  have hr':=rowsL_mem hr
  simp only [PV.snap,snapL_eq]
  refine ⟨.agg _ A As (by simpa using hA) (fun j h=>ha j (by simpa using h)) (fun j h=>?_),fun c hc=>?_⟩
  ·rw [List.getElem_map]
   exact (ih j (by simpa using h) (hr' _ (List.getElem_mem _))).1
  ·simp only [PV.nms] at hc ⊢
   obtain ⟨j,hj,hc⟩:=mem_nmsL.1 hc
   rw [List.getElem_map] at hc
   exact mem_nmsL.2 ⟨j,by simpa using hj,(ih j (by simpa using hj) (hr' _ (List.getElem_mem _))).2 c hc⟩
 | s v V h=>intro _;exact ⟨.s v V h,fun c hc=>hc⟩
 | ptrA b i off g v e sz n h hg=>intro _;exact ⟨.ptrA b i off g v e sz n h hg,fun c hc=>hc⟩
 | ptrB b off g h hg=>intro _;exact ⟨.ptrB b off g h hg,fun c hc=>hc⟩
 | fnr f x y A B As Bs hf hA hB ha hb hx hy ihx ihy=>intro _;exact ⟨.fnr f x y A B As Bs hf hA hB ha hb hx hy,fun c hc=>hc⟩
 | it b g h hg=>intro _;exact ⟨.it b g h hg,fun c hc=>hc⟩
 | yd=>intro _;exact ⟨.yd,fun c hc=>hc⟩
 | tup l A As hA ha hl ih=>intro _;exact ⟨.tup l A As hA ha hl,fun c hc=>hc⟩
 | bad V=>intro _;exact ⟨.bad V,fun c hc=>hc⟩
theorem CR.snap (hH:HR Γ H w) {l:List PV} {A:Array Value} (h:CR Γ (shpOf H) w l A):CR Γ.all (shpOf H) w (snapL H l) A:=by
 rw [snapL_eq]
 refine ⟨by rw [List.length_map];exact h.1,fun j hj=>?_⟩
 obtain ⟨U,e,k⟩:=h.2 j (by simpa using hj)
 exact ⟨U,e,by rw [List.getElem_map];exact k.snap hH⟩
theorem CR.snap_plain {l:List PV} {A:Array Value} (h:CR Γ (shpOf H) w l A) (hr:rowsL l=false):CR Γ (shpOf H) w (snapL H l) A∧∀ c∈nmsL (snapL H l),c∈nmsL l:=by
 have hr':=rowsL_mem hr
 rw [snapL_eq]
 refine ⟨⟨by rw [List.length_map];exact h.1,fun j hj=>?_⟩,fun c hc=>?_⟩
 ·obtain ⟨U,e,k⟩:=h.2 j (by simpa using hj)
  exact ⟨U,e,by rw [List.getElem_map];exact (k.snap_plain (hr' _ (List.getElem_mem _))).1⟩
 ·obtain ⟨j,hj,hc⟩:=mem_nmsL.1 hc
  rw [List.getElem_map] at hc
  have hj':j<l.length:=by simpa using hj
  obtain ⟨U,e,k⟩:=h.2 j hj'
  exact mem_nmsL.2 ⟨j,hj',(k.snap_plain (hr' _ (List.getElem_mem _))).2 c hc⟩
theorem CR.bare {Γ':Ctx} {sh sh':Nat→Option Shp} {l:List PV} {A:Array Value} (h:CR Γ sh w l A) (hn:nmsL l=[]) (hst:∀ g,Γ.St g→Γ'.St g) (hyv:Γ'.yv = Γ.yv):CR Γ' sh' w l A:=
 ⟨h.1,fun j hj=>by
  obtain ⟨U,e,k⟩:=h.2 j hj
  refine ⟨U,e,k.mono (ok:=fun _=>False) ⟨fun _ _=>rfl,hst,fun _ h=>h.elim,fun _ h=>h.elim,fun _ _ h=>h.elim,hyv⟩ (fun b hb=>?_)⟩
  have:b∈nmsL l:=mem_nmsL.2 ⟨j,hj,hb⟩
  rw [hn] at this
  simp at this⟩
theorem wide_Mono {St':Nat→Prop} {w':World} (hH:HR Γ H w) (hold:∀ g,g<w.heap.size→w'.heap[g]? = w.heap[g]?) (hs:∀ g,Γ.St g→St' g):Mono Γ (shpOf H) w { Γ with St:=St' } (shpOf H) w' (fun _=>True):=
 ⟨fun g hg=>hold g (hH.stlt g hg),hs,fun _ _=>rfl,fun _ _=>rfl,fun b g _ hg=>shape_of_heap (hold g (hH.lt b g hg).2.1),rfl⟩
theorem wide_HR {St':Nat→Prop} {w':World} (hH:HR Γ H w) (hold:∀ g,g<w.heap.size→w'.heap[g]? = w.heap[g]?) (hsz:w.heap.size≤w'.heap.size) (hs:∀ g,Γ.St g→St' g) (hn:∀ g,St' g→Γ.St g∨w.heap.size≤g) (hlt:∀ g,St' g→g<w'.heap.size):HR { Γ with St:=St' } H w':=by
 refine ⟨hH.inj,fun b g hg=>?_,hlt,hH.nms,fun b hb=>(hH.blk b hb).mono (wide_Mono hH hold hs) rfl (fun g hg=>hold g (hH.lt b g hg).2.1) (fun _ _=>trivial)⟩
 have:=hH.lt b g hg
 refine ⟨this.1,by omega,fun h=>?_⟩
 rcases hn g h with h | h
 ·exact this.2.2 h
 ·omega
theorem wide_Stp {St':Nat→Prop} {w':World} {Φ:Nat→Prop} (hH:HR Γ H w) (hold:∀ g,g<w.heap.size→w'.heap[g]? = w.heap[g]?) (hsz:w.heap.size≤w'.heap.size) (hs:∀ g,Γ.St g→St' g) (hn:∀ g,St' g→Γ.St g∨w.heap.size≤g) (h1:w'.os=w.os) (h2:w'.tape=w.tape) (h3:w'.output=w.output) :
  Stp C Γ H w Φ { Γ with St:=St' } H w' Φ:=
 ⟨h1,h2,h3,hsz,hs,hn,fun b g hg=>.inl ⟨(hH.lt b g hg).1,hg⟩,fun _ h=>.inl h,fun g hg _ _=>hold g hg,rfl,Nat.le_refl _,fun b hb hf=>⟨rfl,rfl,fun g hg=>shape_of_heap (hold g (hH.lt b g hg).2.1)⟩⟩
end
end Go.Proofs.YtcfingekgbbclaaGreatDoor.E
namespace Go.Proofs.YtcfingekgbbclaaGreatDoor.E
open Go
set_option linter.unusedVariables false
section
variable {σ R : Type} {r : R} {C : Cfg} {I : σ → (Nat → Prop) → (Nat → Prop) → World → Prop} {Γ : Ctx} {Φ : Nat → Prop} {st : St σ} {tmps : Array Value} {w : World} {cl : CallT} {yh : Yh σ} {yv : Value}
def Like (w w':World):Prop:=(Ext w w'∧w.heap.size≤w'.heap.size)∧w'.os=w.os∧w'.tape=w.tape∧w'.output=w.output
def KRes (C:Cfg) (I:σ→(Nat→Prop)→(Nat→Prop)→World→Prop) (Γ:Ctx) (Φ:Nat→Prop) (st:St σ) (tmps:Array Value) (w:World) (k:PV→St σ→Option R) (r:R) (V:Value) (w':World):Prop:=
 ∃ v st' Γ' Φ',k v st'=some r∧Stp C Γ st.hp w Φ Γ' st'.hp w' Φ'∧SI C I Γ' Φ' st' tmps w'∧VP Γ' (shpOf st'.hp) w' v V∧∀ c∈v.nms,c<st'.hp.length
theorem bare_HR {Γc:Ctx} (hn:∀ b,Γc.nm b=none) (hlt:∀ g,Γc.St g→g<w.heap.size):HR Γc [] w:=
 ⟨fun b b' g h=>(by rw [hn] at h;cases h),fun b g h=>(by rw [hn] at h;cases h),hlt,fun b h=>by simp at h,fun b h=>by simp at h⟩
theorem SI.wide (hI:HI I) (S:SI C I Γ Φ st tmps w) {St':Nat→Prop} {w':World} (hold:∀ g,g<w.heap.size→w'.heap[g]? = w.heap[g]?) (hsz:w.heap.size≤w'.heap.size) (hs:∀ g,Γ.St g→St' g) (hn:∀ g,St' g→Γ.St g∨w.heap.size≤g) (hlt:∀ g,St' g→g<w'.heap.size)
  (h1:w'.os=w.os) (h2:w'.tape=w.tape) (h3:w'.output=w.output):SI C I { Γ with St:=St' } Φ st tmps w'∧Stp C Γ st.hp w Φ { Γ with St:=St' } st.hp w' Φ:=by
 have hstp:=wide_Stp (C:=C) (Φ:=Φ) S.hr hold hsz hs hn h1 h2 h3
 refine ⟨?_,hstp⟩
 have:=S.step hI hstp (fun g hg=>hold g (hI.foot _ _ _ _ S.inv g hg).1) (wide_HR S.hr hold hsz hs hn hlt) (S.sr.mono (wide_Mono S.hr hold hs) (fun c hc=>⟨trivial,S.sr.nms c hc⟩))
 exact this
theorem SI.wideSt (hI:HI I) (S:SI C I Γ Φ st tmps w) {St':Nat→Prop} (hs:∀ g,Γ.St g→St' g) (hd:∀ g,St' g→¬ Φ g) (hn:∀ b g,Γ.nm b=some g→¬ St' g) (hlt:∀ g,St' g→g<w.heap.size):SI C I { Γ with St:=St' } Φ st tmps w:=by
 have M:Mono Γ (shpOf st.hp) w { Γ with St:=St' } (shpOf st.hp) w (fun _=>True):=⟨fun _ _=>rfl,hs,fun _ _=>rfl,fun _ _=>rfl,fun _ _ _ _=>rfl,rfl⟩
 refine ⟨⟨S.hr.inj,fun b g hb=>?_,hlt,S.hr.nms,fun b hb=>(S.hr.blk b hb).mono M rfl (fun _ _=>rfl) (fun _ _=>trivial)⟩,
  S.sr.mono M (fun c hc=>⟨trivial,S.sr.nms c hc⟩),S.g.mono (fun _ _=>rfl) hs,hI.mono _ _ _ _ _ _ S.inv hs hd hlt (fun _ _=>rfl) (Nat.le_refl _) rfl rfl rfl,S.dis⟩
 obtain ⟨q1,q2,_⟩:=S.hr.lt b g hb
 exact ⟨q1,q2,hn b g hb⟩
theorem all_lt (S:SI C I Γ Φ st tmps w):∀ g,Γ.all.St g→g<w.heap.size:=by
 rintro g (h | ⟨b,h⟩)
 ·exact S.hr.stlt g h
 ·exact (S.hr.lt b g h).2.1
theorem I0_HI:HI I0:=⟨fun _ _ Φ _ h g hg=>absurd hg (h g),fun _ _ Φ _ _ _ h _ _ _ _ _ _ _ _=>h⟩
theorem I0_Yd {P:Program} {yv:Value}:YdOK P I0 (fun _ _=>none) yv:=fun _ _ _ _ h=>by cases h
theorem take_over {ret:PV} {Hc:List Blk} {k:PV→St σ→Option R} {St0:Nat→Prop} {Res:Result Next} (hI:HI I) (S:SI C I Γ Φ st tmps w) (hSt:∀ g,Γ.St g→St0 g) (hcln:(∀ g,St0 g→Γ.St g)∨(ret.clean=true∧Hc.all Blk.clean=true))
  (hres:UponOK C.P Res (CRes C I0 { Γ with St:=St0,nm:=fun _=>none } [] w noΦ ret Hc ()))
  (hk:k (ret.rn (st.hp.length + ·)) { sl:=st.sl,hp:=st.hp++Hc.map (Blk.rn (st.hp.length + ·)),s:=st.s } = some r):UponOK C.P Res (fun V w'=>KRes C I Γ Φ st tmps w k r V w'∧Like w w'):=by
 let Γc:Ctx:={ Γ with St:=St0,nm:=fun _=>none }
 refine hres.mono ?_
 rintro V w' ⟨Γ1,Φ1,hs,hH1,hv,hvn,hi1,hd1⟩
 have hold:∀ k,k<w.heap.size→w'.heap[k]? = w.heap[k]?:=fun k hk=>hs.frame k hk (fun b=>by simp) (fun x=>x)
 generalize hL:st.hp.length=L at *
 have hnew:∀ i g,Γ1.nm i=some g→i<Hc.length∧w.heap.size≤g∧g<w'.heap.size:=fun i g h=>by
  refine ⟨(hH1.lt i g h).1,?_,(hH1.lt i g h).2.1⟩
  rcases hs.own i g h with ⟨h',_⟩ | h'
  ·simp at h'
  ·exact h'
 obtain ⟨St2,hst2,hst2n,hst2l,hclr⟩:∃ St2:Nat→Prop,(∀ g,Γ.St g→St2 g)∧(∀ g,St2 g→Γ.St g∨(w.heap.size≤g∧Γ1.St g))∧(∀ g,St2 g→g<w'.heap.size)∧((∀ g,Γ1.St g→St2 g)∨(ret.clean=true∧Hc.all Blk.clean=true)):=by
  rcases hcln with h | h
  ·refine ⟨Γ1.St,fun g hg=>hs.sub g (hSt g hg),fun g hg=>?_,fun g hg=>hH1.stlt g hg,.inl fun _ h=>h⟩
   rcases hs.stnew g hg with q | q
   ·exact .inl (h g q)
   ·exact .inr ⟨q,hg⟩
  ·exact ⟨Γ.St,fun _ h=>h,fun _ h=>.inl h,fun g hg=>Nat.lt_of_lt_of_le (S.hr.stlt g hg) hs.size,.inr h⟩
 let Γ2:Ctx:={ Γ with St:=St2,nm:=fun b=>if b<L then Γ.nm b else Γ1.nm (b-L) }
 let H2:List Blk:=st.hp++Hc.map (Blk.rn (L + ·))
 have hsh:∀ i,i<Hc.length→shpOf H2 (L+i)=shpOf Hc i:=fun i hi=>by
  simp only [H2,shpOf]
  rw [List.getElem?_append_right (by omega),hL,Nat.add_sub_cancel_left,List.getElem?_map,Option.map_map]
  congr 1
  funext x
  exact Blk.rn_shp _ x
 have M:Mono Γ (shpOf st.hp) w Γ2 (shpOf H2) w' (· < L):=⟨fun g hg=>hold g (S.hr.stlt g hg),hst2,fun b hb=>by simp only [Γ2];rw [if_pos hb],fun b hb=>shpOf_append_lt (by omega),fun b g hb hg=>shape_of_heap (hold g (S.hr.lt b g hg).2.1),rfl⟩
 have hnm2:∀ i,i<Hc.length→Γ2.nm (L+i) = Γ1.nm i:=fun i hi=>by simp only [Γ2];rw [if_neg (by omega),Nat.add_sub_cancel_left]
 have hyv:Γ2.yv = Γ1.yv:=by have:=hs.yv;exact this.symm
 have hlen2:H2.length=L+Hc.length:=by simp [H2,hL]
 have hr2:HR Γ2 H2 w':=by
  refine ⟨fun b b' g h1 h2=>?_,fun b g h=>?_,hst2l,fun b hb c hcc=>?_,fun b hb=>?_⟩
  ·simp only [Γ2] at h1 h2
   split at h1<;>split at h2
   ·exact S.hr.inj b b' g h1 h2
   ·have:=(S.hr.lt b g h1).2.1;have:=(hnew _ g h2).2.1;omega
   ·have:=(S.hr.lt b' g h2).2.1;have:=(hnew _ g h1).2.1;omega
   ·have:=hH1.inj _ _ g h1 h2;omega
  ·rw [hlen2]
   simp only [Γ2] at h
   split at h
   ·have:=S.hr.lt b g h
    refine ⟨by omega,by have:=hs.size;omega,fun hst=>?_⟩
    rcases hst2n g hst with q | q
    ·exact this.2.2 q
    ·omega
   ·have:=hnew _ g h
    refine ⟨by omega,this.2.2,fun hst=>?_⟩
    rcases hst2n g hst with q | q
    ·have:=S.hr.stlt g q;omega
    ·exact (hH1.lt _ g h).2.2 q.2
  ·rw [hlen2] at hb ⊢
   by_cases hbL:b<L
   ·have:H2[b]'(by omega)=st.hp[b]'(by omega):=List.getElem_append_left (by omega)
    rw [this] at hcc
    have:=S.hr.nms b (by omega) c hcc;omega
   ·have:H2[b]'(by omega)=(Hc[b-L]'(by omega)).rn (L + ·):=by
     simp only [H2]
     rw [List.getElem_append_right (by omega),List.getElem_map]
     simp [hL]
    rw [this,Blk.rn_nms] at hcc
    obtain ⟨d,hd,rfl⟩:=List.mem_map.1 hcc
    have:=hH1.nms _ (by omega) d hd
    omega
  ·rw [hlen2] at hb
   by_cases hbL:b<L
   ·have:H2[b]'(by omega)=st.hp[b]'(by omega):=List.getElem_append_left (by omega)
    rw [this]
    exact (S.hr.blk b (by omega)).mono M (M.nm b hbL) (fun g hg=>hold g (S.hr.lt b g hg).2.1) (fun c hc=>by have:=S.hr.nms b (by omega) c hc;omega)
   ·have:H2[b]'(by omega)=(Hc[b-L]'(by omega)).rn (L + ·):=by
     simp only [H2]
     rw [List.getElem_append_right (by omega),List.getElem_map]
     simp [hL]
    rw [this]
    refine (hH1.blk _ (by omega)).rn hyv (by
     rcases hclr with h | h
     ·exact .inr h
     ·exact .inl (List.all_eq_true.1 h.2 _ (List.getElem_mem _))) ?_ (fun c hc=>?_)
    ·have:=hnm2 (b-L) (by omega)
     rw [show L+(b-L)=b by omega] at this
     exact this
    ·have hlt:=hH1.nms _ (by omega) c hc
     exact ⟨hnm2 c hlt,hsh c hlt⟩
 have hstp:Stp C Γ st.hp w Φ Γ2 H2 w' Φ:=by
  refine ⟨hs.os,hs.tape,hs.output,hs.size,hst2,fun g hg=>(hst2n g hg).imp (fun h=>h) (fun h=>h.1),fun b g h=>?_,fun _ h=>.inl h,fun g hg _ _=>hold g hg,rfl,by omega,fun b hb hf=>⟨M.nm b (by omega),M.shp b (by omega),fun g hg=>M.hs b g (by omega) hg⟩⟩
  simp only [Γ2] at h
  split at h
  ·exact .inl ⟨by omega,h⟩
  ·exact .inr (hnew _ g h).2.1
 have S':=S.step hI hstp (fun g hg=>hold g (hI.foot _ _ _ _ S.inv g hg).1) hr2 (S.sr.mono M (fun c hc=>by have:=S.sr.nms c hc;omega))
 refine ⟨⟨_,_,Γ2,Φ,hk,hstp,S',?_,fun c hc=>?_⟩,⟨hold,hs.size⟩,hs.os,hs.tape,hs.output⟩
 ·exact hv.rn hyv (by rcases hclr with h | h;exact .inr h;exact .inl h.1) (fun c hc=>⟨hnm2 c (hvn c hc),hsh c (hvn c hc)⟩)
 ·rw [PV.rn_nms] at hc
  obtain ⟨d,hd,rfl⟩:=List.mem_map.1 hc
  have:=hvn d hd
  show L+d<H2.length
  omega
theorem callS_sound {g:Nat} {args:List PV} {Vs:Array Value} {ret:PV} {Hc:List Blk} {k:PV→St σ→Option R} (hI:HI I) (hC:CalleeOK C cl) (S:SI C I Γ Φ st tmps w) (hc:CR Γ (shpOf st.hp) w args Vs) (hna:nmsL (snapL st.hp args)=[]) (hcl:cl Unit (fun _ _=>none) g (snapL st.hp args) [] ()=some (ret,Hc,()))
  (hret:ret.clean=true) (hH:Hc.all Blk.clean=true) (hk:k (ret.rn (st.hp.length + ·)) { sl:=st.sl,hp:=st.hp++Hc.map (Blk.rn (st.hp.length + ·)),s:=st.s } = some r):UponOK C.P ((callFunc g Vs).run C.P w) (KRes C I Γ Φ st tmps w k r):=by
 have hc1:=hc.snap S.hr
 let Γc:Ctx:={ Γ.all with nm:=fun _=>none }
 have hc2:CR Γc (shpOf []) w (snapL st.hp args) Vs:=hc1.bare hna (fun _ h=>h) rfl
 exact (take_over hI S (St0:=Γ.all.St) (fun _ h=>Or.inl h) (.inr ⟨hret,hH⟩)
  (hC Unit I0 _ Γ.yv I0_HI I0_Yd g _ [] () ret Hc () hcl Γc noΦ w Vs rfl (bare_HR (fun _=>rfl) (all_lt S)) (S.g.mono (fun _ _=>rfl) (fun _ h=>Or.inl h)) (fun _ h=>h) (fun b g h=>by cases h) hc2 (by rw [hna];simp)) hk).mono fun _ _ h=>h.1
theorem callX_like {g:Nat} {args:List PV} {Vs:Array Value} {pf:List PV→Tr} {ret:PV} {Hc:List Blk} {k:PV→St σ→Option R} (hI:HI I) (hX:XOK C) (S:SI C I Γ Φ st tmps w) (hc:CR Γ (shpOf st.hp) w args Vs) (hg:C.X g=some pf) (hpf:trRes (pf (snapL st.hp args))=some (ret,Hc))
  (hna:nmsL (snapL st.hp args)=[]) (hcl:rowsL args=false∨(ret.clean=true∧Hc.all Blk.clean=true)) (hk:k (ret.rn (st.hp.length + ·)) { sl:=st.sl,hp:=st.hp++Hc.map (Blk.rn (st.hp.length + ·)),s:=st.s } = some r):UponOK C.P ((callFunc g Vs).run C.P w) (fun V w'=>KRes C I Γ Φ st tmps w k r V w'∧Like w w'):=by
 by_cases hr:rowsL args=false
 ·have hc1:=(hc.snap_plain hr).1
  let Γc:Ctx:={ Γ with nm:=fun _=>none }
  have hc2:CR Γc (shpOf []) w (snapL st.hp args) Vs:=hc1.bare hna (fun _ h=>h) rfl
  exact take_over hI S (St0:=Γ.St) (fun _ h=>h) (.inl fun _ h=>h) (hX.x g pf _ ret Hc hg hpf Γc w Vs (fun _=>rfl) (bare_HR (fun _=>rfl) S.hr.stlt) S.g hc2) hk
 ·have hcl':ret.clean=true∧Hc.all Blk.clean=true:=by rcases hcl with h | h;exact absurd h hr;exact h
  have hc1:=hc.snap S.hr
  let Γc:Ctx:={ Γ.all with nm:=fun _=>none }
  have hc2:CR Γc (shpOf []) w (snapL st.hp args) Vs:=hc1.bare hna (fun _ h=>h) rfl
  exact take_over hI S (St0:=Γ.all.St) (fun _ h=>Or.inl h) (.inr hcl') (hX.x g pf _ ret Hc hg hpf Γc w Vs (fun _=>rfl) (bare_HR (fun _=>rfl) (all_lt S)) (S.g.mono (fun _ _=>rfl) (fun _ h=>Or.inl h)) hc2) hk
theorem callX_sound {g:Nat} {args:List PV} {Vs:Array Value} {pf:List PV→Tr} {ret:PV} {Hc:List Blk} {k:PV→St σ→Option R} (hI:HI I) (hX:XOK C) (S:SI C I Γ Φ st tmps w) (hc:CR Γ (shpOf st.hp) w args Vs) (hg:C.X g=some pf) (hpf:trRes (pf (snapL st.hp args))=some (ret,Hc))
  (hna:nmsL (snapL st.hp args)=[]) (hcl:rowsL args=false∨(ret.clean=true∧Hc.all Blk.clean=true)) (hk:k (ret.rn (st.hp.length + ·)) { sl:=st.sl,hp:=st.hp++Hc.map (Blk.rn (st.hp.length + ·)),s:=st.s } = some r):UponOK C.P ((callFunc g Vs).run C.P w) (KRes C I Γ Φ st tmps w k r):=
 (callX_like hI hX S hc hg hpf hna hcl hk).mono fun _ _ h=>h.1
end
end Go.Proofs.YtcfingekgbbclaaGreatDoor.E
namespace Go.Proofs.YtcfingekgbbclaaGreatDoor.E
open Go
set_option linter.unusedVariables false
def Ctx.lent (Γ:Ctx) (ns:List Nat):Ctx:={ Γ with nm:=fun i=>(ns[i]?).bind Γ.nm }
def Ctx.back (Γ Γ1:Ctx) (ns:List Nat) (L:Nat) (d:Bool):Ctx:=
 { St:=Γ1.St,nm:=fun b=>if b∈ns then Γ1.nm (idxIn ns b) else if b<L then Γ.nm b else if d=true then none else Γ1.nm (ns.length+(b-L)),yv:=Γ.yv,yv1:=Γ.yv1 }
section
variable {σ R : Type} {r : R} {C : Cfg} {I : σ → (Nat → Prop) → (Nat → Prop) → World → Prop} {Γ : Ctx} {H : List Blk} {Φ : Nat → Prop} {st : St σ} {tmps : Array Value} {w : World} {cl : CallT} {yh : Yh σ} {yv : Value}
def lentH (H:List Blk) (ns:List Nat):List Blk:=ns.map fun b=>(H.getD b .dead).rn (idxIn ns)
theorem lent_nm {ns:List Nat} {b:Nat} (h:b∈ns):(Γ.lent ns).nm (idxIn ns b) = Γ.nm b:=by
 obtain ⟨h1,h2⟩:=idxIn_spec h
 simp only [Ctx.lent,List.getElem?_eq_getElem h1,h2,Option.bind_some]
theorem lent_shp {ns:List Nat} (hlt:∀ b∈ns,b<H.length) {i:Nat} (hi:i<ns.length):shpOf (lentH H ns) i=shpOf H ns[i]:=by
 have:=hlt _ (List.getElem_mem hi)
 simp only [shpOf,lentH,List.getElem?_map,List.getElem?_eq_getElem hi,Option.map_some,Blk.rn_shp,List.getElem?_eq_getElem this]
 rw [List.getD_eq_getElem?_getD,List.getElem?_eq_getElem this]
 rfl
theorem lent_HR {ns:List Nat} (hH:HR Γ H w) (hnd:ns.Nodup) (hlt:∀ b∈ns,b<H.length) (hcl:closedIn H ns=true):HR (Γ.lent ns) (lentH H ns) w:=by
 have hcs:=closedIn_spec hcl
 have key:∀ i g,(Γ.lent ns).nm i=some g→∃ h:i<ns.length,Γ.nm ns[i]=some g:=fun i g h=>by
  simp only [Ctx.lent] at h
  cases hi:ns[i]? with
  | none=>rw [hi] at h;simp at h
  | some b=>
   obtain ⟨h1,h2⟩:=List.getElem?_eq_some_iff.1 hi
   rw [hi] at h
   exact ⟨h1,by rw [h2];exact h⟩
 have hget:∀ b (h:b∈ns),H.getD b .dead=H[b]'(hlt b h):=fun b h=>by rw [List.getD_eq_getElem?_getD,List.getElem?_eq_getElem (hlt b h)];rfl
 refine ⟨fun i j g h1 h2=>?_,fun i g h=>?_,hH.stlt,fun i hi c hc=>?_,fun i hi=>?_⟩
 ·obtain ⟨hi,e1⟩:=key i g h1
  obtain ⟨hj,e2⟩:=key j g h2
  have:=hH.inj _ _ g e1 e2
  exact (List.getElem_inj hnd).1 this
 ·obtain ⟨hi,e1⟩:=key i g h
  have:=hH.lt _ g e1
  exact ⟨by simpa [lentH] using hi,this.2⟩
 ·simp only [lentH,List.length_map] at hi ⊢
  simp only [lentH,List.getElem_map,Blk.rn_nms] at hc
  obtain ⟨d,hd,rfl⟩:=List.mem_map.1 hc
  exact (idxIn_spec (hcs _ (List.getElem_mem hi) d hd)).1
 ·simp only [lentH,List.length_map] at hi
  have hm:=List.getElem_mem hi
  have e:(lentH H ns)[i]'(by simpa [lentH] using hi)=(H[ns[i]]'(hlt _ hm)).rn (idxIn ns):=by
   simp only [lentH,List.getElem_map,hget _ hm]
  rw [e]
  refine BR.rn (Γ:=Γ) (Γ':=Γ.lent ns) (b':=i) rfl (hH.blk _ (hlt _ hm)) (.inr fun _ h=>h) ?_ (fun c hc=>?_)
  ·simp only [Ctx.lent,List.getElem?_eq_getElem hi,Option.bind_some]
  ·have hcn:c∈ns:=hcs _ hm c (by rw [hget _ hm];exact hc)
   obtain ⟨q1,q2⟩:=idxIn_spec hcn
   exact ⟨lent_nm hcn,by rw [lent_shp hlt q1,q2]⟩
theorem lowH_spec {L:Nat} {H:List Blk} (h:lowH L H=true):∀ x∈H,∀ c∈x.nms,c<L:=by
 intro x hx c hc
 simp only [lowH,List.all_eq_true,decide_eq_true_eq] at h
 exact h x hx c hc
theorem fixB_iff {b:Nat} (hb:b<H.length):fixB C (H.getD b .dead)=true↔fixS C (shpOf H b):=by
 have e:H.getD b .dead=H[b]:=by rw [List.getD_eq_getElem?_getD,List.getElem?_eq_getElem hb];rfl
 rw [e]
 simp only [shpOf,List.getElem?_eq_getElem hb,Option.map_some]
 cases H[b]<;>simp [fixB,fixS,Blk.shp]
theorem callL_sound {g:Nat} {a1:List PV} {Vs:Array Value} {ret:PV} {Hc:List Blk} {s':σ} {k:PV→St σ→Option R} (hI:HI I) (hC:CalleeOK C cl) (hy:YdOK C.P I yh yv) (hyv:Γ.yv=yv) (S:SI C I Γ Φ st tmps w) (hc:CR Γ (shpOf st.hp) w a1 Vs) (hn:∀ c∈nmsL a1,c<st.hp.length)
  (hcl:closedIn st.hp (reach st.hp (nmsL a1))=true) (hcall:cl σ yh g (rnL (idxIn (reach st.hp (nmsL a1))) a1) (lentH st.hp (reach st.hp (nmsL a1))) st.s=some (ret,Hc,s'))
  (hk:k (takeBack (killBs ((reach st.hp (nmsL a1)).filter fun b=>!fixB C (st.hp.getD b .dead)) st.hp) (reach st.hp (nmsL a1)) ret Hc).1
   { sl:=killAll ((reach st.hp (nmsL a1)).filter fun b=>!fixB C (st.hp.getD b .dead)) st.sl,hp:=(takeBack (killBs ((reach st.hp (nmsL a1)).filter fun b=>!fixB C (st.hp.getD b .dead)) st.hp) (reach st.hp (nmsL a1)) ret Hc).2,s:=s' } = some r) :
  UponOK C.P ((callFunc g Vs).run C.P w) (KRes C I Γ Φ st tmps w k r):=by
 have hnd:=reach_nodup st.hp (nmsL a1)
 have hsub:=reach_sub st.hp (nmsL a1)
 have hlt:∀ b∈reach st.hp (nmsL a1),b<st.hp.length:=reach_all st.hp (nmsL a1) (· < st.hp.length) (fun b hb c hc=>by
  have e:st.hp.getD b .dead=st.hp[b]:=by rw [List.getD_eq_getElem?_getD,List.getElem?_eq_getElem hb];rfl
  rw [e] at hc
  exact S.hr.nms b hb c hc) hn
 generalize reach st.hp (nmsL a1)=ns at *
 have hHc:=lent_HR S.hr hnd hlt hcl
 have hci:=fun b (h:b∈ns)=>idxIn_spec h
 have hargs:CR (Γ.lent ns) (shpOf (lentH st.hp ns)) w (rnL (idxIn ns) a1) Vs:=by
  rw [rnL_eq]
  refine ⟨by rw [List.length_map];exact hc.1,fun j hj=>?_⟩
  have hj':j<a1.length:=by simpa using hj
  obtain ⟨U,e,q⟩:=hc.2 j hj'
  refine ⟨U,e,?_⟩
  rw [List.getElem_map]
  refine VP.rn (Γ:=Γ) (Γ':=Γ.lent ns) rfl q (.inr fun _ h=>h) (fun c hc=>?_)
  have hcn:=hsub c (mem_nmsL.2 ⟨j,hj',hc⟩)
  obtain ⟨q1,q2⟩:=hci c hcn
  exact ⟨lent_nm hcn,by rw [lent_shp hlt q1,q2]⟩
 have hargn:∀ c∈nmsL (rnL (idxIn ns) a1),c<(lentH st.hp ns).length:=fun c hc=>by
  rw [nmsL_rn] at hc
  obtain ⟨d,hd,rfl⟩:=List.mem_map.1 hc
  simpa [lentH] using (hci d (hsub d hd)).1
 refine (hC σ I yh yv hI hy g _ _ _ ret Hc s' hcall (Γ.lent ns) Φ w Vs hyv hHc S.g S.inv (fun i g h=>?_) hargs hargn).mono ?_
 ·simp only [Ctx.lent] at h
  cases hi:ns[i]? with
  | none=>rw [hi] at h;simp at h
  | some b=>rw [hi] at h;exact S.dis b g h
 rintro V w' ⟨Γ1,Φ1,hs,hH1,hv,hvn,hi1,hd1⟩
 generalize hL:st.hp.length=L at *
 generalize hks:(ns.filter fun b=>!fixB C (st.hp.getD b .dead))=ks at *
 obtain ⟨kb1,kb2,kb3⟩:=killBs_spec (Γ:=Γ) (sh:=shpOf st.hp) (w:=w) ks st.hp
 have hlH:(lentH st.hp ns).length=ns.length:=by simp [lentH]
 have hnc:ns.length≤Hc.length:=by have:=hs.len;omega
 simp only [takeBack,kb1,hL] at hk
 generalize hf:backTo ns L=f at *
 have f1:∀ i (h:i<ns.length),f i=ns[i]:=fun i h=>by rw [←hf];simp only [backTo,if_pos h];exact getD_lt' h
 have f2:∀ i,¬ i<ns.length→f i=L+(i-ns.length):=fun i h=>by rw [←hf];simp only [backTo,if_neg h]
 generalize hd:((ret.rn f).nms.all (· < L)&&lowH L ((Hc.take ns.length).map (Blk.rn f)))=d at hk
 let E:List Blk:=cond d [] ((Hc.drop ns.length).map (Blk.rn f))
 have hlen1:((Hc.take ns.length).map (Blk.rn f)).length=ns.length:=by simp;omega
 obtain ⟨sa1,sa2⟩:=setAll_spec ns ((Hc.take ns.length).map (Blk.rn f)) (killBs ks st.hp) hnd hlen1 (fun b hb=>by rw [kb1];have:=hlt b hb;omega)
 have hE:(cond d (setAll (killBs ks st.hp) ns ((Hc.take ns.length).map (Blk.rn f))) (setAll (killBs ks st.hp) ns ((Hc.take ns.length).map (Blk.rn f))++(Hc.drop ns.length).map (Blk.rn f)))=setAll (killBs ks st.hp) ns ((Hc.take ns.length).map (Blk.rn f))++E:=by
  cases d<;>simp [E]
 rw [hE] at hk
 generalize hH2:setAll (killBs ks st.hp) ns ((Hc.take ns.length).map (Blk.rn f))++E=H2 at hk
 have hl2:H2.length=L+E.length:=by rw [←hH2,List.length_append,sa1,kb1,hL]
 have hEl:E.length=if d=true then 0 else Hc.length-ns.length:=by cases d<;>simp [E]
 have g1:∀ b (hb:b∈ns),H2[b]? = some ((Hc[idxIn ns b]'(by have:=(hci b hb).1;omega)).rn f):=fun b hb=>by
  have hbl:=hlt b hb
  rw [←hH2,List.getElem?_append_left (by rw [sa1,kb1,hL];exact hbl),sa2,if_pos hb]
  have hi:=(hci b hb).1
  have e:ns.idxOf b=idxIn ns b:=rfl
  rw [e,List.getElem?_map,List.getElem?_take,if_pos hi,List.getElem?_eq_getElem (by omega)]
  rfl
 have g2:∀ b,b<L→b∉ns→H2[b]? = (killBs ks st.hp)[b]?:=fun b hb hbn=>by
  rw [←hH2,List.getElem?_append_left (by rw [sa1,kb1,hL];exact hb),sa2,if_neg hbn]
 have g3:∀ b,L≤b→(hb:b<H2.length)→d=false∧∃ h:ns.length+(b-L)<Hc.length,H2[b]? = some ((Hc[ns.length+(b-L)]).rn f):=fun b hbL hb=>by
  have hd':d=false:=by
   rcases Bool.eq_false_or_eq_true d with h | h
   ·rw [hl2,hEl,h] at hb;simp at hb;omega
   ·exact h
  have h':ns.length+(b-L)<Hc.length:=by rw [hl2,hEl,hd'] at hb;simp at hb;omega
  refine ⟨hd',h',?_⟩
  rw [←hH2,List.getElem?_append_right (by rw [sa1,kb1,hL];exact hbL),sa1,kb1,hL]
  simp only [E,hd',cond_false,List.getElem?_map,List.getElem?_drop,List.getElem?_eq_getElem h',Option.map_some]
 let Γ2:=Γ.back Γ1 ns L d
 have G:∀ i,i<Hc.length→(i<ns.length∨d=false)→Γ2.nm (f i) = Γ1.nm i∧shpOf H2 (f i)=shpOf Hc i∧f i<H2.length:=fun i hi hg=>by
  by_cases h:i<ns.length
  ·rw [f1 i h]
   have hm:=List.getElem_mem h
   have hidx:idxIn ns ns[i]=i:=by
    obtain ⟨q1,q2⟩:=hci _ hm
    exact (List.getElem_inj hnd).1 q2
   refine ⟨by simp only [Γ2,Ctx.back,if_pos hm,hidx],?_,by have:=hlt _ hm;omega⟩
   simp only [shpOf,g1 _ hm,Option.map_some,Blk.rn_shp,hidx,List.getElem?_eq_getElem hi]
  ·have hd':d=false:=by rcases hg with hg | hg;exact absurd hg h;exact hg
   have hbL:L+(i-ns.length)<H2.length:=by rw [hl2,hEl,hd'];simp;omega
   have hnn:L+(i-ns.length)∉ns:=fun hm=>by have:=hlt _ hm;omega
   rw [f2 i h]
   refine ⟨?_,?_,hbL⟩
   ·simp only [Γ2,Ctx.back,if_neg hnn,hd']
    rw [if_neg (by omega),if_neg (by simp)]
    congr 1;omega
   ·obtain ⟨_,h',e⟩:=g3 _ (by omega) hbL
    have e2:ns.length+(L+(i-ns.length)-L)=i:=by omega
    simp only [shpOf,e,Option.map_some,Blk.rn_shp,List.getElem?_eq_getElem hi]
    congr 2
    simp only [e2]
 have gret:∀ c∈ret.nms,c<ns.length∨d=false:=fun c hc=>by
  cases hdd:d with
  | false=>exact .inr rfl
  | true=>
   rw [hdd] at hd
   simp only [Bool.and_eq_true,List.all_eq_true,decide_eq_true_eq] at hd
   refine .inl (Decidable.byContradiction fun h=>?_)
   have:=hd.1 (f c) (by rw [PV.rn_nms];exact List.mem_map_of_mem hc)
   rw [f2 c h] at this
   omega
 have glent:∀ i (hi:i<ns.length),∀ c∈(Hc[i]'(by omega)).nms,c<ns.length∨d=false:=fun i hi c hc=>by
  cases hdd:d with
  | false=>exact .inr rfl
  | true=>
   rw [hdd] at hd
   simp only [Bool.and_eq_true] at hd
   refine .inl (Decidable.byContradiction fun h=>?_)
   have hmem:(Hc[i]'(by omega)).rn f∈(Hc.take ns.length).map (Blk.rn f):=List.mem_map_of_mem (by rw [List.mem_take_iff_getElem];exact ⟨i,by omega,rfl⟩)
   have:=lowH_spec hd.2 _ hmem (f c) (by rw [Blk.rn_nms];exact List.mem_map_of_mem hc)
   rw [f2 c h] at this
   omega
 have hΓc:∀ i g,(Γ.lent ns).nm i=some g→∃ h:i<ns.length,Γ.nm ns[i]=some g:=fun i g h=>by
  simp only [Ctx.lent] at h
  cases hi:ns[i]? with
  | none=>rw [hi] at h;simp at h
  | some b=>
   obtain ⟨q1,q2⟩:=List.getElem?_eq_some_iff.1 hi
   rw [hi] at h
   exact ⟨q1,by rw [q2];exact h⟩
 have hfoot:=hI.foot _ _ _ _ S.inv
 have hold:∀ b g,b∉ns→Γ.nm b=some g→w'.heap[g]? = w.heap[g]?:=fun b g hb hg=>hs.frame g (S.hr.lt b g hg).2.1 (fun i hi=>by
  obtain ⟨h1,h2⟩:=hΓc i g hi
  have:=S.hr.inj _ _ g h2 hg
  exact hb (this ▸ List.getElem_mem h1)) (S.dis b g hg)
 have hst:∀ g,Γ.St g→w'.heap[g]? = w.heap[g]?:=fun g hg=>hs.frame g (S.hr.stlt g hg) (fun i hi=>by
  obtain ⟨h1,h2⟩:=hΓc i g hi
  exact (S.hr.lt _ g h2).2.2 hg) (fun hp=>(hfoot g hp).2 hg)
 have hown:∀ i g,Γ1.nm i=some g→(∃ h:i<ns.length,Γ.nm ns[i]=some g)∨w.heap.size≤g:=fun i g h=>by
  rcases hs.own i g h with ⟨_,h⟩ | h
  ·exact .inl (hΓc i g h)
  ·exact .inr h
 have hks':∀ b,b∈ns→b∉ks→fixS C (shpOf st.hp b):=fun b hb hbk=>by
  rw [←hks] at hbk
  have hbl:=hlt b hb
  rw [←fixB_iff (by omega)]
  simp only [List.mem_filter,not_and,Bool.not_eq_true'] at hbk
  simpa using hbk hb
 have hkeep:∀ b,b∈ns→fixS C (shpOf st.hp b)→Γ2.nm b = Γ.nm b∧shpOf H2 b=shpOf st.hp b∧∀ g,Γ.nm b=some g→w'.shape? g=w.shape? g:=fun b hb hfx=>by
  obtain ⟨q1,q2⟩:=hci b hb
  have e:=lent_shp (H:=st.hp) (fun b hb=>by have:=hlt b hb;omega) q1
  rw [q2] at e
  obtain ⟨k1,k2,k3⟩:=hs.keep (idxIn ns b) (by omega) (by rw [e];exact hfx)
  rw [lent_nm hb] at k1 k3
  refine ⟨by simp only [Γ2,Ctx.back,if_pos hb];exact k1,?_,k3⟩
  have e5:shpOf Hc (idxIn ns b)=some (Hc[idxIn ns b]'(by omega)).shp:=by
   simp only [shpOf]
   rw [List.getElem?_eq_getElem (by omega)]
   rfl
  rw [←e,←k2,e5]
  simp only [shpOf,g1 b hb,Option.map_some,Blk.rn_shp]
 have M:Mono Γ (shpOf st.hp) w Γ2 (shpOf H2) w' (fun c=>c<L∧c∉ks):=by
  have key:∀ c,c<L→c∉ks→Γ2.nm c = Γ.nm c∧shpOf H2 c=shpOf st.hp c∧∀ g,Γ.nm c=some g→w'.shape? g=w.shape? g:=fun c hc hck=>by
   by_cases hcn:c∈ns
   ·exact hkeep c hcn (hks' c hcn hck)
   ·refine ⟨by simp only [Γ2,Ctx.back,if_neg hcn,if_pos hc],?_,fun g hg=>shape_of_heap (hold c g hcn hg)⟩
    rw [←kb2 c]
    simp only [shpOf,g2 c hc hcn]
  exact ⟨hst,hs.sub,fun c hc=>(key c hc.1 hc.2).1,fun c hc=>(key c hc.1 hc.2).2.1,fun c g hc hg=>(key c hc.1 hc.2).2.2 g hg,rfl⟩
 have hyv2:Γ2.yv = Γ1.yv:=by have:=hs.yv;exact this.symm
 have hr2:HR Γ2 H2 w':=by
  refine ⟨fun b b' g h1 h2=>?_,fun b g h=>?_,hH1.stlt,fun b hb c hcc=>?_,fun b hb=>?_⟩
  ·simp only [Γ2,Ctx.back] at h1 h2
   have case1:∀ x y,x∈ns→Γ1.nm (idxIn ns x)=some g→y∉ns→Γ.nm y=some g→False:=fun x y hx e1 hy' e2=>by
    rcases hown _ g e1 with ⟨q1,q2⟩ | q
    ·have:=S.hr.inj _ _ g q2 e2
     exact hy' (this ▸ List.getElem_mem q1)
    ·have:=(S.hr.lt y g e2).2.1;omega
   have case2:∀ x i,Γ.nm x=some g→¬ i<ns.length→Γ1.nm i=some g→False:=fun x i e1 hi e2=>by
    rcases hown _ g e2 with ⟨q1,_⟩ | q
    ·exact hi q1
    ·have:=(S.hr.lt x g e1).2.1;omega
   split at h1
   ·rename_i hb
    split at h2
    ·rename_i hb'
     have:=hH1.inj _ _ g h1 h2
     rw [←(hci b hb).2,←(hci b' hb').2]
     simp only [this]
    ·rename_i hb'
     split at h2
     ·exact (case1 b b' hb h1 hb' h2).elim
     ·split at h2
      ·cases h2
      ·have:=hH1.inj _ _ g h1 h2
       have:=(hci b hb).1;omega
   ·rename_i hb
    split at h1
    ·rename_i hbL
     split at h2
     ·rename_i hb';exact (case1 b' b hb' h2 hb h1).elim
     ·split at h2
      ·exact S.hr.inj b b' g h1 h2
      ·split at h2
       ·cases h2
       ·exact (case2 b _ h1 (by omega) h2).elim
    ·rename_i hbL
     split at h1
     ·cases h1
     ·split at h2
      ·rename_i hb'
       have:=hH1.inj _ _ g h1 h2
       have:=(hci b' hb').1;omega
      ·split at h2
       ·exact (case2 b' _ h2 (by omega) h1).elim
       ·have:=hH1.inj _ _ g h1 h2;omega
  ·simp only [Γ2,Ctx.back] at h ⊢
   split at h
   ·rename_i hb
    have:=hH1.lt _ g h
    have:=hlt b hb
    exact ⟨by omega,(hH1.lt _ g h).2.1,(hH1.lt _ g h).2.2⟩
   ·split at h
    ·rename_i hbL
     have h1:=S.hr.lt b g h
     refine ⟨by omega,by have:=hs.size;omega,fun hs1=>?_⟩
     rcases hs.stnew g hs1 with q | q
     ·exact h1.2.2 q
     ·omega
    ·rename_i hbL
     split at h
     ·cases h
     ·rename_i hd'
      have h1:=hH1.lt _ g h
      refine ⟨?_,h1.2.1,h1.2.2⟩
      rw [hl2,hEl,if_neg hd']
      omega
  ·by_cases hbn:b∈ns
   ·have e:=g1 b hbn
    rw [List.getElem?_eq_getElem hb] at e
    simp only [Option.some.injEq] at e
    rw [e,Blk.rn_nms] at hcc
    obtain ⟨c',hc',rfl⟩:=List.mem_map.1 hcc
    have hi:=(hci b hbn).1
    exact (G c' (hH1.nms _ (by omega) c' hc') (glent _ hi c' hc')).2.2
   ·by_cases hbL:b<L
    ·have e:=g2 b hbL hbn
     rw [List.getElem?_eq_getElem hb,List.getElem?_eq_getElem (by rw [kb1,hL];exact hbL)] at e
     simp only [Option.some.injEq] at e
     rw [e] at hcc
     have:=((kb3 b (by rw [kb1,hL];exact hbL) (by omega)).1 c hcc).2
     have:=S.hr.nms b (by omega) c this
     omega
    ·obtain ⟨hd',h',e⟩:=g3 b (by omega) hb
     rw [List.getElem?_eq_getElem hb] at e
     simp only [Option.some.injEq] at e
     rw [e,Blk.rn_nms] at hcc
     obtain ⟨c',hc',rfl⟩:=List.mem_map.1 hcc
     exact (G c' (hH1.nms _ h' c' hc') (.inr hd')).2.2
  ·by_cases hbn:b∈ns
   ·have e:=g1 b hbn
    rw [List.getElem?_eq_getElem hb] at e
    simp only [Option.some.injEq] at e
    rw [e]
    have hi:=(hci b hbn).1
    refine (hH1.blk _ (by omega)).rn hyv2 (.inr fun _ h=>h) (by simp only [Γ2,Ctx.back,if_pos hbn]) (fun c' hc'=>?_)
    have:=G c' (hH1.nms _ (by omega) c' hc') (glent _ hi c' hc')
    exact ⟨this.1,this.2.1⟩
   ·by_cases hbL:b<L
    ·have e:=g2 b hbL hbn
     rw [List.getElem?_eq_getElem hb,List.getElem?_eq_getElem (by rw [kb1,hL];exact hbL)] at e
     simp only [Option.some.injEq] at e
     rw [e]
     have q:=kb3 b (by rw [kb1,hL];exact hbL) (by omega)
     refine (q.2 b (S.hr.blk b (by omega))).mono M (by simp only [Γ2,Ctx.back,if_neg hbn,if_pos hbL]) (fun g hg=>hold b g hbn hg) (fun c hc=>?_)
     have:=q.1 c hc
     exact ⟨by have:=S.hr.nms b (by omega) c this.2;omega,this.1⟩
    ·obtain ⟨hd',h',e⟩:=g3 b (by omega) hb
     rw [List.getElem?_eq_getElem hb] at e
     simp only [Option.some.injEq] at e
     rw [e]
     refine (hH1.blk _ h').rn hyv2 (.inr fun _ h=>h) ?_ (fun c' hc'=>?_)
     ·simp only [Γ2,Ctx.back,if_neg hbn,if_neg hbL,hd']
      simp
     ·have:=G c' (hH1.nms _ h' c' hc') (.inr hd')
      exact ⟨this.1,this.2.1⟩
 have hstp:Stp C Γ st.hp w Φ Γ2 H2 w' Φ1:=by
  refine ⟨hs.os,hs.tape,hs.output,hs.size,hs.sub,hs.stnew,fun b g h=>?_,hs.foot,fun g hg hng hp=>hs.frame g hg (fun i hi=>?_) hp,rfl,by omega,fun b hb hfx=>?_⟩
  ·simp only [Γ2,Ctx.back] at h
   split at h
   ·rename_i hb
    rcases hown _ g h with ⟨q1,q2⟩ | q
    ·have hh:ns[idxIn ns b]=b:=(hci b hb).2
     rw [hh] at q2
     exact .inl ⟨by have:=hlt b hb;omega,q2⟩
    ·exact .inr q
   ·split at h
    ·exact .inl ⟨by omega,h⟩
    ·split at h
     ·cases h
     ·rcases hown _ g h with ⟨q1,_⟩ | q
      ·omega
      ·exact .inr q
  ·obtain ⟨_,q2⟩:=hΓc i g hi
   exact hng _ q2
  ·by_cases hbn:b∈ns
   ·exact hkeep b hbn hfx
   ·have hbk:b∉ks:=fun h=>hbn (by rw [←hks] at h;exact (List.mem_filter.1 h).1)
    exact ⟨M.nm b ⟨by omega,hbk⟩,M.shp b ⟨by omega,hbk⟩,fun g hg=>M.hs b g ⟨by omega,hbk⟩ hg⟩
 have hsr:SR Γ2 H2 w' (killAll ks st.sl) tmps:=by
  obtain ⟨a1',a2,a3⟩:=killAll_spec (Γ:=Γ) (sh:=shpOf st.hp) (w:=w) ks st.sl
  refine ⟨by rw [a1'];exact S.sr.size,fun c hc=>by have:=S.sr.nms c (a2 c hc).2;omega,fun i hi=>?_⟩
  have hi':i<st.sl.length:=by rw [a1'] at hi;exact hi
  obtain ⟨U,e,q⟩:=S.sr.slot i hi'
  refine ⟨U,e,(a3 i hi hi' U q).mono M fun c hc=>?_⟩
  have hm:=a2 c (mem_nmsL.2 ⟨i,hi,hc⟩)
  exact ⟨by have:=S.sr.nms c hm.2;omega,hm.1⟩
 refine ⟨_,_,Γ2,Φ1,hk,hstp,⟨hr2,hsr,S.g.mono hst hs.sub,hi1,fun b g h=>?_⟩,?_,fun c hc=>?_⟩
 ·intro hp
  simp only [Γ2,Ctx.back] at h
  split at h
  ·exact hd1 _ g h hp
  ·split at h
   ·rcases hs.foot g hp with q | q
    ·exact S.dis b g h q
    ·have:=(S.hr.lt b g h).2.1;omega
   ·split at h
    ·cases h
    ·exact hd1 _ g h hp
 ·exact hv.rn hyv2 (.inr fun _ h=>h) (fun c hc=>by
   have:=G c (hvn c hc) (gret c hc)
   exact ⟨this.1,this.2.1⟩)
 ·rw [PV.rn_nms] at hc
  obtain ⟨c',hc',rfl⟩:=List.mem_map.1 hc
  exact (G c' (hvn c' hc') (gret c' hc')).2.2
end
end Go.Proofs.YtcfingekgbbclaaGreatDoor.E
namespace Go.Proofs.YtcfingekgbbclaaGreatDoor.E
open Go
set_option linter.unusedVariables false
section
variable {σ R : Type} {r : R} {C : Cfg} {I : σ → (Nat → Prop) → (Nat → Prop) → World → Prop} {Γ : Ctx} {Φ : Nat → Prop} {st : St σ} {a : Act} {w : World} {cl : CallT} {yh : Yh σ} {yv : Value} {o : Oper}
structure Ask (C:Cfg) (I:σ→(Nat→Prop)→(Nat→Prop)→World→Prop) (cl:CallT) (yh:Yh σ) (yv:Value):Prop where
 hI:HI I
 hC:CalleeOK C cl
 hX:XOK C
 hy:YdOK C.P I yh yv
theorem callF_sound {g:Nat} {args:List PV} {Vs tmps:Array Value} {k:PV→St σ→Option R} (A:Ask C I cl yh yv) (hyv:Γ.yv=yv) (h:callF C cl yh g args st k=some r) (S:SI C I Γ Φ st tmps w) (hc:CR Γ (shpOf st.hp) w args Vs) (hn:∀ c∈nmsL args,c<st.hp.length) :
  UponOK C.P ((callFunc g Vs).run C.P w) (KRes C I Γ Φ st tmps w k r):=by
 unfold callF at h
 split at h
 ·rename_i pf hX
  split at h
  ·rename_i hna
   obtain ⟨ret,Hc,hpf,h⟩:=runTr_some h
   have hpf:trRes (pf (snapL st.hp args))=some (ret,Hc):=by
    cases hx:C.xp g with
    | true=>rw [hx] at hpf;exact (plainTr_res hpf).1
    | false=>rw [hx] at hpf;exact hpf
   obtain ⟨h1,h2⟩:=need_some h
   exact callX_sound A.hI A.hX S hc hX hpf (List.isEmpty_iff.1 hna) (by simpa only [Bool.or_eq_true,Bool.not_eq_true',Bool.and_eq_true] using h1) h2
  ·cases h
 ·dsimp only at h
  split at h
  ·rename_i hl
   split at h
   ·rename_i hcl
    have key:CR Γ (shpOf st.hp) w (cond (C.lend g) args (snapL st.hp args)) Vs∧∀ c∈nmsL (cond (C.lend g) args (snapL st.hp args)),c<st.hp.length:=by
     cases hlg:C.lend g with
     | true=>exact ⟨hc,hn⟩
     | false=>
      rw [hlg] at hl
      have hr:rowsL args=false:=by simpa using hl
      obtain ⟨q1,q2⟩:=hc.snap_plain hr
      exact ⟨q1,fun c hc=>hn c (q2 c hc)⟩
    split at h
    ·rename_i pf hY
     obtain ⟨ret,Hc,hpf,h⟩:=runTr_some h
     refine callL_sound (s':=st.s) A.hI A.hX.y A.hy hyv S key.1 key.2 hcl ?_ h
     simp only [clY,hY]
     rw [show trRes (pf _ (lentH st.hp _))=some (ret,Hc) from hpf]
    ·split at h
     ·rename_i ret Hc s' hcall
      exact callL_sound A.hI A.hC A.hy hyv S key.1 key.2 hcl hcall h
     ·cases h
   ·cases h
  ·split at h
   ·rename_i hna
    split at h
    ·rename_i ret Hc u hcall
     split at h
     ·rename_i hret
      obtain ⟨h1,h2⟩:=need_some h
      exact callS_sound A.hI A.hC S hc (List.isEmpty_iff.1 hna) hcall hret h1 h2
     ·cases h
    ·cases h
   ·cases h
theorem CR.append {sh:Nat→Option Shp} {x y:List PV} {X Y:Array Value} (hx:CR Γ sh w x X) (hy:CR Γ sh w y Y):CR Γ sh w (x++y) (X++Y):=by
 refine ⟨by rw [Array.size_append,List.length_append,hx.1,hy.1],fun j hj=>?_⟩
 rw [List.length_append] at hj
 by_cases h:j<x.length
 ·obtain ⟨U,e,k⟩:=hx.2 j h
  refine ⟨U,by rw [Array.getElem?_append_left (by rw [hx.1];exact h)];exact e,?_⟩
  rw [List.getElem_append_left h];exact k
 ·obtain ⟨U,e,k⟩:=hy.2 (j-x.length) (by omega)
  refine ⟨U,by rw [Array.getElem?_append_right (by rw [hx.1];omega),hx.1];exact e,?_⟩
  rw [List.getElem_append_right (by omega)];exact k
theorem nmsL_append (x y:List PV):nmsL (x++y)=nmsL x++nmsL y:=by
 induction x with
 | nil=>rfl
 | cons a x ih=>simp [nmsL,ih]
theorem VP.inv_fn' {sh:Nat→Option Shp} {V:Value} {f:Fn} {x y:List SV} (h:VP Γ sh w (.s (.fn f x y)) V):∃ A B,V = .func f A B∧CR Γ sh w (x.map .s) A∧CR Γ sh w (y.map .s) B:=by
 have hs:=h.inv_s
 cases hs with
 | fn _ _ _ A B As Bs hf hA hB ha hb hx hy=>
  refine ⟨A,B,rfl,⟨by simpa using hA,fun j hj=>?_⟩,⟨by simpa using hB,fun j hj=>?_⟩⟩
  ·have hj':j<x.length:=by simpa using hj
   exact ⟨As j,ha j hj',by rw [List.getElem_map];exact .s _ _ (hx j hj')⟩
  ·have hj':j<y.length:=by simpa using hj
   exact ⟨Bs j,hb j hj',by rw [List.getElem_map];exact .s _ _ (hy j hj')⟩
theorem VP.inv_fnr' {sh:Nat→Option Shp} {V:Value} {f:Fn} {x y:List PV} (h:VP Γ sh w (.fnr f x y) V):∃ A B,V = .func f A B∧CR Γ sh w x A∧CR Γ sh w y B:=by
 cases h with
 | fnr _ _ _ A B As Bs hf hA hB ha hb hx hy=>exact ⟨A,B,rfl,⟨hA,fun j hj=>⟨As j,ha j hj,hx j hj⟩⟩,⟨hB,fun j hj=>⟨Bs j,hb j hj,hy j hj⟩⟩⟩
theorem svArgs_CR {sh:Nat→Option Shp}:∀ {args:List PV} {Vs:List Value},svArgs args=true→args.length=Vs.length→(∀ j (h:j<args.length),∃ U,Vs[j]? = some U∧VP Γ sh w (args[j]) U)→∀ j (h:j<args.length),∃ U,Vs[j]? = some U∧VP Γ (fun _=>none) w (args[j]) U
 | [],Vs,_,_,_=>fun j h=>by simp at h
 | v::r,[],_,hl,_=>by simp at hl
 | v::r,U::Us,hs,hl,hc=>by
  have h0:VP Γ sh w v U:=by
   obtain ⟨U',e,k⟩:=hc 0 (by simp)
   simp at e;subst e;simpa using k
  have hr:∀ j (h:j<r.length),∃ U,Us[j]? = some U∧VP Γ sh w (r[j]) U:=fun j hj=>by
   obtain ⟨U',e,k⟩:=hc (j+1) (by simpa using hj)
   exact ⟨U',by simpa using e,by simpa using k⟩
  have key:svArgs r=true∧VP Γ (fun _=>none) w v U:=by
   unfold svArgs at hs
   split at hs
   ·rename_i he;cases he
   ·rename_i he;cases he
    exact ⟨hs,.s _ _ h0.inv_s⟩
   ·rename_i l r' he
    cases he
    simp only [Bool.and_eq_true,Option.isSome_iff_exists] at hs
    obtain ⟨⟨vs,hvs⟩,hs⟩:=hs
    refine ⟨hs,?_⟩
    obtain ⟨A,rfl,hA,hcA⟩:=h0.inv_agg
    refine VP.mk_agg hA fun j hj=>?_
    obtain ⟨U,e,k⟩:=hcA j hj
    refine ⟨U,e,?_⟩
    have:(l[j]).nms=[]:=by
     have:∀ (l:List PV) vs,svs? l=some vs→∀ v∈l,v.nms=[]:=by
      intro l
      induction l with
      | nil=>intro _ _ v hv;simp at hv
      | cons x l ih=>
       intro vs h v hv
       simp only [svs?] at h
       split at h
       ·rename_i a b ha hb
        rcases List.mem_cons.1 hv with rfl | hv
        ·unfold PV.sv? at ha
         split at ha
         ·rfl
         ·rfl
         ·cases ha
        ·exact ih b hb v hv
       ·cases h
     exact this l vs hvs _ (List.getElem_mem hj)
    exact k.mono (Γ':=Γ) (ok:=fun _=>False) ⟨fun _ _=>rfl,fun _ h=>h,fun _ h=>h.elim,fun _ h=>h.elim,fun _ _ h=>h.elim,rfl⟩ (by rw [this];simp)
   ·cases hs
  intro j hj
  cases j with
  | zero=>exact ⟨U,rfl,by simpa using key.2⟩
  | succ j=>
   obtain ⟨U',e,k⟩:=svArgs_CR key.1 (by simpa using hl) hr j (by simpa using hj)
   exact ⟨U',by simpa using e,by simpa using k⟩
theorem callV_sound {f:PV} {FV:Value} {args:List PV} {Vs tmps:Array Value} {k:PV→St σ→Option R} (A:Ask C I cl yh yv) (hyv:Γ.yv=yv) (h:callV C cl yh f args st k=some r) (S:SI C I Γ Φ st tmps w) (hf:VP Γ (shpOf st.hp) w f FV) (hfn:∀ c∈f.nms,c<st.hp.length)
  (hc:CR Γ (shpOf st.hp) w args Vs) (hn:∀ c∈nmsL args,c<st.hp.length) :
  UponOK C.P ((do let d ←Deferred.ofValue FV Vs;invoke d.target d.args).run C.P w) (KRes C I Γ Φ st tmps w k r):=by
 unfold callV at h
 split at h
 ·rename_i g first caps
  obtain ⟨F,B,rfl,h1,h2⟩:=hf.inv_fn'
  have:=callF_sound A hyv h S ((h1.append hc).append h2) (fun c hc=>by
   rw [nmsL_append,nmsL_append,nmsL_s,nmsL_s] at hc
   simp only [List.nil_append,List.append_nil] at hc
   exact hn c hc)
  simpa [Deferred.ofValue,invoke] using this
 ·rename_i g first caps
  obtain ⟨F,B,rfl,h1,h2⟩:=hf.inv_fnr'
  have:=callF_sound A hyv h S ((h1.append hc).append h2) (fun c hc=>by
   rw [nmsL_append,nmsL_append] at hc
   simp only [List.mem_append] at hc
   simp only [PV.nms,List.mem_append] at hfn
   rcases hc with (hc | hc) | hc
   ·exact hfn c (.inl hc)
   ·exact hn c hc
   ·exact hfn c (.inr hc))
  simpa [Deferred.ofValue,invoke] using this
 ·split at h
  ·rename_i hsv
   unfold ydK at h
   split at h
   ·rename_i b s' hyb
    have hFV:FV=yv:=by
     cases hf
     exact hyv
    subst hFV
    refine (A.hy args st.s b s' hyb hsv Γ Φ w Vs S.inv S.hr.stlt ⟨hc.1,?_⟩).mono ?_
    ·intro j hj
     obtain ⟨U,e,q⟩:=svArgs_CR (Vs:=Vs.toList) hsv (by simpa using hc.1.symm) (fun j hj=>by obtain ⟨U,e,k⟩:=hc.2 j hj;exact ⟨U,by simpa using e,k⟩) j hj
     exact ⟨U,by simpa using e,q⟩
    ·rintro V w' ⟨rfl,St',Φ',hi,q1,q2,q3,q4,q5,q6,q7,q8,q9⟩
     have hfoot:=A.hI.foot _ _ _ _ S.inv
     have hold:∀ b g,Γ.nm b=some g→w'.heap[g]? = w.heap[g]?:=fun b g hg=>q4 g (S.hr.lt b g hg).2.1 (S.dis b g hg)
     have hst:∀ g,Γ.St g→w'.heap[g]? = w.heap[g]?:=fun g hg=>q4 g (S.hr.stlt g hg) (fun hp=>(hfoot g hp).2 hg)
     let Γ2:Ctx:={ Γ with St:=St' }
     have M:Mono Γ (shpOf st.hp) w Γ2 (shpOf st.hp) w' (fun _=>True):=⟨hst,q1,fun _ _=>rfl,fun _ _=>rfl,fun b g _ hg=>shape_of_heap (hold b g hg),rfl⟩
     have hr2:HR Γ2 st.hp w':=by
      refine ⟨S.hr.inj,fun b g hg=>?_,q9,S.hr.nms,fun b hb=>(S.hr.blk b hb).mono M rfl (fun g hg=>hold b g hg) (fun _ _=>trivial)⟩
      have:=S.hr.lt b g hg
      refine ⟨this.1,by omega,fun h=>?_⟩
      rcases q2 g h with h | h
      ·exact this.2.2 h
      ·omega
     refine ⟨_,_,Γ2,Φ',h,⟨q6,q7,q8,q5,q1,q2,fun b g hg=>.inl ⟨(S.hr.lt b g hg).1,hg⟩,q3,fun g hg _ hp=>q4 g hg hp,rfl,Nat.le_refl _,fun b hb _=>⟨rfl,rfl,fun g hg=>shape_of_heap (hold b g hg)⟩⟩,
      ⟨hr2,S.sr.mono M (fun c hc=>⟨trivial,S.sr.nms c hc⟩),S.g.mono hst q1,hi,fun b g hg hp=>?_⟩,.bool _,by simp [PV.nms]⟩
     rcases q3 g hp with h | h
     ·exact S.dis b g hg h
     ·have:=(S.hr.lt b g hg).2.1;omega
   ·cases h
  ·cases h
 ·cases h
def Nxt (C:Cfg) (I:σ→(Nat→Prop)→(Nat→Prop)→World→Prop) (Γ:Ctx) (Φ:Nat→Prop) (H:List Blk) (w:World) (ds:List Deferred) (k:St σ→Option R) (r:R) (next:Act→World→Prop):Prop:=
 ∀ st' a' w' Γ' Φ',k st'=some r→Stp C Γ H w Φ Γ' st'.hp w' Φ'→SI C I Γ' Φ' st' a'.tmps w'→a'.defers=ds→next a' w'
theorem put_defers (a:Act) (d:Option Tmp) (v:Value):(a.put d v).defers=a.defers:=by cases d<;>rfl
theorem opK_wp {ro:Option Nat} {n:Nat} {k:St σ→Option R} {next:Act→World→Prop} {Q:Exit→Act→World→Prop} (A:Ask C I cl yh yv) (hyv:Γ.yv=yv) (h:opK C cl yh o st k=some r) (S:SI C I Γ Φ st a.tmps w) (hN:Nxt C I Γ Φ st.hp w a.defers k r next) :
  o.wpIn (wideAt ro) n C.P a w next Q:=by
 refine ⟨fun _ _=>trivial,?_⟩
 have hnd:∀ c,o.op≠.defer c:=fun c e=>by simp [opK,e] at h
 rw [Oper.semAt_eq _ _ _ hnd]
 by_cases hq:callOp o.op=true
 ·obtain ⟨c,hop⟩:∃ c,o.op = .call c:=by
   unfold callOp at hq
   split at hq
   ·exact ⟨_,‹_›⟩
   ·cases hq
  have h':=h
  simp only [opK,hop] at h'
  split at h'
  ·rename_i b hb;rw [hop] at hq;simp [callOp,hb] at hq
  ·rename_i f hf
   obtain ⟨hc,hn⟩:=S.list c.args
   have:=callV_sound A hyv h' S (S.opnd f).1 (S.opnd f).2 hc hn
   have he:execOp a.eval o=(do let d ←Deferred.ofValue (a.eval f) (c.args.map a.eval);invoke d.target d.args):=by simp only [execOp,hop,resolve,hf]
   rw [he]
   refine this ro n o a next Q ?_
   rintro V w' ⟨v,st',Γ',Φ',k1,k2,k3,k4,k5⟩
   exact hN _ (a.put o.dst V) w' Γ' Φ' k1 k2 ⟨k3.hr,k3.sr.put (ds:=a.defers) o k4 k5,k3.g,k3.inv,k3.dis⟩ (put_defers _ _ _)
  ·cases h'
 ·obtain ⟨V,w',Γ',st',h1,h2,h3,h4⟩:=opK_loud A.hI (by simpa using hq) h S
  have hn:=hN st' (a.put o.dst V) w' Γ' Φ h1 h4 h3 (put_defers _ _ _)
  rcases h2 with h2 | ⟨rfl,h2⟩
  ·rw [h2];exact hn
  ·rw [h2];exact hn
theorem SR.set {Γ:Ctx} {H:List Blk} {sl:List PV} {tmps:Array Value} (h:SR Γ H w sl tmps) (g:Nat) {v:PV} (hv:∀ V,tmps[g]? = some V→VP Γ (shpOf H) w v V) (hn:∀ c∈v.nms,c<H.length):SR Γ H w (sl.set g v) tmps:=by
 refine ⟨by simpa using h.size,fun c hc=>?_,fun i hi=>?_⟩
 ·obtain ⟨j,hj,hc⟩:=mem_nmsL.1 hc
  rw [List.getElem_set] at hc
  split at hc
  ·exact hn c hc
  ·exact h.nms c (mem_nmsL.2 ⟨j,by simpa using hj,hc⟩)
 ·have hi':i<sl.length:=by simpa using hi
  obtain ⟨U,e1,e2⟩:=h.slot i hi'
  refine ⟨U,e1,?_⟩
  rw [List.getElem_set]
  split
  ·rename_i e;subst e;exact hv U e1
  ·exact e2
theorem opsK_wp {ro:Option Nat} {n:Nat} {Q:Exit→Act→World→Prop} {all:Array Oper} (A:Ask C I cl yh yv):∀ (rest:List Oper) {Γ:Ctx} {Φ:Nat→Prop} {st:St σ} {a:Act} {w:World} {k:St σ→Option R},Γ.yv=yv→opsK C cl yh all rest st k=some r→SI C I Γ Φ st a.tmps w→
  Nxt C I Γ Φ st.hp w a.defers k r (fun a' w'=>Q .normal a' w')→wpListIn (wideAt ro) n C.P all Q rest a w
 | [],Γ,Φ,st,a,w,k,hyv,h,S,hN=>hN st a w Γ Φ h (Stp.refl S.hr) S rfl
 | o::rest,Γ,Φ,st,a,w,k,hyv,h,S,hN=>by
  have run:∀ {st:St σ},SI C I Γ Φ st a.tmps w→Nxt C I Γ Φ st.hp w a.defers k r (fun a' w'=>Q .normal a' w')→opK C cl yh o st (fun st'=>opsK C cl yh all rest st' k)=some r→o.wpIn (wideAt ro) n C.P a w (wpListIn (wideAt ro) n C.P all Q rest) Q:=fun S hN h=>
   opK_wp A hyv h S fun st' a' w' Γ' Φ' h1 h2 h3 h4=>opsK_wp A rest (h2.yv.trans hyv) h1 h3 fun st2 a2 w2 Γ2 Φ2 k1 k2 k3 k4=>hN st2 a2 w2 Γ2 Φ2 k1 (h2.trans k2) k3 (k4.trans h4)
  have skip:∀ {st:St σ},SI C I Γ Φ st a.tmps w→Nxt C I Γ Φ st.hp w a.defers k r (fun a' w'=>Q .normal a' w')→opsK C cl yh all rest { st with sl:=putS o.dst (.tup []) st.sl } k=some r→wpListIn (wideAt ro) n C.P all Q rest (a.put o.dst undef) w:=fun {st} S hN h=>
   opsK_wp A rest (st:={ st with sl:=putS o.dst (.tup []) st.sl }) hyv h (S.put (o:=o) undef_VP (by simp [PV.nms,nmsL])) (by rw [put_defers];exact hN)
  simp only [wpListIn]
  simp only [opsK] at h
  split at h
  ·rename_i hg
   have hw:Region.wanted o (yielded all a.tmps)=true:=by simp [Region.wanted,hg]
   rw [if_pos hw]
   exact run S hN h
  ·rename_i j want hg
   split at h
   ·rename_i g hjg
    have hyd1:∀ b,a.tmps[g]? = some (.bool b)→yielded all a.tmps j=some b:=fun b e=>by simp [yielded,hjg,e]
    have hyd0:(∀ b,a.tmps[g]?≠some (.bool b))→yielded all a.tmps j=none:=fun hne=>by
     simp only [yielded,hjg,Option.bind_some]
    have hslot:∀ v,st.sl.getD g (.tup [])=v→∀ V,a.tmps[g]? = some V→VP Γ (shpOf st.hp) w v V:=fun v hv V hV=>by
     have hlt:g<st.sl.length:=by rw [←S.sr.size];exact (Array.getElem?_eq_some_iff.1 hV).1
     obtain ⟨U,e1,e2⟩:=S.sr.slot g hlt
     rw [e1] at hV
     simp only [Option.some.injEq] at hV
     subst hV
     rw [getD_lt hlt] at hv
     rw [←hv];exact e2
    split at h
    ·rename_i b hb
     have hlt:g<st.sl.length:=Decidable.byContradiction fun hge=>by
      rw [List.getD_eq_getElem?_getD,List.getElem?_eq_none (Nat.le_of_not_lt hge)] at hb
      cases hb
     obtain ⟨U,e1,e2⟩:=S.sr.slot g hlt
     have hU:=(hslot _ hb U e1).inv_bool
     subst hU
     have hyd':yielded all a.tmps j=some b:=hyd1 b e1
     have S':SI C I Γ Φ { st with sl:=st.sl.set g (.s (.bool b)) } a.tmps w:=⟨S.hr,S.sr.set g (hslot _ hb) (by simp [PV.nms]),S.g,S.inv,S.dis⟩
     have hsp:(if (b==want)=true then opK C cl yh o { st with sl:=st.sl.set g (.s (.bool b)) } (fun st'=>opsK C cl yh all rest st' k) else opsK C cl yh all rest { st with sl:=putS o.dst (.tup []) (st.sl.set g (.s (.bool b))) } k)=some r:=by
      cases b<;>exact h
     by_cases hbw:b=want
     ·rw [if_pos (by simpa using hbw)] at hsp
      rw [if_pos (by simp [Region.wanted,hg,hyd',hbw])]
      exact run S' hN hsp
     ·rw [if_neg (by simpa using hbw)] at hsp
      rw [if_neg (by simp [Region.wanted,hg,hyd',hbw])]
      exact ⟨fun _ _=>trivial,skip S' hN hsp⟩
    ·rename_i hb
     have hyd':yielded all a.tmps j=none:=hyd0 fun b hbb=>by
      obtain ⟨B,e,_⟩:=(hslot _ hb _ hbb).inv_tup
      cases e
     rw [if_neg (by simp [Region.wanted,hg,hyd'])]
     exact ⟨fun _ _=>trivial,skip S hN h⟩
    ·cases h
   ·cases h
end
end Go.Proofs.YtcfingekgbbclaaGreatDoor.E
namespace Go.Proofs.YtcfingekgbbclaaGreatDoor.E
open Go
set_option linter.unusedVariables false
section quiet
variable {F : Fence} {n : Nat} {P : Program} {ops : Array Oper} {md : Region.Mode} {K : World → Prop}
theorem wpIn_loopN {c:Code} {Q:Exit→Act→World→Prop} {a:Act} {w:World} (J:Nat→Act→World→Prop) (N:Nat) (h₀:J N a w)
  (round:∀ m a w,J m a w→c.wpIn F n P (Exit.then (fun a' w'=>∃ m',m'<m∧J m' a' w') Q) a w):(Code.loop c).wpIn F n P Q a w:=by
 intro b k cs hro hb hr
 have key:∀ j a w,J j a w→∃ e a' w',Q e a' w'∧ArrivesIn (Machine.fenced P F) P (lone (b.atR a (.code c::.inLoop c::k)) cs w) b k cs e a' w':=by
  intro j
  induction j using Nat.strongRecOn with
  | _ j ih=>
   intro a w hI
   obtain ⟨e,a₁,w₁,hq,harr⟩:=round j a w hI b (.inLoop c::k) cs hro hb hr
   cases e with
   | normal=>
    obtain ⟨m,hlt,hI₁⟩:=hq
    obtain ⟨e₂,a₂,w₂,hq₂,harr₂⟩:=ih m hlt a₁ w₁ hI₁
    exact ⟨e₂,a₂,w₂,hq₂,.of_steps (StepsIn.trans harr (.one (fenced_calm hb hr rfl) stepR_inLoop)) harr₂⟩
   | exit id=>exact ⟨_,a₁,w₁,hq,.pass (x:=.inLoop c) rfl (fun _ _=>.inl (by simp)) harr⟩
   | goto l=>exact ⟨_,a₁,w₁,hq,.pass (x:=.inLoop c) rfl (fun _ _=>.inl (by simp)) harr⟩
   | ret=>exact ⟨_,a₁,w₁,hq,.pass (x:=.inLoop c) rfl (fun _ _=>.inl (by simp)) harr⟩
   | panic ch=>exact ⟨_,a₁,w₁,hq,.pass (x:=.inLoop c) rfl (fun _ _=>.inl (by simp)) harr⟩
   | outgrown=>exact ⟨_,a₁,w₁,hq,.pass (x:=.inLoop c) rfl (fun _ _=>.inl (by simp)) harr⟩
 obtain ⟨e,a',w',hq,harr⟩:=key N a w h₀
 exact ⟨e,a',w',hq,.of_steps (.one (fenced_calm hb hr rfl) stepR_loop) harr⟩
theorem stepR_scope {b:Frame} {a:Act} {k:List Item} {cs:List Frame} {w:World} {c:Code}:step P (lone (b.atR a (.code (.scope c)::k)) cs w) = .next (lone (b.atR a (.code c::.inScope c::k)) cs w):=
 step_lone_go (by simp [stepG,stepG.exec,Frame.atR])
theorem stepR_inScope {b:Frame} {a:Act} {k:List Item} {cs:List Frame} {w:World} {c:Code}:step P (lone (b.atR a (.inScope c::k)) cs w) = .next (lone (b.atR a k) cs w):=
 step_lone_go (by simp [stepG,stepG.exec,Frame.atR])
theorem wpIn_scopeN {c:Code} {Q:Exit→Act→World→Prop} {a:Act} {w:World} (h:c.wpIn F n P (fun e a w=>(∀ l,e≠.goto l)∧Q e a w) a w):(Code.scope c).wpIn F n P Q a w:=by
 intro b k cs hro hb hr
 have h0:(lone (b.atR a (.code (.scope c)::k)) cs w).fenced P F:=fenced_calm hb hr rfl
 obtain ⟨e,a₁,w₁,⟨hg,hq⟩,harr⟩:=h b (.inScope c::k) cs hro hb hr
 cases e with
 | normal=>exact ⟨.normal,a₁,w₁,hq,.head h0 stepR_scope (StepsIn.trans harr (.one (fenced_calm hb hr rfl) stepR_inScope))⟩
 | exit id=>
  have hx:exitTo id (.inScope c::k)=exitTo id k:=by simp [exitTo]
  exact ⟨.exit id,a₁,w₁,hq,fun k' hk=>.head h0 stepR_scope (harr.1 k' (by rw [hx];exact hk)),
   fun hr' hk=>let ⟨k₁,h1,h2⟩:=harr.2 hr' (by rw [hx];exact hk);⟨k₁,h1,.head h0 stepR_scope h2⟩⟩
 | goto l=>exact absurd rfl (hg l)
 | ret=>exact ⟨_,a₁,w₁,hq,.of_steps (.one h0 stepR_scope) harr⟩
 | panic ch=>exact ⟨_,a₁,w₁,hq,.of_steps (.one h0 stepR_scope) harr⟩
 | outgrown=>exact ⟨_,a₁,w₁,hq,.of_steps (.one h0 stepR_scope) harr⟩
end quiet
section
variable {σ R : Type} {r : R} {C : Cfg} {I : σ → (Nat → Prop) → (Nat → Prop) → World → Prop} {Γ : Ctx} {Φ : Nat → Prop} {st : St σ} {a : Act} {w : World} {cl : CallT} {yh : Yh σ} {yv : Value} {o : Oper}
theorem SI.like (hI:HI I) (S:SI C I Γ Φ st a.tmps w) {w':World} (h:Like w w'):SI C I Γ Φ st a.tmps w'∧Stp C Γ st.hp w Φ Γ st.hp w' Φ:=
 S.wide hI (St':=Γ.St) h.1.1 h.1.2 (fun _ h=>h) (fun _ h=>.inl h) (fun g hg=>Nat.lt_of_lt_of_le (S.hr.stlt g hg) h.1.2) h.2.1 h.2.2.1 h.2.2.2
def detV1:PV→Value
 | .s (.bool b)=>.bool b
 | .s (.int k n)=>.int k n
 | .s (.str l)=>.string ⟨l.toArray⟩
 | _=>undef
def detV:PV→Value
 | .tup l=>.tuple (l.map detV1).toArray
 | v=>detV1 v
theorem det1_inv {Γ:Ctx} {sh:Nat→Option Shp} {w:World} {v:PV} {V:Value} (h:VP Γ sh w v V) (hd:v.det1=true):V=detV1 v:=by
 cases h with
 | s x V hx=>
  cases hx<;>simp [PV.det1,SV.det] at hd<;>simp [detV1]
 | _=>simp [PV.det1] at hd
theorem det_inv {Γ:Ctx} {sh:Nat→Option Shp} {w:World} {v:PV} {V:Value} (h:VP Γ sh w v V) (hd:v.det=true):V=detV v:=by
 cases h with
 | s x V hx=>exact det1_inv (sh:=sh) (.s x V hx) hd
 | tup l A As hA ha hl=>
  simp only [PV.det,List.all_eq_true] at hd
  simp only [detV]
  congr 1
  apply Array.ext
  ·simp [hA]
  ·intro j h1 h2
   have hj:j<l.length:=by rw [←hA];exact h1
   have e:=ha j hj
   rw [Array.getElem?_eq_getElem h1] at e
   simp only [Option.some.injEq] at e
   simp only [List.getElem_toArray,List.getElem_map]
   rw [e]
   exact det1_inv (hl j hj) (hd _ (List.getElem_mem hj))
 | _=>simp [PV.det] at hd
theorem det1_VP {Γ:Ctx} {sh:Nat→Option Shp} {w:World} {v:PV} (hd:v.det1=true):VP Γ sh w v (detV1 v)∧v.nms=[]:=by
 cases v with
 | s x=>
  cases x<;>simp [PV.det1,SV.det] at hd
  ·exact ⟨.s _ _ (.bool _),rfl⟩
  ·exact ⟨.s _ _ (.int _ _),rfl⟩
  ·rename_i l
   have:=VS.str (St:=Γ.St) (w:=w) (⟨l.toArray⟩:ByteArray)
   simp only at this
   exact ⟨.s _ _ this,rfl⟩
 | _=>simp [PV.det1] at hd
theorem det_VP {Γ:Ctx} {sh:Nat→Option Shp} {w:World} {v:PV} (hd:v.det=true):VP Γ sh w v (detV v)∧v.nms=[]:=by
 cases v with
 | s x=>exact det1_VP (v:=.s x) hd
 | tup l=>
  simp only [PV.det,List.all_eq_true] at hd
  refine ⟨VP.mk_tup (by simp) fun j hj=>⟨detV1 (l[j]),by simp [hj],(det1_VP (hd _ (List.getElem_mem hj))).1⟩,?_⟩
  simp only [PV.nms]
  rw [List.eq_nil_iff_forall_not_mem]
  intro c hc
  obtain ⟨j,hj,hc⟩:=mem_nmsL.1 hc
  rw [(det1_VP (Γ:=Γ) (sh:=sh) (w:=w) (hd _ (List.getElem_mem hj))).2] at hc
  simp at hc
 | _=>simp [PV.det] at hd
theorem det_rn {v:PV} (hd:v.det=true) (f:Nat→Nat):v.rn f=v:=by
 cases v with
 | s x=>rfl
 | tup l=>
  simp only [PV.det,List.all_eq_true] at hd
  simp only [PV.rn]
  congr 1
  induction l with
  | nil=>rfl
  | cons a r ih=>
   simp only [rnL]
   have ha:=hd a (by simp)
   have:a.rn f=a:=by cases a<;>simp [PV.det1] at ha<;>rfl
   rw [this,ih (fun x hx=>hd x (by simp [hx]))]
 | _=>simp [PV.det] at hd
theorem callFunc_enterB {P:Program} {g:Nat} {Vs:Array Value} {w:World} (h:enterB P g=true):(callFunc g Vs).run P w = .ok (.enter g Vs) w:=by
 unfold enterB at h
 split at h
 ·rename_i fn hf
  simp only [Bool.and_eq_true,Bool.not_eq_true',Option.isSome_iff_exists] at h
  obtain ⟨⟨c,hb⟩,hn⟩:=h
  have hn':¬ fn.name = "runtime.NumGoroutine":=by simpa using hn
  simp [callFunc,hf,hb,hn',Result.andThen]
 ·cases h
theorem uponIn_calls {P:Program} {ro:Option Nat} {n f:Nat} {Vs:Array Value} {w:World} {R:Value→World→Prop} (hrun:(callFunc f Vs).run P w = .ok (.enter f Vs) w) (h:UponOK P ((callFunc f Vs).run P w) R):CallsIn (wideAt ro) (n-1) P f Vs w fun e w'=>∃ V,e = .returned V∧R V w':=by
 rw [hrun] at h
 have:=h ro n { op:=.move (.const undef),dst:=some 0,guard:=none,type:=0,after:=#[],pos:=default } { tmps:=#[undef],defers:=[] } (fun a' w'=>∃ V,a'.tmps[0]? = some V∧R V w') (fun _ _ _=>False) (fun V w' hR=>⟨V,by simp [Act.put],hR⟩)
 rw [Oper.uponIn_enter] at this
 refine this.2.mono fun e w' he=>?_
 cases e with
 | returned v=>
  obtain ⟨V,e1,e2⟩:=he
  simp [Act.put] at e1
  subst e1
  exact ⟨_,rfl,e2⟩
 | panicked c=>exact he.elim
 | outgrown=>obtain ⟨_,_,h⟩:=he;exact h.elim
theorem opX_quiet {ro:Option Nat} {n:Nat} {k:St σ→Option R} (hI:HI I) (hX:XOK C) (hq:quietCall C o.op=true) (h:opK C cl yh o st k=some r) (S:SI C I Γ Φ st a.tmps w) :
  ∃ V st',k st'=some r∧(∀ w',Like w w'→o.quietAtIn (wideAt ro) n C.P a (Like w') w' V)∧SI C I Γ Φ st' (a.put o.dst V).tmps w∧Stp C Γ st.hp w noΦ Γ st'.hp w noΦ:=by
 obtain ⟨c,hop⟩:∃ c,o.op = .call c:=by
  unfold quietCall at hq
  split at hq
  ·exact ⟨_,‹_›⟩
  ·cases hq
 rw [hop] at hq
 simp only [quietCall] at hq
 split at hq
 ·rename_i g hcal
  simp only [Bool.and_eq_true,Option.isSome_iff_exists] at hq
  obtain ⟨⟨hxp,pf,hpfx⟩,hent⟩:=hq
  simp only [opK,hop,hcal,opnd,callV,callF,hpfx,hxp,cond_true,List.map_nil,List.nil_append,List.append_nil] at h
  split at h
  ·rename_i hna
   obtain ⟨ret,Hc,hpf,h⟩:=runTr_some h
   obtain ⟨hpf,hdet,rfl⟩:=plainTr_res hpf
   obtain ⟨h1,h2⟩:=need_some h
   simp only [List.map_nil,List.append_nil,det_rn hdet] at h2
   have hv:=det_VP (Γ:=Γ) (sh:=shpOf st.hp) (w:=w) hdet
   refine ⟨detV ret,_,h2,fun w' hw'=>?_,S.put hv.1 (by rw [hv.2];simp),Stp.refl S.hr⟩
   obtain ⟨S',_⟩:=S.like hI hw'
   obtain ⟨hc,hn⟩:=S'.list c.args
   have hc1:=hc.snap S'.hr
   let Γc:Ctx:={ Γ.all with nm:=fun _=>none }
   have hc2:CR Γc (shpOf []) w' (snapL st.hp (c.args.toList.map (opnd C st.sl))) (c.args.map a.eval):=hc1.bare (List.isEmpty_iff.1 hna) (fun _ h=>h) rfl
   have hcall:=hX.x g pf _ ret [] hpfx hpf Γc w' _ (fun _=>rfl) (bare_HR (fun _=>rfl) (all_lt S')) (S'.g.mono (fun _ _=>rfl) (fun _ h=>Or.inl h)) hc2
   have hcalls:=uponIn_calls (ro:=ro) (n:=n) (callFunc_enterB hent) hcall
   have hev:a.eval (.func g) = .func (.func g) #[] #[]:=rfl
   have he:execOp a.eval o=(do let d ←Deferred.ofValue (a.eval (.func g)) (c.args.map a.eval);invoke d.target d.args):=by simp only [execOp,hop,resolve,hcal]
   unfold Oper.quietAtIn
   rw [he,hev]
   have hrun:(do let d ←Deferred.ofValue (Value.func (.func g) #[] #[]) (c.args.map a.eval);invoke d.target d.args:Sem Next).run C.P w' = .ok (.enter g (c.args.map a.eval)) w':=by
    have:=callFunc_enterB (P:=C.P) (Vs:=c.args.map a.eval) (w:=w') hent
    simpa [Deferred.ofValue,invoke] using this
   rw [hrun]
   refine ⟨rfl,fun h=>(by simp [wideAt,Fence.wide] at h),hcalls.mono ?_⟩
   rintro e w'' ⟨V,rfl,Γ1,Φ1,hs,hH1,hvv,_⟩
   have:=det_inv hvv hdet
   subst this
   exact ⟨rfl,⟨fun g hg=>hs.frame g hg (fun b=>by simp [Γc]) (fun x=>x),hs.size⟩,hs.os,hs.tape,hs.output⟩
  ·cases h
 ·cases hq
def Out.exit':Out→Exit
 | .normal=>.normal
 | .exit id=>.exit id
 | .ret=>.ret
end
end Go.Proofs.YtcfingekgbbclaaGreatDoor.E
namespace Go.Proofs.YtcfingekgbbclaaGreatDoor.E
open Go
set_option linter.unusedVariables false
theorem ble_mk {a b:Nat} (h:a≤b):Nat.ble a b=true:=by rw [Nat.ble_eq];exact h
theorem ble_le {a b:Nat} (h:Nat.ble a b=true):a≤b:=by rw [Nat.ble_eq] at h;exact h
theorem Like.refl (w:World):Like w w:=⟨⟨fun _ _=>rfl,Nat.le_refl _⟩,rfl,rfl,rfl⟩
theorem Like.trans {a b c:World} (h:Like a b) (k:Like b c):Like a c:=
 ⟨⟨fun g hg=>(k.1.1 g (Nat.lt_of_lt_of_le hg h.1.2)).trans (h.1.1 g hg),Nat.le_trans h.1.2 k.1.2⟩,k.2.1.trans h.2.1,k.2.2.1.trans h.2.2.1,k.2.2.2.trans h.2.2.2⟩
section
variable {F : Fence} {n : Nat} {P : Program} {ops : Array Oper} {md : Region.Mode}
def QF:Exit→Act→World→Prop:=fun _ _ _=>False
theorem wpIn_QF {o:Oper} {a:Act} {w:World} {N:Act→World→Prop} {Q:Exit→Act→World→Prop} (h:o.wpIn F n P a w N QF):o.wpIn F n P a w N Q:=by
 unfold Oper.wpIn at *
 refine ⟨h.1,?_⟩
 have h:=h.2
 generalize (o.semAt F.round a.eval).run P w=r at *
 cases r with
 | ok x w'=>
  cases x<;>simp only [Oper.uponIn] at h ⊢
  case value=>exact h
  case skip=>exact h
  case defer=>exact h
  case enter=>exact ⟨h.1,CallsIn.mono h.2 fun e w'' he=>by
   cases e with
   | returned u=>exact he
   | panicked c=>exact he.elim
   | outgrown=>obtain ⟨_,_,h⟩:=he;exact h.elim⟩
  case row=>exact h
  case round=>exact ⟨h.1,RoundIn.mono h.2 fun e w'' he=>by
   cases e with
   | returned u=>exact he
   | panicked c=>exact he.elim
   | outgrown=>obtain ⟨_,_,h⟩:=he;exact h.elim⟩
 | halt x w'=>
  cases x<;>simp only [Oper.uponIn] at h ⊢
  case panic=>exact h.elim
theorem wpOpIn_QF {i:Nat} {a:Act} {w:World} {N:Act→World→Prop} {Q:Exit→Act→World→Prop} (h:wpOpIn F n P ops QF i N a w):wpOpIn F n P ops Q i N a w:=by
 unfold wpOpIn at *
 split
 ·rename_i ho;simp only [ho] at h;exact h
 ·rename_i o ho
  simp only [ho] at h
  split
  ·rename_i hw;simp only [hw,if_true] at h;exact wpIn_QF h
  ·rename_i hw;simp only [hw] at h;exact h
def YQ (F:Fence) (n:Nat) (P:Program) (ops:Array Oper) (q:Bool) (w0:World) (o:Oper) (v:Value) (a:Act):Prop:=
 o.askedIn F P a (fun w=>q=true→Like w0 w)∧
 ((Region.wanted o (yielded ops a.tmps)=true∧∀ w,(q=true→Like w0 w)→o.quietAtIn F n P a (Like w) w v)∨
  (Region.wanted o (yielded ops a.tmps)=false∧v=undef))
theorem YQ.step {q:Bool} {w0 w1:World} {o:Oper} {v:Value} {a:Act} (h:YQ F n P ops q w0 o v a) (hl:q=true→Like w0 w1):YQ F n P ops q w1 o v a:=
 ⟨fun w hw=>h.1 w fun hq=>(hl hq).trans (hw hq),h.2.imp (fun h=>⟨h.1,fun w hw=>h.2 w fun hq=>(hl hq).trans (hw hq)⟩) (fun h=>h)⟩
theorem YQ.of_same {q:Bool} {w0:World} {o:Oper} {v:Value} {a a':Act} (hy:YQ F n P ops q w0 o v a) (he:execOp a'.eval o=execOp a.eval o)
  (hw:Region.wanted o (yielded ops a'.tmps)=Region.wanted o (yielded ops a.tmps)) (hb:∀ w,o.about P w a'.eval=o.about P w a.eval):YQ F n P ops q w0 o v a':=by
 unfold YQ Oper.quietAtIn Oper.askedIn at *
 rw [he,hw]
 exact ⟨fun w hc f hf=>hy.1 w hc f (by rw [←hb w];exact hf),hy.2⟩
theorem YQ.wpOpIn {q:Bool} {w0 w:World} {i:Nat} {o:Oper} {v:Value} {a:Act} (hi:ops[i]? = some o) (hnd:∀ c,o.op≠.defer c) (hy:YQ F n P ops q w0 o v a) (hw:q=true→Like w0 w) {K:Act→World→Prop} (h:∀ w',Like w w'→K (a.put o.dst v) w'):wpOpIn F n P ops QF i K a w:=by
 unfold Go.wpOpIn
 simp only [hi]
 rcases hy.2 with ⟨hwt,hv⟩ | ⟨hwt,rfl⟩
 ·simp only [hwt,if_true]
  have h3:=hv w hw
  unfold Oper.quietAtIn at h3
  unfold Oper.wpIn
  refine ⟨hy.1 w hw,?_⟩
  rw [Oper.semAt_eq _ _ _ hnd]
  generalize (execOp a.eval o).run P w=r at *
  cases r with
  | ok x w'=>
   cases x<;>simp only [Oper.quietUponIn] at h3<;>simp only [Oper.uponIn]
   case value u=>
    obtain ⟨e1,e2⟩:=h3
    rw [e1,e2]
    exact h _ (Like.refl w)
   case skip=>
    obtain ⟨e1,e2⟩:=h3
    rw [e1,←e2]
    exact h _ (Like.refl w)
   case enter f args=>
    obtain ⟨e1,hd,hc⟩:=h3
    rw [e1]
    exact ⟨hd,hc.mono fun e w'' ⟨he,hw''⟩=>by subst he;exact h _ hw''⟩
  | halt x w'=>simp only [Oper.quietUponIn] at h3
 ·simp only [hwt,Bool.false_eq_true,if_false];exact ⟨hy.1 w hw,h _ (Like.refl w)⟩
theorem wpOpIn_putQ {q:Bool} {w0:World} {j:Nat} {oi oj:Oper} {v:Value} (hj:ops[j]? = some oj) (hap:oi.apart ops oj=true)
  (hsi:∀ cs b,oi.op≠.select cs b) (hsj:∀ cs b,oj.op≠.select cs b) (hnd:∀ c,oj.op≠.defer c) {K:Act→World→Prop} {a:Act} {w:World}
  (hy:YQ F n P ops q w0 oi v a) (h:wpOpIn F n P ops QF j K (a.put oi.dst v) w) :
  wpOpIn F n P ops QF j (fun a' w'=>YQ F n P ops q w0 oi v a'∧K (a'.put oi.dst v) w') a w:=by
 obtain ⟨h1,h2,h3⟩:=Oper.apart_spec hap
 have keep:∀ (a:Act),YQ F n P ops q w0 oi v a→∀ u,YQ F n P ops q w0 oi v (a.put oj.dst u):=fun a hy u=>
  hy.of_same (execOp_put oi hsi a oj.dst u h3) (wanted_put oi a oj.dst u h3) (fun w=>about_put oi w a oj.dst u h3)
 unfold wpOpIn at *
 simp only [hj] at *
 rw [wanted_put oj a oi.dst v h1,about_put oj w a oi.dst v h1] at h
 split
 ·rename_i hw
  simp only [hw,if_true] at h
  unfold Oper.wpIn at *
  rw [about_put oj w a oi.dst v h1] at h
  refine ⟨h.1,?_⟩
  have h:=h.2
  rw [Oper.semAt_eq _ _ _ hnd,execOp_put oj hsj a oi.dst v h1] at h
  rw [Oper.semAt_eq _ _ _ hnd]
  have hexec:∀ d w',(execOp a.eval oj).run P w≠.ok (.defer d) w'∨True:=fun _ _=>.inr trivial
  generalize hr:(execOp a.eval oj).run P w=r at *
  cases r with
  | ok x w'=>
   cases x<;>simp only [Oper.uponIn] at h ⊢
   case value u=>exact ⟨keep a hy u,by rw [←Act.put_comm a v u h2];exact h⟩
   case skip=>exact ⟨keep a hy _,by rw [←Act.put_comm a v undef h2];exact h⟩
   case defer d=>
    have keepD:∀ d,YQ F n P ops q w0 oi v { a with defers:=d::a.defers }:=fun d=>hy.of_same rfl rfl (fun _=>rfl)
    refine ⟨keep _ (keepD d) _,?_⟩
    rw [←Act.put_comm _ v undef h2,←Act.put_defers]
    exact h
   case enter f args=>
    refine ⟨h.1,CallsIn.mono h.2 fun e w'' he=>?_⟩
    cases e with
    | returned u=>exact ⟨keep a hy u,by rw [←Act.put_comm a v u h2];exact he⟩
    | panicked c=>exact he
    | outgrown=>exact he
   case row row args=>exact ⟨h.1,RowsIn.mono h.2 fun u w'' he=>⟨keep a hy u,by rw [←Act.put_comm a v u h2];exact he⟩⟩
   case round l f tmps assign body=>
    refine ⟨h.1,RoundIn.mono h.2 fun e w'' he=>?_⟩
    cases e with
    | returned u=>exact ⟨keep a hy u,by rw [←Act.put_comm a v u h2];exact he⟩
    | panicked c=>exact he
    | outgrown=>exact he
  | halt x w'=>
   cases x<;>simp only [Oper.uponIn] at h ⊢
   case panic u=>exact h
 ·rename_i hw
  simp only [hw] at h
  exact ⟨h.1,keep a hy _,by rw [←Act.put_comm a v undef h2];exact h.2⟩
def wpR (F:Fence) (n:Nat) (P:Program) (md:Region.Mode) (ops:Array Oper) (wr:Nat→Bool) (Qn:Act→World→Prop):Nat→Array Bool→Act→World→Prop
 | 0,listed,a,w=>Region.ready md ops listed=[]∧Qn a w
 | f+1,listed,a,w=>(Region.ready md ops listed=[]→Qn a w)∧
  ∀ i∈Region.ready md ops listed,wpOpIn F n P ops QF i (fun a' w'=>(wr i=false→Like w w')∧∀ w1,Like w' w1→wpR F n P md ops wr Qn f (listed.setIfInBounds i true) a' w1) a w
theorem wpAnyIn_of_R {wr:Nat→Bool} {Q:Exit→Act→World→Prop} {Qn:Act→World→Prop} (hQ:∀ a w,Qn a w→Q .normal a w):∀ (f:Nat) (listed:Array Bool) (a:Act) (w:World),wpR F n P md ops wr Qn f listed a w→wpAnyIn F n P md ops Q f listed a w
 | 0,_,_,_,h=>⟨h.1,hQ _ _ h.2⟩
 | f+1,_,_,_,h=>⟨fun h0=>hQ _ _ (h.1 h0),fun i hi=>wpOpIn_QF (wpOpIn_mono (fun a' w' h=>wpAnyIn_of_R hQ f _ a' w' (h.2 w' (Like.refl w'))) (h.2 i hi))⟩
def DC (md:Region.Mode) (ops:Array Oper) (listed:Array Bool):Prop:=∀ j o,ops[j]? = some o→listed.getD j false=true→∀ e∈o.after,Region.binds md e=true→listed.getD e.on false=true
theorem getD_set_eq {listed:Array Bool} {i j:Nat} (h:(listed.setIfInBounds i true).getD j false=true):j=i∨listed.getD j false=true:=by
 by_cases hij:i=j
 ·exact .inl hij.symm
 ·rw [getD_set_ne false hij] at h;exact .inr h
theorem DC.set {listed:Array Bool} {i:Nat} (h:DC md ops listed) (hi:i∈Region.ready md ops listed):DC md ops (listed.setIfInBounds i true):=by
 intro j o ho hj e he hb
 refine getD_set_true ?_
 rcases getD_set_eq hj with rfl | hj
 ·obtain ⟨_,o',ho',hall⟩:=mem_ready.1 hi
  rw [ho] at ho'
  cases ho'
  exact hall e he hb
 ·exact h j o ho hj e he hb
def waitsF (md:Region.Mode) (ops:Array Oper):Nat→Nat→Nat→Bool
 | 0,_,_=>false
 | f+1,j,i=>match ops[j]? with
  | some o=>(o.after.toList.any fun e=>Region.binds md e&&Nat.beq e.on i) || (o.after.toList.any fun e=>Region.binds md e&&waitsF md ops f e.on i)
  | none=>false
theorem waitsF_spec {listed:Array Bool} {i:Nat} (hd:DC md ops listed) (hi:listed.getD i false=false):∀ f j,waitsF md ops f j i=true→listed.getD j false=false∧j∉Region.ready md ops listed
 | 0,j,h=>by cases h
 | f+1,j,h=>by
  simp only [waitsF] at h
  split at h
  ·rename_i o ho
   have key:∃ e∈o.after,Region.binds md e=true∧listed.getD e.on false=false:=by
    rw [Bool.or_eq_true,List.any_eq_true,List.any_eq_true] at h
    rcases h with ⟨e,he,hb⟩ | ⟨e,he,hb⟩
    ·rw [Bool.and_eq_true] at hb
     have:=Nat.eq_of_beq_eq_true hb.2
     exact ⟨e,by simpa using he,hb.1,by rw [this];exact hi⟩
    ·rw [Bool.and_eq_true] at hb
     exact ⟨e,by simpa using he,hb.1,(waitsF_spec hd hi f e.on hb.2).1⟩
   obtain ⟨e,he,hb,hl⟩:=key
   refine ⟨?_,fun hr=>?_⟩
   ·cases hj:listed.getD j false with
    | false=>rfl
    | true=>rw [hd j o ho hj e he hb] at hl;cases hl
   ·obtain ⟨_,o',ho',hall⟩:=mem_ready.1 hr
    rw [ho] at ho'
    cases ho'
    rw [hall e he hb] at hl
    cases hl
  ·cases h
theorem unlisted_of_ready {listed:Array Bool} {i:Nat} (h:i∈Region.ready md ops listed):listed.getD i false=false:=by
 have h0:=(mem_ready.1 h).1
 rcases Nat.lt_or_ge i listed.size with h' | h'
 ·simp [h'] at h0 ⊢;exact h0
 ·simp [Array.getElem?_eq_none h']
theorem wpR_first {wr:Nat→Bool} {Qn:Act→World→Prop} {q:Bool} {i:Nat} {oi:Oper} {v:Value} (hi:ops[i]? = some oi) (hsel:∀ (j:Nat) (o:Oper) cs b,ops[j]? = some o→o.op≠.select cs b) (hnd:∀ (j:Nat) (o:Oper) c,ops[j]? = some o→o.op≠.defer c) :
  ∀ (fuel:Nat) (listed:Array Bool) (a:Act) (w0:World),
   (∀ j oj,ops[j]? = some oj→j≠i→listed.getD j true=false→(∀ e∈oj.after,Region.binds md e=true→e.on≠i)→oi.apart ops oj=true)→
   (q=true→∀ j,j≠i→listed.getD j true=false→wr j=true→waitsF md ops ops.size j i=true)→DC md ops listed→
   i∈Region.ready md ops listed→YQ F n P ops q w0 oi v a→
   (∀ w,Like w0 w→wpR F n P md ops wr Qn fuel (listed.setIfInBounds i true) (a.put oi.dst v) w)→∀ w,Like w0 w→wpR F n P md ops wr Qn (fuel+1) listed a w:=by
 intro fuel
 induction fuel with
 | zero=>
  intro listed a w0 _ _ _ hr hy H w hw
  refine ⟨fun h=>(by rw [h] at hr;cases hr),fun j hj=>?_⟩
  by_cases hji:j=i
  ·subst hji
   exact hy.wpOpIn hi (fun c=>hnd j oi c hi) (fun _=>hw) fun w' hl=>⟨fun _=>hl,fun w1 h1=>H w1 (hw.trans (hl.trans h1))⟩
  ·have:=ready_mono hj hji
   rw [(H w hw).1] at this
   cases this
 | succ fuel ih=>
  intro listed a w0 hfree hwr hd hr hy H w hw
  refine ⟨fun h=>(by rw [h] at hr;cases hr),fun j hj=>?_⟩
  by_cases hji:j=i
  ·subst hji
   exact hy.wpOpIn hi (fun c=>hnd j oi c hi) (fun _=>hw) fun w' hl=>⟨fun _=>hl,fun w1 h1=>H w1 (hw.trans (hl.trans h1))⟩
  ·have h1:=(H w hw).2 j (ready_mono hj hji)
   obtain ⟨hjun,oj,hoj,hall⟩:=mem_ready.1 hj
   have hiun:=unlisted_of_ready hr
   have hnot:∀ e∈oj.after,Region.binds md e=true→e.on≠i:=fun e he hb heq=>by
    have h1:=hall e he hb
    rw [heq,hiun] at h1
    cases h1
   have h2:=wpOpIn_putQ hoj (hfree j oj hoj hji hjun hnot) (fun cs b=>hsel i oi cs b hi) (fun cs b=>hsel j oj cs b hoj) (fun c=>hnd j oj c hoj) (hy.step (w1:=w) fun _=>hw) h1
   have hstep:∀ {k:Nat},k≠i→(listed.setIfInBounds j true).getD k true=false→listed.getD k true=false:=fun {k} hki hun=>by
    by_cases hjk:j=k
    ·subst hjk;exact hjun
    ·rw [getD_set_ne true hjk] at hun;exact hun
   refine wpOpIn_mono (fun a' w' h3=>?_) h2
   obtain ⟨hy',hl,hR⟩:=h3
   refine ⟨hl,fun w1 hw1=>?_⟩
   have hql:q=true→Like w w':=fun hq=>by
    refine hl ?_
    cases hwj:wr j with
    | false=>rfl
    | true=>exact absurd hj (waitsF_spec hd hiun ops.size j (hwr hq j hji hjun hwj)).2
   refine ih (listed.setIfInBounds j true) a' w' (fun k ok hk hki hun hno=>hfree k ok hk hki (hstep hki hun) hno) (fun hq k hki hun hwk=>hwr hq k hki (hstep hki hun) hwk) (hd.set hj) (ready_mono hr (Ne.symm hji)) (hy'.step hql) (fun w2 hw2=>?_) w1 hw1
   rw [Array.setIfInBounds_comm _ _ hji]
   exact hR w2 hw2
def CanonR (F:Fence) (n:Nat) (P:Program) (ops:Array Oper) (kind:Nat→Nat) (E:Act→World→Prop):List Nat→Act→World→Prop
 | [],a,w0=>E a w0
 | i::rest,a,w0=>(kind i≤1→∃ o v,ops[i]? = some o∧YQ F n P ops (Nat.beq (kind i) 1) w0 o v a∧CanonR F n P ops kind E rest (a.put o.dst v) w0)∧
  (2≤kind i→∀ w,Like w0 w→wpOpIn F n P ops QF i (fun a' w'=>(kind i=2→Like w w')∧CanonR F n P ops kind E rest a' w') a w)
def freeB (md:Region.Mode) (ops:Array Oper) (kind:Nat→Nat) (i:Nat) (listed:Array Bool):Bool:=
 (Region.ready md ops listed).contains i&&(Region.free md ops listed i&&(Nat.beq (kind i) 0 || (List.range ops.size).all fun j=>Nat.beq j i || (listed.getD j true || (!(Nat.ble 3 (kind j)) || waitsF md ops ops.size j i))))
def canonC (md:Region.Mode) (ops:Array Oper) (kind:Nat→Nat) (fin:Array Bool→Bool):List Nat→Array Bool→Bool
 | [],listed=>fin listed
 | i::r,listed=>cond (Nat.ble (kind i) 1) (freeB md ops kind i listed) ((Region.ready md ops listed)==[i])&&canonC md ops kind fin r (listed.setIfInBounds i true)
def canonB (md:Region.Mode) (ops:Array Oper) (kind:Nat→Nat):List Nat→Array Bool→Bool:=canonC md ops kind fun listed=>(Region.ready md ops listed).isEmpty
theorem free_R {kind:Nat→Nat} {Qn:Act→World→Prop} (hs:Region.noSelect ops=true) (hnd:∀ (j:Nat) (o:Oper) c,ops[j]? = some o→o.op≠.defer c) (hk:∀ j,ops.size≤j→kind j≤1) {i fuel:Nat} {listed:Array Bool} {a:Act} {w0:World} {o:Oper} {v:Value}
  (hB:freeB md ops kind i listed=true) (hd:DC md ops listed) (hi:ops[i]? = some o) (hy:YQ F n P ops (Nat.beq (kind i) 1) w0 o v a)
  (h:DC md ops (listed.setIfInBounds i true)→∀ w,Like w0 w→wpR F n P md ops (fun j=>Nat.ble 3 (kind j)) Qn fuel (listed.setIfInBounds i true) (a.put o.dst v) w):∀ w,Like w0 w→wpR F n P md ops (fun j=>Nat.ble 3 (kind j)) Qn (fuel+1) listed a w:=by
 intro w hw
 simp only [freeB,Bool.and_eq_true] at hB
 obtain ⟨hr,hf,hwt⟩:=hB
 have hr':i∈Region.ready md ops listed:=by simpa using hr
 refine wpR_first (q:=Nat.beq (kind i) 1) hi (Region.noSelect_spec hs) hnd fuel listed a w0 (Region.free_spec hi hf) (fun hq j hji hun hwj=>?_) hd hr' hy (h (hd.set hr')) w hw
 have hq1:=Nat.eq_of_beq_eq_true hq
 rw [hq1] at hwt
 simp only [show Nat.beq 1 0=false from rfl,Bool.false_or,List.all_eq_true,List.mem_range] at hwt
 have hjs:j<ops.size:=Decidable.byContradiction fun hge=>by
  have:=hk j (by omega)
  have h3:=ble_le hwj
  omega
 have:=hwt j hjs
 rw [show Nat.beq j i=false by cases hb:Nat.beq j i with | false=>rfl | true=>exact absurd (Nat.eq_of_beq_eq_true hb) hji,hun,hwj] at this
 simpa using this
theorem canon_R {kind:Nat→Nat} {Qn E:Act→World→Prop} {fin:Array Bool→Bool} {m:Nat} (hs:Region.noSelect ops=true) (hnd:∀ (j:Nat) (o:Oper) c,ops[j]? = some o→o.op≠.defer c) (hk:∀ j,ops.size≤j→kind j≤1)
  (hfin:∀ listed a w0,fin listed=true→DC md ops listed→E a w0→∀ w,Like w0 w→wpR F n P md ops (fun j=>Nat.ble 3 (kind j)) Qn m listed a w) :
  ∀ (rest:List Nat) (listed:Array Bool) (a:Act) (w0:World),canonC md ops kind fin rest listed=true→DC md ops listed→CanonR F n P ops kind E rest a w0→∀ w,Like w0 w→wpR F n P md ops (fun j=>Nat.ble 3 (kind j)) Qn (m+rest.length) listed a w
 | [],listed,a,w0,hB,hd,h,w,hw=>hfin listed a w0 hB hd h w hw
 | i::rest,listed,a,w0,hB,hd,h,w,hw=>by
  simp only [canonC,Bool.and_eq_true] at hB
  obtain ⟨hB1,hB2⟩:=hB
  simp only [CanonR] at h
  show wpR F n P md ops _ Qn (m+rest.length+1) listed a w
  by_cases hki:kind i≤1
  ·rw [show Nat.ble (kind i) 1=true from ble_mk hki,cond_true] at hB1
   obtain ⟨o,v,hi,hy,hC⟩:=h.1 hki
   exact free_R hs hnd hk hB1 hd hi hy (fun hd' w1 hw1=>canon_R hs hnd hk hfin rest _ _ w0 hB2 hd' hC w1 hw1) w hw
  ·rw [show Nat.ble (kind i) 1=false by cases hb:Nat.ble (kind i) 1 with | false=>rfl | true=>exact absurd (ble_le hb) hki,cond_false] at hB1
   have hr:Region.ready md ops listed=[i]:=by simpa using hB1
   refine ⟨fun h0=>(by rw [hr] at h0;cases h0),fun j hj=>?_⟩
   have hji:j=i:=by rw [hr] at hj;simpa using hj
   subst hji
   refine wpOpIn_mono (fun a' w' h3=>?_) (h.2 (by omega) w hw)
   refine ⟨fun hwj=>h3.1 ?_,fun w1 hw1=>canon_R hs hnd hk hfin rest _ a' w' hB2 (hd.set hj) h3.2 w1 hw1⟩
   have:¬ 3≤kind j:=fun h=>by dsimp only at hwj;rw [ble_mk h] at hwj;cases hwj
   omega
def CanonM (F:Fence) (n:Nat) (P:Program) (ops:Array Oper) (kind:Nat→Nat) (E:Act→World→Prop) (i4:Nat) (post:List Nat):List Nat→Act→World→Prop
 | [],a,w0=>∀ w,Like w0 w→wpOpIn F n P ops QF i4 (fun a' w'=>Like w w'∧CanonR F n P ops kind E post a' w') a w
 | i::rest,a,w0=>CanonR F n P ops kind (CanonM F n P ops kind E i4 post rest) [i] a w0∧
  (2≤kind i→∀ w,Like w0 w→wpOpIn F n P ops QF i4 (fun a' w'=>Like w w'∧CanonR F n P ops kind E ((i::rest)++post) a' w') a w)
def canonMB (md:Region.Mode) (ops:Array Oper) (kind:Nat→Nat) (i4:Nat) (post:List Nat):List Nat→Array Bool→Bool
 | [],listed=>(Region.ready md ops listed==[i4])&&canonB md ops kind post (listed.setIfInBounds i4 true)
 | i::r,listed=>cond (Nat.ble (kind i) 1) (freeB md ops kind i listed)
   ((Region.ready md ops listed).contains i&&((Region.ready md ops listed).all (fun j=>Nat.beq j i || Nat.beq j i4)&&canonB md ops kind ((i::r)++post) (listed.setIfInBounds i4 true)))&&canonMB md ops kind i4 post r (listed.setIfInBounds i true)
theorem canonM_R {kind:Nat→Nat} {Qn:Act→World→Prop} {i4:Nat} {post:List Nat} (hs:Region.noSelect ops=true) (hnd:∀ (j:Nat) (o:Oper) c,ops[j]? = some o→o.op≠.defer c) (hk:∀ j,ops.size≤j→kind j≤1) :
  ∀ (mid:List Nat) (listed:Array Bool) (a:Act) (w0:World),canonMB md ops kind i4 post mid listed=true→DC md ops listed→CanonM F n P ops kind (fun a w0=>∀ w,Like w0 w→Qn a w) i4 post mid a w0→∀ w,Like w0 w→wpR F n P md ops (fun j=>Nat.ble 3 (kind j)) Qn (post.length+1+mid.length) listed a w:=by
 have fin0:∀ (listed:Array Bool) (a:Act) (w0:World),(Region.ready md ops listed).isEmpty=true→DC md ops listed→(∀ w,Like w0 w→Qn a w)→∀ w,Like w0 w→wpR F n P md ops (fun j=>Nat.ble 3 (kind j)) Qn 0 listed a w:=
  fun listed a w0 h _ hq w hw=>⟨by simpa using h,hq w hw⟩
 intro mid
 induction mid with
 | nil=>
  intro listed a w0 hB hd h w hw
  simp only [canonMB,Bool.and_eq_true] at hB
  obtain ⟨hB1,hB2⟩:=hB
  have hr:Region.ready md ops listed=[i4]:=by simpa using hB1
  show wpR F n P md ops _ Qn (post.length+1) listed a w
  refine ⟨fun h0=>(by rw [hr] at h0;cases h0),fun j hj=>?_⟩
  have hji:j=i4:=by rw [hr] at hj;simpa using hj
  subst hji
  refine wpOpIn_mono (fun a' w' h3=>⟨fun _=>h3.1,fun w1 hw1=>?_⟩) (h w hw)
  have:=canon_R hs hnd hk fin0 post _ a' w' hB2 (hd.set hj) h3.2 w1 hw1
  rwa [Nat.zero_add] at this
 | cons i rest ih=>
  intro listed a w0 hB hd h w hw
  simp only [canonMB,Bool.and_eq_true] at hB
  obtain ⟨hB1,hB2⟩:=hB
  simp only [CanonM] at h
  obtain ⟨hc,he⟩:=h
  simp only [CanonR] at hc
  show wpR F n P md ops _ Qn (post.length+1+rest.length+1) listed a w
  by_cases hki:kind i≤1
  ·rw [show Nat.ble (kind i) 1=true from ble_mk hki,cond_true] at hB1
   obtain ⟨o,v,hi,hy,hC⟩:=hc.1 hki
   exact free_R hs hnd hk hB1 hd hi hy (fun hd' w1 hw1=>ih _ _ w0 hB2 hd' hC w1 hw1) w hw
  ·rw [show Nat.ble (kind i) 1=false by cases hb:Nat.ble (kind i) 1 with | false=>rfl | true=>exact absurd (ble_le hb) hki,cond_false] at hB1
   simp only [Bool.and_eq_true,List.all_eq_true,Bool.or_eq_true] at hB1
   obtain ⟨hi0,hall,hB3⟩:=hB1
   have hi:i∈Region.ready md ops listed:=by simpa using hi0
   refine ⟨fun h0=>(by rw [h0] at hi;cases hi),fun j hj=>?_⟩
   rcases hall j hj with hb | hb
   ·have hji:=Nat.eq_of_beq_eq_true hb
    subst hji
    refine wpOpIn_mono (fun a' w' h3=>?_) (hc.2 (by omega) w hw)
    refine ⟨fun hwj=>h3.1 ?_,fun w1 hw1=>ih _ a' w' hB2 (hd.set hj) h3.2 w1 hw1⟩
    have:¬ 3≤kind j:=fun h=>by dsimp only at hwj;rw [ble_mk h] at hwj;cases hwj
    omega
   ·have hji:=Nat.eq_of_beq_eq_true hb
    subst hji
    refine wpOpIn_mono (fun a' w' h3=>⟨fun _=>h3.1,fun w1 hw1=>?_⟩) (he (by omega) w hw)
    have:=canon_R hs hnd hk fin0 ((i::rest)++post) _ a' w' hB3 (hd.set hj) h3.2 w1 hw1
    rw [Nat.zero_add] at this
    rw [show post.length+1+rest.length=((i::rest)++post).length by rw [List.length_append,List.length_cons];omega]
    exact this
def Agree (d:Option Tmp) (a a':Act):Prop:=∀ t,d≠some t→a'.tmps[t]? = a.tmps[t]?
theorem agree_put (a:Act) (d:Option Tmp) (v:Value):Agree d a (a.put d v):=fun t ht=>by
 cases d with
 | none=>rfl
 | some d=>
  have:d≠t:=fun e=>ht (by rw [e])
  simp [Act.put,this]
theorem wpIn_agree {o:Oper} {a:Act} {w:World} {N:Act→World→Prop} (h:o.wpIn F n P a w N QF):o.wpIn F n P a w (fun a' w'=>Agree o.dst a a'∧N a' w') QF:=by
 unfold Oper.wpIn at *
 refine ⟨h.1,?_⟩
 have h:=h.2
 generalize (o.semAt F.round a.eval).run P w=r at *
 cases r with
 | ok x w'=>
  cases x<;>simp only [Oper.uponIn] at h ⊢
  case value=>exact ⟨agree_put _ _ _,h⟩
  case skip=>exact ⟨agree_put _ _ _,h⟩
  case defer=>
   refine ⟨fun t ht=>?_,h⟩
   exact agree_put { a with defers:=_ } o.dst undef t ht
  case enter=>exact ⟨h.1,CallsIn.mono h.2 fun e w'' he=>by
   cases e with
   | returned u=>exact ⟨agree_put _ _ _,he⟩
   | panicked c=>exact he.elim
   | outgrown=>obtain ⟨_,_,h⟩:=he;exact h.elim⟩
  case row=>exact ⟨h.1,RowsIn.mono h.2 fun u w'' he=>⟨agree_put _ _ _,he⟩⟩
  case round=>exact ⟨h.1,RoundIn.mono h.2 fun e w'' he=>by
   cases e with
   | returned u=>exact ⟨agree_put _ _ _,he⟩
   | panicked c=>exact he.elim
   | outgrown=>obtain ⟨_,_,h⟩:=he;exact h.elim⟩
 | halt x w'=>
  cases x<;>simp only [Oper.uponIn] at h ⊢
  case panic=>exact h.elim
theorem wpOpIn_agree {i:Nat} {o:Oper} (ho:ops[i]? = some o) {a:Act} {w:World} {N:Act→World→Prop} (h:wpOpIn F n P ops QF i N a w):wpOpIn F n P ops QF i (fun a' w'=>Agree o.dst a a'∧N a' w') a w:=by
 unfold wpOpIn at *
 simp only [ho] at h ⊢
 split
 ·rename_i hw;simp only [hw,if_true] at h;exact wpIn_agree h
 ·rename_i hw
  simp only [hw] at h
  exact ⟨h.1,agree_put _ _ _,h.2⟩
theorem canon_agree {kind:Nat→Nat} {E:Act→World→Prop} {i:Nat} {o:Oper} (ho:ops[i]? = some o) {a:Act} {w0:World} (h:CanonR F n P ops kind (fun a' w'=>Agree o.dst a a'→E a' w') [i] a w0):CanonR F n P ops kind E [i] a w0:=by
 simp only [CanonR] at h ⊢
 refine ⟨fun hk=>?_,fun hk w hw=>?_⟩
 ·obtain ⟨o',v,h1,h2,h3⟩:=h.1 hk
  obtain rfl:=Option.some.inj (ho.symm.trans h1)
  exact ⟨_,v,h1,h2,h3 (agree_put _ _ _)⟩
 ·exact wpOpIn_mono (fun a' w' ⟨h1,h2,h3⟩=>⟨h2,h3 h1⟩) (wpOpIn_agree ho (h.2 hk w hw))
theorem wpIn_region_canon {id:Nat} {Q:Exit→Act→World→Prop} {kind:Nat→Nat} {ord:List Nat} {a:Act} {w:World} (hm:P.follows .mixedOrders=true) (hs:Region.noSelect ops=true) (hnd:∀ (j:Nat) (o:Oper) c,ops[j]? = some o→o.op≠.defer c) (hk:∀ j,ops.size≤j→kind j≤1)
  (hlen:ord.length=ops.size) (hB:canonB .any ops kind ord (Array.replicate ops.size false)=true) (h:CanonR F n P ops kind (fun a w0=>∀ w,Like w0 w→Q .normal a w) ord a w):(Code.region id ops true).wpIn F n P Q a w:=by
 refine wpIn_region_any hm ?_
 rw [←hlen,←Nat.zero_add ord.length]
 refine wpAnyIn_of_R (fun _ _ h=>h) _ _ _ _ (canon_R (Qn:=fun a w=>Q .normal a w) (m:=0) (fin:=fun listed=>(Region.ready .any ops listed).isEmpty) (E:=fun a w0=>∀ w,Like w0 w→Q .normal a w) hs hnd hk (fun listed a w0 h _ hq w hw=>⟨by simpa using h,hq w hw⟩) ord _ a w (by rw [Nat.zero_add,hlen];exact hB) (fun j o ho hj=>?_) h _ (Like.refl w))
 simp only [Array.getD_eq_getD_getElem?,Array.getElem?_replicate] at hj
 split at hj<;>cases hj
end
section
variable {σ R : Type} {r : R} {C : Cfg} {I : σ → (Nat → Prop) → (Nat → Prop) → World → Prop} {Γ : Ctx} {Φ : Nat → Prop} {st : St σ} {a : Act} {w : World} {cl : CallT} {yh : Yh σ} {yv : Value} {o : Oper}
theorem run_ok_inj {P:Program} {m:Sem Next} {w w1 w2:World} {x y:Next} (h:m.run P w = .ok x w1) (k:m.run P w = .ok y w2):x=y∧w1=w2:=by
 rw [h] at k
 cases k
 exact ⟨rfl,rfl⟩
theorem alloc_like (w:World) (x:Obj):Like w (w.alloc x):=⟨⟨fun g hg=>heap_push_lt (w':=w.alloc x) (o:=x) rfl hg,by rw [show (w.alloc x).heap=w.heap.push x from rfl];simp⟩,rfl,rfl,rfl⟩
theorem alloc_run {Γ:Ctx} {e:Nat} {ev:Operand→Value} (hok:(C.ti e).ok=true) (hop:o.op = .alloc e):∃ z:Value,(execOp ev o).run C.P w = .ok (.value (.pointer (some ⟨w.heap.size,0,none⟩))) (w.alloc (.cells z.cells e))∧(∀ (Γ:Ctx) sh w,CR Γ sh w ((C.ti e).ks.map zeroCK) z.cells)∧∃ i,C.P.info? e=some i∧i.zero=some z:=by
 obtain ⟨i,z,hi,hz,_,_⟩:=zero_CR (Γ:=Γ) (sh:=fun _=>none) (w:=w) hok
 refine ⟨z,?_,fun Γ' sh w'=>?_,i,hi,hz⟩
 ·simp only [execOp,hop]
  simp [Instr.alloc,zeroValue,typeInfo,hi,hz,newVar,newRow]
 ·obtain ⟨i',z',hi',hz',_,h⟩:=zero_CR (Γ:=Γ') (sh:=sh) (w:=w') hok
  obtain rfl:=Option.some.inj (hi.symm.trans hi')
  obtain rfl:=Option.some.inj (hz.symm.trans hz')
  exact h
theorem opE_wp {ro:Option Nat} {n:Nat} {k:St σ→Option R} {next:Act→World→Prop} {Q:Exit→Act→World→Prop} (A:Ask C I cl yh yv) (hyv:Γ.yv=yv) (he:extOp C o.op=true) (h:opK C cl yh o st k=some r) (S:SI C I Γ Φ st a.tmps w) (hN:Nxt C I Γ Φ st.hp w a.defers k r (fun a' w'=>Like w w'→next a' w')) :
  o.wpIn (wideAt ro) n C.P a w next Q:=by
 refine ⟨fun _ _=>trivial,?_⟩
 have hnd:∀ c,o.op≠.defer c:=fun c e=>by simp [opK,e] at h
 rw [Oper.semAt_eq _ _ _ hnd]
 unfold extOp at he
 have add:callOp o.op=false→(∃ V' x,(execOp a.eval o).run C.P w = .ok (.value V') (w.alloc x))→o.uponIn (wideAt ro) n C.P a next Q ((execOp a.eval o).run C.P w):=fun hcall ⟨V',x,hl⟩=>by
  obtain ⟨V,w',Γ',st',h1,h2,h3,h4⟩:=opK_loud A.hI hcall h S
  have hn:=hN st' (a.put o.dst V) w' Γ' Φ h1 h4 h3 (put_defers _ _ _)
  rcases h2 with h2 | ⟨rfl,h2⟩
  ·obtain ⟨_,rfl⟩:=run_ok_inj h2 hl
   rw [h2];exact hn (alloc_like w x)
  ·obtain ⟨e,_⟩:=run_ok_inj h2 hl
   cases e
 split at he
 ·rename_i t len parts hop
  refine add (by rw [hop];rfl) ?_
  simp only [opK,hop] at h
  obtain ⟨p1,p2⟩:=S.parts parts.toList
  obtain ⟨v,H',hk,hv,V',x,hrun⟩:=buildSliceK_sound (ps:=parts.map fun (i,x)=>(i,a.eval x)) (sl:=st.sl) (tmps:=a.tmps) S.hr h (by rw [Array.toList_map];exact p1)
  refine ⟨V',x,?_⟩
  simp only [execOp,hop]
  simp [hrun]
 ·rename_i e hop
  refine add (by rw [hop];rfl) ?_
  by_cases hok:(C.ti e).ok=true
  ·obtain ⟨z,hr,_⟩:=alloc_run (Γ:=Γ) (ev:=a.eval) (w:=w) hok hop
   exact ⟨_,_,hr⟩
  ·simp [opK,hop,boxK,hok] at h
 ·rename_i c hop
  split at he
  ·rename_i g hcal
   simp only [Bool.and_eq_true,Option.isSome_iff_exists] at he
   obtain ⟨⟨pf,hpfx⟩,hent⟩:=he
   simp only [opK,hop,hcal,opnd,callV,callF,hpfx,List.map_nil,List.nil_append,List.append_nil] at h
   split at h
   ·rename_i hna
    obtain ⟨ret,Hc,hpf,h⟩:=runTr_some h
    have hpf:trRes (pf (snapL st.hp (c.args.toList.map (opnd C st.sl))))=some (ret,Hc):=by
     cases hx:C.xp g with
     | true=>rw [hx] at hpf;exact (plainTr_res hpf).1
     | false=>rw [hx] at hpf;exact hpf
    obtain ⟨h1,h2⟩:=need_some h
    obtain ⟨hc,hn⟩:=S.list c.args
    have key:=callX_like (k:=fun v st'=>k { st' with sl:=putS o.dst v st'.sl }) A.hI A.hX S hc hpfx hpf (List.isEmpty_iff.1 hna) (by simpa only [Bool.or_eq_true,Bool.not_eq_true',Bool.and_eq_true] using h1) h2
    have hev:execOp a.eval o=(do let d ←Deferred.ofValue (a.eval (.func g)) (c.args.map a.eval);invoke d.target d.args):=by simp only [execOp,hop,resolve,hcal]
    have hrun:(execOp a.eval o).run C.P w=(callFunc g (c.args.map a.eval)).run C.P w:=by
     rw [hev]
     have e:a.eval (.func g) = .func (.func g) #[] #[]:=rfl
     rw [e]
     simp [Deferred.ofValue,invoke]
    rw [hrun]
    refine key ro n o a next Q ?_
    rintro V w' ⟨⟨v,st',Γ',Φ',k1,k2,k3,k4,k5⟩,hl⟩
    exact hN _ (a.put o.dst V) w' Γ' Φ' k1 k2 ⟨k3.hr,k3.sr.put (ds:=a.defers) o k4 k5,k3.g,k3.inv,k3.dis⟩ (put_defers _ _ _) hl
   ·cases h
  ·cases he
 ·cases he
theorem kind_cases (C:Cfg) (op:Op):(kindOp C op=0∧((∃ x,op = .move x∨op = .assign x∨∃ i,op = .extract x i)∨(∃ t x lo hi mx,op = .slice t x lo hi mx)∨∃ b t x y q,(b = .add∨b = .sub)∧op = .binOp b t x y q))∨(kindOp C op=1∧quietOp2 C op=true)∨(kindOp C op=2∧extOp C op=true)∨kindOp C op=3:=by
 unfold kindOp
 split
 ·exact .inl ⟨rfl,.inl ⟨_,.inl rfl⟩⟩
 ·exact .inl ⟨rfl,.inl ⟨_,.inr (.inl rfl)⟩⟩
 ·exact .inl ⟨rfl,.inl ⟨_,.inr (.inr ⟨_,rfl⟩)⟩⟩
 ·exact .inl ⟨rfl,.inr (.inl ⟨_,_,_,_,_,rfl⟩)⟩
 ·exact .inl ⟨rfl,.inr (.inr ⟨_,_,_,_,_,.inl rfl,rfl⟩)⟩
 ·exact .inl ⟨rfl,.inr (.inr ⟨_,_,_,_,_,.inr rfl,rfl⟩)⟩
 ·cases h1:quietOp2 C op with
  | true=>exact .inr (.inl ⟨rfl,rfl⟩)
  | false=>
   cases h2:extOp C op with
   | true=>exact .inr (.inr (.inl ⟨rfl,rfl⟩))
   | false=>exact .inr (.inr (.inr rfl))
theorem blind0 {k:St σ→Option R} (hb:(∃ x,o.op = .move x∨o.op = .assign x∨∃ i,o.op = .extract x i)∨(∃ t x lo hi mx,o.op = .slice t x lo hi mx)∨∃ b t x y q,(b = .add∨b = .sub)∧o.op = .binOp b t x y q) (h:opK C cl yh o st k=some r) (S:SI C I Γ Φ st a.tmps w) :
  ∃ V st',k st'=some r∧(∀ w':World,(execOp a.eval o).run C.P w' = .ok (.value V) w')∧SI C I Γ Φ st' (a.put o.dst V).tmps w∧Stp C Γ st.hp w noΦ Γ st'.hp w noΦ:=by
 rcases hb with ⟨x,hx⟩ | ⟨t,x,lo,hi,mx,hx⟩ | ⟨b,t,x,y,q,hb,hx⟩
 ·obtain ⟨V,st',h1,h2,h3,h4⟩:=opK_quiet (a:=a) (show quietOp C o.op=true by rcases hx with h | h | ⟨_,h⟩<;>rw [h]<;>rfl) h S
  refine ⟨V,st',h1,fun w'=>?_,h3,h4⟩
  have e:=h2 w (Ext.refl w)
  rcases hx with hx | hx | ⟨i,hx⟩<;>simp only [execOp,hx] at e ⊢
  ·cases e;rfl
  ·cases e;rfl
  ·unfold Instr.extract at e ⊢
   split at e
   ·split at e
    ·cases e;simp_all
    ·cases e
   ·cases e
 ·exact slice_blind (a:=a) hx h S
 ·exact sum_blind (a:=a) hb hx h S
theorem opsK_canon {ro:Option Nat} {n:Nat} {all:Array Oper} {E:Act→World→Prop} (A:Ask C I cl yh yv):∀ (rest:List Nat) {Γ:Ctx} {Φ:Nat→Prop} {st:St σ} {a:Act} {w:World} {k:St σ→Option R},(∀ i∈rest,i<all.size)→Γ.yv=yv→
  opsK C cl yh all (rest.filterMap (all[·]?)) st k=some r→SI C I Γ Φ st a.tmps w→Nxt C I Γ Φ st.hp w a.defers k r E→CanonR (wideAt ro) n C.P all (kindAt C all) E rest a w
 | [],Γ,Φ,st,a,w,k,hlt,hyv,h,S,hN=>hN st a w Γ Φ h (Stp.refl S.hr) S rfl
 | i::rest,Γ,Φ,st,a,w,k,hlt,hyv,h,S,hN=>by
  have hil:=hlt i (by simp)
  obtain ⟨o,ho⟩:∃ o,all[i]? = some o:=⟨all[i],Array.getElem?_eq_getElem hil⟩
  have hlt':∀ j∈rest,j<all.size:=fun j hj=>hlt j (by simp [hj])
  rw [List.filterMap_cons,ho] at h
  have hkd:kindAt C all i=kindOp C o.op:=by simp only [kindAt,ho]
  have like:∀ {w1:World},Like w w1→Nxt C I Γ Φ st.hp w a.defers k r E→SI C I Γ Φ st a.tmps w1∧Nxt C I Γ Φ st.hp w1 a.defers k r E:=fun {w1} hw1 hN=>by
   obtain ⟨S1,hs1⟩:=S.like A.hI hw1
   exact ⟨S1,fun st' a' w' Γ' Φ' h1 h2 h3 h4=>hN st' a' w' Γ' Φ' h1 (hs1.trans h2) h3 h4⟩
  have run:∀ {st:St σ},Region.wanted o (yielded all a.tmps)=true→SI C I Γ Φ st a.tmps w→Nxt C I Γ Φ st.hp w a.defers k r E→opK C cl yh o st (fun st'=>opsK C cl yh all (rest.filterMap (all[·]?)) st' k)=some r→CanonR (wideAt ro) n C.P all (kindAt C all) E (i::rest) a w:=fun {st} hwt S hN h=>by
   have quiet:kindOp C o.op≤1→∃ V st',opsK C cl yh all (rest.filterMap (all[·]?)) st' k=some r∧YQ (wideAt ro) n C.P all (Nat.beq (kindOp C o.op) 1) w o V a∧SI C I Γ Φ st' (a.put o.dst V).tmps w∧Stp C Γ st.hp w Φ Γ st'.hp w Φ:=fun hk1=>by
    rcases kind_cases C o.op with ⟨hk,hb⟩ | ⟨hk,hq⟩ | ⟨hk,_⟩ | hk
    ·obtain ⟨V,st',h1,h2,h3,h4⟩:=blind0 (a:=a) hb h S
     refine ⟨V,st',h1,⟨fun _ _ _ _=>trivial,.inl ⟨hwt,fun w' _=>?_⟩⟩,h3,h4.lift Φ⟩
     unfold Oper.quietAtIn
     rw [h2 w']
     exact ⟨rfl,rfl⟩
    ·rw [hk]
     simp only [quietOp2,Bool.or_eq_true] at hq
     rcases hq with hq | hq
     ·obtain ⟨V,st',h1,h2,h3,h4⟩:=opK_quiet (a:=a) hq h S
      refine ⟨V,st',h1,⟨fun _ _ _ _=>trivial,.inl ⟨hwt,fun w' hw'=>?_⟩⟩,h3,h4.lift Φ⟩
      unfold Oper.quietAtIn
      rw [h2 w' (hw' rfl).1.1]
      exact ⟨rfl,rfl⟩
     ·obtain ⟨V,st',h1,h2,h3,h4⟩:=opX_quiet (ro:=ro) (n:=n) (a:=a) A.hI A.hX hq h S
      exact ⟨V,st',h1,⟨fun _ _ _ _=>trivial,.inl ⟨hwt,fun w' hw'=>h2 w' (hw' rfl)⟩⟩,h3,h4.lift Φ⟩
    ·omega
    ·omega
   simp only [CanonR]
   rw [hkd]
   refine ⟨fun hk1=>?_,fun hk2 w1 hw1=>?_⟩
   ·obtain ⟨V,st',h1,h2,h3,h4⟩:=quiet hk1
    exact ⟨o,V,ho,h2,opsK_canon A rest hlt' hyv h1 h3 fun st2 a2 w2 Γ2 Φ2 k1 k2 k3 k4=>hN st2 a2 w2 Γ2 Φ2 k1 (h4.trans k2) k3 (k4.trans (put_defers _ _ _))⟩
   ·obtain ⟨S1,hs1⟩:=S.like A.hI hw1
    unfold wpOpIn
    simp only [ho,hwt,if_true]
    rcases kind_cases C o.op with ⟨hk,_⟩ | ⟨hk,_⟩ | ⟨hk,hx⟩ | hk
    ·omega
    ·omega
    ·exact opE_wp A hyv hx h S1 fun st' a' w' Γ' Φ' h1 h2 h3 h4 hl=>⟨fun _=>hl,opsK_canon A rest hlt' (h2.yv.trans hyv) h1 h3 fun st2 a2 w2 Γ2 Φ2 k1 k2 k3 k4=>hN st2 a2 w2 Γ2 Φ2 k1 (hs1.trans (h2.trans k2)) k3 (k4.trans h4)⟩
    ·exact opK_wp A hyv h S1 fun st' a' w' Γ' Φ' h1 h2 h3 h4=>⟨fun e=>by omega,opsK_canon A rest hlt' (h2.yv.trans hyv) h1 h3 fun st2 a2 w2 Γ2 Φ2 k1 k2 k3 k4=>hN st2 a2 w2 Γ2 Φ2 k1 (hs1.trans (h2.trans k2)) k3 (k4.trans h4)⟩
  have skip:∀ {st:St σ},Region.wanted o (yielded all a.tmps)=false→SI C I Γ Φ st a.tmps w→Nxt C I Γ Φ st.hp w a.defers k r E→opsK C cl yh all (rest.filterMap (all[·]?)) { st with sl:=putS o.dst (.tup []) st.sl } k=some r→CanonR (wideAt ro) n C.P all (kindAt C all) E (i::rest) a w:=fun {st} hwt S hN h=>by
   simp only [CanonR]
   have go:∀ {w1:World},Like w w1→CanonR (wideAt ro) n C.P all (kindAt C all) E rest (a.put o.dst undef) w1:=fun {w1} hw1=>by
    obtain ⟨S1,hs1⟩:=S.like A.hI hw1
    exact opsK_canon A rest (st:={ st with sl:=putS o.dst (.tup []) st.sl }) hlt' hyv h (S1.put (o:=o) undef_VP (by simp [PV.nms,nmsL])) fun st2 a2 w2 Γ2 Φ2 k1 k2 k3 k4=>hN st2 a2 w2 Γ2 Φ2 k1 (hs1.trans k2) k3 (k4.trans (put_defers _ _ _))
   refine ⟨fun hk1=>⟨o,undef,ho,⟨fun _ _ _ _=>trivial,.inr ⟨hwt,rfl⟩⟩,go (Like.refl w)⟩,fun hk2 w1 hw1=>?_⟩
   unfold wpOpIn
   simp only [ho,hwt,Bool.false_eq_true,if_false]
   exact ⟨fun _ _=>trivial,fun _=>Like.refl w1,go hw1⟩
  simp only [opsK] at h
  split at h
  ·rename_i hg
   exact run (by simp [Region.wanted,hg]) S hN h
  ·rename_i j want hg
   split at h
   ·rename_i g hjg
    have hyd1:∀ b,a.tmps[g]? = some (.bool b)→yielded all a.tmps j=some b:=fun b e=>by simp [yielded,hjg,e]
    have hyd0:(∀ b,a.tmps[g]?≠some (.bool b))→yielded all a.tmps j=none:=fun hne=>by
     simp only [yielded,hjg,Option.bind_some]
    have hslot:∀ v,st.sl.getD g (.tup [])=v→∀ V,a.tmps[g]? = some V→VP Γ (shpOf st.hp) w v V:=fun v hv V hV=>by
     have hlt:g<st.sl.length:=by rw [←S.sr.size];exact (Array.getElem?_eq_some_iff.1 hV).1
     obtain ⟨U,e1,e2⟩:=S.sr.slot g hlt
     rw [e1] at hV
     simp only [Option.some.injEq] at hV
     subst hV
     rw [getD_lt hlt] at hv
     rw [←hv];exact e2
    split at h
    ·rename_i b hb
     have hlt:g<st.sl.length:=Decidable.byContradiction fun hge=>by
      rw [List.getD_eq_getElem?_getD,List.getElem?_eq_none (Nat.le_of_not_lt hge)] at hb
      cases hb
     obtain ⟨U,e1,e2⟩:=S.sr.slot g hlt
     have hU:=(hslot _ hb U e1).inv_bool
     subst hU
     have hyd':yielded all a.tmps j=some b:=hyd1 b e1
     have S':SI C I Γ Φ { st with sl:=st.sl.set g (.s (.bool b)) } a.tmps w:=⟨S.hr,S.sr.set g (hslot _ hb) (by simp [PV.nms]),S.g,S.inv,S.dis⟩
     have hsp:(if (b==want)=true then opK C cl yh o { st with sl:=st.sl.set g (.s (.bool b)) } (fun st'=>opsK C cl yh all (rest.filterMap (all[·]?)) st' k) else opsK C cl yh all (rest.filterMap (all[·]?)) { st with sl:=putS o.dst (.tup []) (st.sl.set g (.s (.bool b))) } k)=some r:=by
      cases b<;>exact h
     by_cases hbw:b=want
     ·rw [if_pos (by simpa using hbw)] at hsp
      exact run (by simp [Region.wanted,hg,hyd',hbw]) S' hN hsp
     ·rw [if_neg (by simpa using hbw)] at hsp
      exact skip (by simp [Region.wanted,hg,hyd',hbw]) S' hN hsp
    ·rename_i hb
     have hyd':yielded all a.tmps j=none:=hyd0 fun b hbb=>by
      obtain ⟨B,e,_⟩:=(hslot _ hb _ hbb).inv_tup
      cases e
     exact skip (by simp [Region.wanted,hg,hyd']) S hN h
    ·cases h
   ·cases h
def ndOp:Op→Bool
 | .defer _=>false
 | _=>true
def regOK (C:Cfg) (ops:Array Oper):Bool:=
 Region.noSelect ops&&(ops.toList.all (fun o=>ndOp o.op)&&(Nat.beq (ordOf C ops.toList).length ops.size&&((ordOf C ops.toList).all (fun i=>Nat.ble (i+1) ops.size)&&canonB .any ops (kindAt C ops) (ordOf C ops.toList) (Array.replicate ops.size false))))
def seenBy (o:Oper):List Nat:=o.op.operands.toList.filterMap fun x=>match x with | .tmp t=>some t | _=>none
def rowApart (ops:Array Oper) (i4:Nat) (mid:List Nat):Bool:=match ops[i4]? with
 | some o4=>(match o4.dst with | some _=>true | none=>false)&&mid.all fun i=>match ops[i]? with
  | some o=>(match o.dst with | some d=>!(seenBy o4).contains d && !(o4.dst==some d) | none=>true)
  | none=>false
 | none=>false
def regOKr (C:Cfg) (ops:Array Oper) (i4:Nat):Bool:=
 Region.noSelect ops&&(ops.toList.all (fun o=>ndOp o.op)&&(Nat.beq (rowPre C ops++(rowMid C ops i4++i4::rowPost C ops i4)).length ops.size&&((rowPre C ops++(rowMid C ops i4++i4::rowPost C ops i4)).all (fun i=>Nat.ble (i+1) ops.size) &&
  (rowApart ops i4 (rowMid C ops i4)&&(Nat.beq (kindAt C ops i4) 2&&canonC .any ops (kindAt C ops) (canonMB .any ops (kindAt C ops) i4 (rowPost C ops i4) (rowMid C ops i4)) (rowPre C ops) (Array.replicate ops.size false))))))
def regOK2 (C:Cfg) (id:Nat) (ops:Array Oper):Bool:=match C.rowR id with
 | none=>regOK C ops
 | some i=>regOKr C ops i
def codeOKr (C:Cfg) (rf:Bool):Code→Bool
 | .region id ops d=>!d || regOK2 C id ops
 | .seq a b=>codeOKr C rf a&&codeOKr C rf b
 | .cond _ a b=>codeOKr C rf a&&codeOKr C rf b
 | .block _ a=>codeOKr C rf a
 | .loop a=>codeOKr C rf a
 | .scope a=>codeOKr C rf a
 | .rangeFunc _ _ a b=>rf&&codeOKr C false a&&codeOKr C false b
 | _=>true
def codeOK (C:Cfg) (c:Code):Bool:=codeOKr C true c
theorem region_wp {ro:Option Nat} {n id:Nat} {ops:Array Oper} {Q:Exit→Act→World→Prop} {k:St σ→Option R} (A:Ask C I cl yh yv) (hm:C.P.follows .mixedOrders=true) (hok:regOK C ops=true) (hyv:Γ.yv=yv) (h:opsK C cl yh ops (regL C ops true) st k=some r) (S:SI C I Γ Φ st a.tmps w)
  (hN:Nxt C I Γ Φ st.hp w a.defers k r (fun a' w'=>Q .normal a' w')):(Code.region id ops true).wpIn (wideAt ro) n C.P Q a w:=by
 simp only [regOK,Bool.and_eq_true] at hok
 obtain ⟨h1,h2,h3,h4,h5⟩:=hok
 rw [List.all_eq_true] at h2 h4
 refine wpIn_region_canon (kind:=kindAt C ops) (ord:=ordOf C ops.toList) hm h1 (fun j o c ho e=>?_) (fun j hj=>?_) (Nat.eq_of_beq_eq_true h3) h5 (opsK_canon A _ (fun i hi=>ble_le (h4 i hi)) hyv h S fun st' a' w' Γ' Φ' k1 k2 k3 k4 w1 hw1=>?_)
 case refine_3=>
  obtain ⟨S1,hs1⟩:=k3.like A.hI hw1
  exact hN st' a' w1 Γ' Φ' k1 (k2.trans hs1) S1 k4
 ·have:=h2 o (by simpa using Array.mem_of_getElem? ho)
  rw [e] at this
  cases this
 ·simp only [kindAt,Array.getElem?_eq_none hj]
  exact Nat.le_refl _
def Trn.B (C:Cfg) (V:Value) (x:Obj) (g:Nat):Trn→Prop
 | .row v=>∀ (St:Nat→Prop) (w1:World),St g→w1.heap[g]? = some x→VS St w1 v V
 | .var e=>(C.ti e).ok=true∧(∀ n el,C.sh e≠.array n el)∧V = .pointer (some ⟨g,0,none⟩)∧∃ z:Value,x = .cells z.cells e∧∀ (Γ:Ctx) sh w,CR Γ sh w ((C.ti e).ks.map zeroCK) z.cells
def RowAt (C:Cfg) (o:Oper) (ev:Operand→Value) (t:Trn):Prop:=∀ w:World,∃ V x,(execOp ev o).run C.P w = .ok (.value V) (w.alloc x)∧t.B C V x w.heap.size
def rowOp (op:Op):Prop:=(∃ t len ps,op = .buildSlice t len ps)∨∃ e,op = .alloc e
theorem plain_VS {St St':Nat→Prop} {w w':World} {v:SV} {U:Value} (hp:v.plain=true) (h:VS St w v U):VS St' w' v U:=by
 cases h with
 | bool b=>exact .bool b
 | int k n=>exact .int k n
 | str s=>exact .str s
 | nilp=>exact .nilp
 | nilm=>exact .nilm
 | nilf=>exact .nilf
 | _=>simp [SV.plain] at hp
theorem rowK_sound {k:Trn→Option R} (S:SI C I Γ Φ st a.tmps w) (h:rowK C o st.sl k=some r):o.guard=none∧rowOp o.op∧∃ t,k t=some r∧RowAt C o a.eval t:=by
 unfold rowK at h
 split at h
 ·rename_i e hg hop
  refine ⟨hg,.inr ⟨_,hop⟩,?_⟩
  split at h
  ·cases h
  ·rename_i hsh
   obtain ⟨hok,h⟩:=need_some h
   refine ⟨_,h,fun w1=>?_⟩
   obtain ⟨z,h1,h2,_⟩:=alloc_run (Γ:=Γ) (ev:=a.eval) (w:=w1) hok hop
   exact ⟨_,_,h1,hok,hsh,rfl,z,rfl,h2⟩
 ·rename_i t len parts hg hop
  refine ⟨hg,.inl ⟨_,_,_,hop⟩,?_⟩
  split at h
  ·rename_i e hsh
   split at h
   ·rename_i hok
    simp only [Bool.and_eq_true,decide_eq_true_eq] at hok
    obtain ⟨⟨hok,hsmall⟩,hlen⟩:=hok
    split at h
    ·rename_i out hf
     split at h
     ·rename_i vs hvs
      obtain ⟨hpl,h⟩:=need_some h
      refine ⟨_,h,?_⟩
      obtain ⟨hp,_⟩:=S.parts parts.toList
      obtain ⟨i,z,hi,hz,hsz,hCR⟩:=zero_CR (Γ:=Γ) (sh:=shpOf st.hp) (w:=w) hok
      obtain ⟨_,_,_,hpos⟩:=ok_size hok
      have hks:0<(C.ti e).ks.length:=by rename_i h1 h2;omega
      have hM:=made_CR hCR (by simpa using hks) len
      rw [List.length_map] at hM
      obtain ⟨B,e1,e2,e3⟩:=fill_sound (place':=fun j=>some (j*i.size,i.size)) (fun j off size hj h0=>by rw [hsz];exact hj) hf hM hp
      obtain ⟨f1,f2⟩:=svs_sound (As:=B.toList) hvs (by simpa using e2.1.symm) (fun j hj=>by
       obtain ⟨U,e,k⟩:=e2.2 j hj
       exact ⟨U,by simpa using e,k⟩)
      have hBs:B.size=len*(C.ti e).ks.length:=by
       have hlenf:∀ {place:Nat→Option (Nat × Nat)} {ps:List (Nat × PV)} {cells out:List PV},fillP place cells ps=some out→out.length=cells.length:=by
        intro place ps
        induction ps with
        | nil=>intro cells out h;simp only [fillP,Option.some.injEq] at h;rw [h]
        | cons p ps ih=>
         intro cells out h
         obtain ⟨i,v⟩:=p
         simp only [fillP] at h
         split at h
         ·split at h
          ·rw [ih h,putAt_length]
          ·cases h
         ·cases h
       rw [e2.1,hlenf hf,flat_length,List.length_map]
      have hvl:vs.length=len*(C.ti e).ks.length:=by rw [f1,Array.length_toList,hBs]
      intro w2
      have hr:=run_buildSlice_gen (P:=C.P) w2 len (parts.map fun (i,x)=>(i,a.eval x)) B (sh_slice hsh) hi hz (by rw [hsz];exact hsmall) (by rw [hsz] at e1 ⊢;rw [Array.toList_map];exact e1)
      refine ⟨.slice (some ⟨w2.heap.size,0,none⟩) len len,.cells B e,by simp only [execOp,hop];simp [hr],fun St w1 hSt hx=>?_⟩
      refine .sl true _ w2.heap.size 0 len len _ (fun i j=>(B[i*(C.ti e).ks.length+j]?).getD undef) (by rw [chunk_length]) (Nat.le_refl _) (by simp only [maxLen];omega) (fun _=>rfl) hSt (fun i hi=>(chunk_get _ _ _ hvl i hi).1) (fun i hi j hj=>?_) (fun i hi j hj=>?_)
      ·obtain ⟨h2,_⟩:=(chunk_get _ _ _ hvl i hi).2 j hj
       have:i*(C.ti e).ks.length+j<B.size:=by rw [hBs,←hvl];exact h2
       simp [World.cell?,hx,this]
      ·obtain ⟨h2,e4⟩:=(chunk_get _ _ _ hvl i hi).2 j hj
       obtain ⟨U,e5,k5⟩:=f2 _ h2
       rw [e4]
       have e6:(B[i*(C.ti e).ks.length+j]?).getD undef=U:=by
        rw [Array.getElem?_toList] at e5
        rw [e5];rfl
       rw [e6]
       exact plain_VS (List.all_eq_true.1 hpl _ (List.getElem_mem h2)) k5
     ·cases h
    ·cases h
   ·cases h
  ·cases h
 ·cases h
theorem agree_eval {d:Option Tmp} {a a':Act} (h:Agree d a a') {o4:Oper} (hd:∀ t,d=some t→t∉seenBy o4):∀ x∈o4.op.operands,a'.eval x=a.eval x:=by
 intro x hx
 cases x with
 | tmp t=>
  have:d≠some t:=fun e=>hd t e (List.mem_filterMap.2 ⟨.tmp t,by simpa using hx,rfl⟩)
  have e:=h t this
  simp only [Act.eval,Array.getD_eq_getD_getElem?,e]
 | _=>rfl
theorem rowE_wp {ro:Option Nat} {n:Nat} {all:Array Oper} {i4:Nat} {o4:Oper} {t:Trn} (ho:all[i4]? = some o4) (hg:o4.guard=none) (hop:rowOp o4.op) (hrow:RowAt C o4 a.eval t) {K:Act→World→Prop}
  (h:∀ V x,t.B C V x w.heap.size→K (a.put o4.dst V) (w.alloc x)):wpOpIn (wideAt ro) n C.P all QF i4 K a w:=by
 unfold wpOpIn
 simp only [ho]
 rw [if_pos (by simp [Region.wanted,hg])]
 refine ⟨fun _ _=>trivial,?_⟩
 rw [Oper.semAt_eq _ _ _ (fun c e=>by rcases hop with ⟨_,_,_,h⟩ | ⟨_,h⟩<;>rw [h] at e<;>cases e)]
 obtain ⟨V,x,h1,h2⟩:=hrow w
 rw [h1]
 exact h V x h2
structure Ahead (C:Cfg) (d:Option Tmp) (t:Trn) (g:Nat) (x:Obj) (Γ:Ctx) (Φ:Nat→Prop) (a:Act) (w:World):Prop where
 at':w.heap[g]? = some x
 st:¬ Γ.St g
 nm:∀ b,Γ.nm b≠some g
 fo:¬ Φ g
 ex:∃ V,t.B C V x g
 val:∀ V,(∃ t,d=some t∧a.tmps[t]? = some V)→t.B C V x g
theorem set_mask (S:SI C I Γ Φ st a.tmps w) (d:Option Tmp):SI C I Γ Φ { st with sl:=putS d .bad st.sl } a.tmps w:=by
 cases d with
 | none=>exact S
 | some t=>exact ⟨S.hr,S.sr.set t (fun V _=>.bad V) (by simp [PV.nms]),S.g,S.inv,S.dis⟩
theorem set_row (S:SI C I Γ Φ st a.tmps w) {d:Option Tmp} {v:PV} (h:∀ V,(∃ t,d=some t∧a.tmps[t]? = some V)→VP Γ (shpOf st.hp) w v V) (hn:∀ c∈v.nms,c<st.hp.length):SI C I Γ Φ { st with sl:=putS d v st.sl } a.tmps w:=by
 cases d with
 | none=>exact S
 | some t=>exact ⟨S.hr,S.sr.set t (fun V hV=>h V ⟨t,rfl,hV⟩) hn,S.g,S.inv,S.dis⟩
theorem Ahead.step {Γ':Ctx} {Φ':Nat→Prop} {H':List Blk} {a':Act} {w':World} {d4 d:Option Tmp} {t:Trn} {g:Nat} {x:Obj} (h:Ahead C d4 t g x Γ Φ a w) (hs:Stp C Γ st.hp w Φ Γ' H' w' Φ') (hag:Agree d a a') (hne:d4≠none→d≠d4):Ahead C d4 t g x Γ' Φ' a' w':=by
 have hlt:g<w.heap.size:=(Array.getElem?_eq_some_iff.1 h.at').1
 refine ⟨by rw [hs.frame g hlt h.nm h.fo];exact h.at',fun e=>?_,fun b e=>?_,fun e=>?_,h.ex,?_⟩
 ·rcases hs.stnew g e with e | e
  ·exact h.st e
  ·omega
 ·rcases hs.own b g e with ⟨_,e⟩ | e
  ·exact h.nm b e
  ·omega
 ·rcases hs.foot g e with e | e
  ·exact h.fo e
  ·omega
 ·rintro V ⟨t,ht,hV⟩
  have:d≠some t:=fun e=>hne (by rw [ht];simp) (by rw [e,ht])
  rw [hag t this] at hV
  exact h.val V ⟨t,ht,hV⟩
theorem adopt_mono {H:List Blk} (x:Blk) (g:Nat):Mono Γ (shpOf H) w (Γ.upd H.length g) (shpOf (H++[x])) w (· < H.length):=
 ⟨fun _ _=>rfl,fun _ h=>h,fun b hb=>by simp only [Ctx.upd];rw [if_neg (by omega)],fun b hb=>shpOf_append_lt hb,fun _ _ _ _=>rfl,rfl⟩
theorem Stp.adopt {Γ0:Ctx} {H0 H:List Blk} {w0:World} {Φ0:Nat→Prop} {g:Nat} (x:Blk) (hs:Stp C Γ0 H0 w0 Φ0 Γ H w Φ) (hg:w0.heap.size≤g):Stp C Γ0 H0 w0 Φ0 (Γ.upd H.length g) (H++[x]) w Φ:=by
 have hl:=hs.len
 refine ⟨hs.os,hs.tape,hs.output,hs.size,hs.sub,hs.stnew,fun b g' h=>?_,hs.foot,hs.frame,hs.yv,by simp;omega,fun b hb hf=>?_⟩
 ·simp only [Ctx.upd] at h
  split at h
  ·simp only [Option.some.injEq] at h
   exact .inr (by omega)
  ·exact hs.own b g' h
 ·obtain ⟨p1,p2,p3⟩:=hs.keep b hb hf
  exact ⟨by simp only [Ctx.upd];rw [if_neg (by omega)];exact p1,by rw [shpOf_append_lt (by omega)];exact p2,p3⟩
theorem SI.adopt (S:SI C I Γ Φ st a.tmps w) {x:Blk} {g:Nat} (hlt:g<w.heap.size) (h1:¬ Γ.St g) (h2:∀ b,Γ.nm b≠some g) (h3:¬ Φ g) (hb:BR (Γ.upd st.hp.length g) (shpOf (st.hp++[x])) w st.hp.length x) (hn:∀ c∈x.nms,c<st.hp.length+1) :
  SI C I (Γ.upd st.hp.length g) Φ { st with hp:=st.hp++[x] } a.tmps w:=by
 have M:Mono Γ (shpOf st.hp) w (Γ.upd st.hp.length g) (shpOf (st.hp++[x])) w (· < st.hp.length):=adopt_mono x g
 refine ⟨⟨fun b b' g' k1 k2=>?_,fun b g' h=>?_,S.hr.stlt,fun b hb' c hc=>?_,fun b hb'=>?_⟩,SR.grow M S.sr,S.g,S.inv,fun b g' h=>?_⟩
 ·simp only [Ctx.upd] at k1 k2
  split at k1<;>split at k2
  ·omega
  ·rw [←k1] at k2;exact absurd k2 (h2 b')
  ·rw [←k2] at k1;exact absurd k1 (h2 b)
  ·exact S.hr.inj b b' g' k1 k2
 ·simp only [Ctx.upd] at h
  split at h
  ·simp only [Option.some.injEq] at h
   subst h
   exact ⟨by simp;omega,hlt,h1⟩
  ·have:=S.hr.lt b g' h
   exact ⟨by simp;omega,this.2⟩
 ·rw [List.length_append,List.length_singleton] at hb' ⊢
  by_cases e:b=st.hp.length
  ·subst e
   simp at hc
   exact hn c hc
  ·have hb2:b<st.hp.length:=by omega
   rw [List.getElem_append_left hb2] at hc
   have:=S.hr.nms b hb2 c hc;omega
 ·rw [List.length_append,List.length_singleton] at hb'
  by_cases e:b=st.hp.length
  ·subst e
   simpa using hb
  ·have hb2:b<st.hp.length:=by omega
   rw [List.getElem_append_left hb2]
   exact (S.hr.blk b hb2).mono M (M.nm b hb2) (fun _ _=>rfl) (fun c hc=>S.hr.nms b hb2 c hc)
 ·simp only [Ctx.upd] at h
  split at h
  ·simp only [Option.some.injEq] at h
   subst h
   exact h3
  ·exact S.dis b g' h
theorem turn_sound {Γ0:Ctx} {H0:List Blk} {w0:World} {Φ0:Nat→Prop} {k:St σ→Option R} {d:Option Tmp} {t:Trn} {g:Nat} {x:Obj} (hI:HI I) (S:SI C I Γ Φ st a.tmps w) (h:turnK C d t st k=some r) (hah:Ahead C d t g x Γ Φ a w) (hs:Stp C Γ0 H0 w0 Φ0 Γ st.hp w Φ) (hg:w0.heap.size≤g) :
  ∃ st' Γ',k st'=some r∧SI C I Γ' Φ st' a.tmps w∧Stp C Γ0 H0 w0 Φ0 Γ' st'.hp w Φ:=by
 have hlt:g<w.heap.size:=(Array.getElem?_eq_some_iff.1 hah.at').1
 cases t with
 | row v=>
  have S':=S.wideSt hI (St':=fun y=>Γ.St y∨y=g) (fun _ h=>.inl h) (fun y hy=>by rcases hy with hy | rfl;exact fun e=>(hI.foot _ _ _ _ S.inv y e).2 hy;exact hah.fo) (fun b y hb=>by
   rintro (hy | rfl)
   ·exact (S.hr.lt b y hb).2.2 hy
   ·exact hah.nm b hb) (fun y hy=>by rcases hy with hy | rfl;exact S.hr.stlt y hy;exact hlt)
  exact ⟨_,_,h,set_row S' (fun V hV=>.s _ _ (hah.val V hV _ _ (.inr rfl) hah.at')) (by simp [PV.nms]),⟨hs.os,hs.tape,hs.output,hs.size,fun y hy=>.inl (hs.sub y hy),fun y hy=>by rcases hy with hy | rfl;exact hs.stnew y hy;exact .inr hg,hs.own,hs.foot,hs.frame,hs.yv,hs.len,hs.keep⟩⟩
 | var e=>
  obtain ⟨_,hok,hsh,_,z,rfl,hz⟩:=hah.ex
  simp only [turnK,boxK,hok,if_true] at h
  have hc:=hz Γ (shpOf st.hp) w
  obtain ⟨T,e1,e2,e3,e4,e5,e6,e7⟩:=nameNils_sound (C:=C) (C.nilT e) ((C.ti e).ks.map zeroCK) 0 st.hp z.cells.toList S.hr (by simpa using hc.1.symm) (fun j hj=>by
   obtain ⟨U,e,k⟩:=hc.2 j hj
   exact ⟨U,by simpa using e,k⟩) (by rw [zero_nms];simp)
  rw [e1] at h
  have S1:SI C I Γ Φ { st with hp:=st.hp++T } a.tmps w:=⟨e2,SR.grow e4 S.sr,S.g,S.inv,S.dis⟩
  have S2:=S1.adopt (x:=.box (nameNils (C.nilT e) ((C.ti e).ks.map zeroCK) 0 st.hp).1) hlt hah.st hah.nm hah.fo ⟨g,z.cells,e,by simp [Ctx.upd],hah.at',by simpa using e5.symm,fun j hj=>by
   obtain ⟨U,f1,f2⟩:=e6 j hj
   exact ⟨U,by simpa using f1,f2.mono (adopt_mono _ g) fun c hc=>e7 c (mem_nmsL.2 ⟨j,hj,hc⟩)⟩⟩ (fun c hc=>by have:=e7 c hc;simp only at this ⊢;omega)
  exact ⟨_,_,h,set_row S2 (fun V hV=>by
   obtain ⟨_,_,rfl,_⟩:=hah.val V hV
   exact .ptrB _ 0 g shpOf_append_eq (by simp [Ctx.upd])) (by simp [PV.nms]),Stp.adopt _ (hs.trans (e3.lift Φ)) hg⟩
theorem apart_mid {all:Array Oper} {i4:Nat} {o4:Oper} {i:Nat} {rest:List Nat} (ho:all[i4]? = some o4) (hap:rowApart all i4 (i::rest)=true):∃ o,all[i]? = some o∧(∀ t,o.dst=some t→t∉seenBy o4)∧(o4.dst≠none→o.dst≠o4.dst)∧rowApart all i4 rest=true:=by
 unfold rowApart at hap ⊢
 simp only [ho,List.all_cons,Bool.and_eq_true] at hap ⊢
 obtain ⟨h0,h1,h2⟩:=hap
 split at h1
 ·rename_i o hi
  refine ⟨o,hi,fun t ht hm=>?_,fun _ hd=>?_,h0,h2⟩
  ·simp only [ht,Bool.and_eq_true,Bool.not_eq_true',List.contains_iff_mem,←Bool.not_eq_true] at h1
   exact h1.1 hm
  ·cases hod:o.dst with
   | none=>
    rw [hod] at hd
    rw [←hd] at h0
    simp at h0
   | some t=>
    rw [hod] at hd
    simp only [hod,Bool.and_eq_true,Bool.not_eq_true',←hd,beq_self_eq_true] at h1
    exact absurd h1.2 (by simp)
 ·cases h1
theorem opsM_ahead {ro:Option Nat} {n:Nat} {all:Array Oper} {E:Act→World→Prop} {i4:Nat} {o4:Oper} {t:Trn} {post:List Nat} {Γ0:Ctx} {H0:List Blk} {w0:World} {Φ0:Nat→Prop} {ds:List Deferred} {g:Nat} {x:Obj} {k:St σ→Option R} (A:Ask C I cl yh yv) (ho:all[i4]? = some o4) (hpost:∀ i∈post,i<all.size) (hg:w0.heap.size≤g) (hN:Nxt C I Γ0 Φ0 H0 w0 ds k r E):∀ (mid:List Nat) {Γ:Ctx} {Φ:Nat→Prop} {st:St σ} {a:Act} {w:World},(∀ i∈mid,i<all.size)→rowApart all i4 mid=true→Γ.yv=yv→
  opsMK C cl yh all o4.dst mid st (fun st2=>turnK C o4.dst t st2 fun st3=>opsK C cl yh all (post.filterMap (all[·]?)) st3 k)=some r→SI C I Γ Φ st a.tmps w→Ahead C o4.dst t g x Γ Φ a w→Stp C Γ0 H0 w0 Φ0 Γ st.hp w Φ→a.defers=ds→CanonR (wideAt ro) n C.P all (kindAt C all) E (mid++post) a w
 | [],Γ,Φ,st,a,w,hlt,hap,hyv,h,S,hah,hs,hd=>by
  simp only [opsMK] at h
  obtain ⟨st',Γ',h',S',hs'⟩:=turn_sound A.hI S h hah hs hg
  exact opsK_canon A post hpost (hs'.yv.trans (hs.yv.symm.trans hyv)) h' S' fun st2 a2 w2 Γ2 Φ2 q1 q2 q3 q4=>hN st2 a2 w2 Γ2 Φ2 q1 (hs'.trans q2) q3 (q4.trans hd)
 | i::rest,Γ,Φ,st,a,w,hlt,hap,hyv,h,S,hah,hs,hd=>by
  obtain ⟨o,hi,hd1,hd2,hap'⟩:=apart_mid ho hap
  simp only [opsMK] at h
  exact canon_agree (E:=CanonR (wideAt ro) n C.P all (kindAt C all) E (rest++post)) hi (opsK_canon A [i] (fun j hj=>hlt j (by simp at hj;simp [hj])) hyv h S fun st' a' w' Γ' Φ' k1 k2 k3 k4 hag=>
   opsM_ahead A ho hpost hg hN rest (fun j hj=>hlt j (by simp [hj])) hap' (k2.yv.trans hyv) k1 (set_mask k3 o4.dst) (hah.step k2 hag hd2) (hs.trans k2) (k4.trans hd))
theorem opsM_canon {ro:Option Nat} {n:Nat} {all:Array Oper} {E:Act→World→Prop} {i4:Nat} {o4:Oper} {t:Trn} {post:List Nat} (A:Ask C I cl yh yv) (ho:all[i4]? = some o4) (hg:o4.guard=none) (hop:rowOp o4.op) (hpost:∀ i∈post,i<all.size):∀ (mid:List Nat) {Γ:Ctx} {Φ:Nat→Prop} {st:St σ} {a:Act} {w:World} {k:St σ→Option R},(∀ i∈mid,i<all.size)→rowApart all i4 mid=true→Γ.yv=yv→
  opsMK C cl yh all o4.dst mid { st with sl:=putS o4.dst .bad st.sl } (fun st2=>turnK C o4.dst t st2 fun st3=>opsK C cl yh all (post.filterMap (all[·]?)) st3 k)=some r→SI C I Γ Φ st a.tmps w→RowAt C o4 a.eval t→Nxt C I Γ Φ st.hp w a.defers k r E→CanonM (wideAt ro) n C.P all (kindAt C all) E i4 post mid a w:=by
 have early:∀ (mid:List Nat) {Γ:Ctx} {Φ:Nat→Prop} {st:St σ} {a:Act} {w:World} {k:St σ→Option R},(∀ i∈mid,i<all.size)→rowApart all i4 mid=true→Γ.yv=yv→
   opsMK C cl yh all o4.dst mid { st with sl:=putS o4.dst .bad st.sl } (fun st2=>turnK C o4.dst t st2 fun st3=>opsK C cl yh all (post.filterMap (all[·]?)) st3 k)=some r→SI C I Γ Φ st a.tmps w→RowAt C o4 a.eval t→Nxt C I Γ Φ st.hp w a.defers k r E→
   ∀ w1,Like w w1→wpOpIn (wideAt ro) n C.P all QF i4 (fun a' w'=>Like w1 w'∧CanonR (wideAt ro) n C.P all (kindAt C all) E (mid++post) a' w') a w1:=by
  intro mid Γ Φ st a w k hlt hap hyv h S hrow hN w1 hw1
  refine rowE_wp ho hg hop hrow fun V x hV=>⟨alloc_like w1 x,?_⟩
  obtain ⟨S1,hs1⟩:=S.like A.hI hw1
  obtain ⟨S2,hs2⟩:=S1.like A.hI (alloc_like w1 x)
  refine opsM_ahead (a:=a.put o4.dst V) A ho hpost hw1.1.2 hN mid hlt hap hyv h (S2.put (o:=o4) (v:=.bad) (V:=V) (.bad V) (by simp [PV.nms])) ⟨heap_push_eq rfl,fun e=>Nat.lt_irrefl _ (S1.hr.stlt _ e),fun b e=>Nat.lt_irrefl _ (S1.hr.lt b _ e).2.1,fun e=>Nat.lt_irrefl _ (A.hI.foot _ _ _ _ S1.inv _ e).1,⟨V,hV⟩,?_⟩ (hs1.trans hs2) (put_defers _ _ _)
  rintro V' ⟨t,ht,hV'⟩
  have e:V'=V:=by
   rw [ht] at hV'
   simp only [Act.put] at hV'
   have:=(Array.getElem?_eq_some_iff.1 hV').1
   simp at this
   simpa [this] using hV'.symm
  rw [e]
  exact hV
 intro mid
 induction mid with
 | nil=>
  intro Γ Φ st a w k hlt hap hyv h S hrow hN
  exact early [] hlt hap hyv h S hrow hN
 | cons i rest ih=>
  intro Γ Φ st a w k hlt hap hyv h S hrow hN
  refine ⟨?_,fun _=>early (i::rest) hlt hap hyv h S hrow hN⟩
  obtain ⟨o,hi,hd1,hd2,hap'⟩:=apart_mid ho hap
  have S0:=set_mask S o4.dst
  simp only [opsMK] at h
  exact canon_agree (E:=CanonM (wideAt ro) n C.P all (kindAt C all) E i4 post rest) hi (opsK_canon A [i] (fun j hj=>hlt j (by simp at hj;simp [hj])) hyv h S0 fun st' a' w' Γ' Φ' k1 k2 k3 k4 hag=>
   ih (fun j hj=>hlt j (by simp [hj])) hap' (k2.yv.trans hyv) k1 k3 (by
    have e:=execOp_congr (ρ:=a'.eval) (ρ':=a.eval) o4 (fun cs b e=>by rcases hop with ⟨_,_,_,h⟩ | ⟨_,h⟩<;>rw [h] at e<;>cases e) (agree_eval hag hd1)
    unfold RowAt at hrow ⊢
    rw [e]
    exact hrow) fun st2 a2 w2 Γ2 Φ2 q1 q2 q3 q4=>hN st2 a2 w2 Γ2 Φ2 q1 (k2.trans q2) q3 (q4.trans k4))
theorem region_row {ro:Option Nat} {n id i4:Nat} {ops:Array Oper} {o4:Oper} {Q:Exit→Act→World→Prop} {k:St σ→Option R} (A:Ask C I cl yh yv) (hm:C.P.follows .mixedOrders=true) (hok:regOKr C ops i4=true) (hyv:Γ.yv=yv) (ho:ops[i4]? = some o4)
  (h:(opsK C cl yh ops ((rowPre C ops).filterMap (ops[·]?)) st fun st1=>rowK C o4 st1.sl fun t=>
    opsMK C cl yh ops o4.dst (rowMid C ops i4) { st1 with sl:=putS o4.dst .bad st1.sl } fun st2=>turnK C o4.dst t st2 fun st3=>
     opsK C cl yh ops ((rowPost C ops i4).filterMap (ops[·]?)) st3 k)=some r) (S:SI C I Γ Φ st a.tmps w)
  (hN:Nxt C I Γ Φ st.hp w a.defers k r (fun a' w'=>Q .normal a' w')):(Code.region id ops true).wpIn (wideAt ro) n C.P Q a w:=by
 simp only [regOKr,Bool.and_eq_true] at hok
 obtain ⟨h1,h2,h3,h4,h5,h6,h7⟩:=hok
 rw [List.all_eq_true] at h2 h4
 have hnd:∀ (j:Nat) (o:Oper) c,ops[j]? = some o→o.op≠.defer c:=fun j o c ho e=>by
  have:=h2 o (by simpa using Array.mem_of_getElem? ho)
  rw [e] at this
  cases this
 have hk:∀ j,ops.size≤j→kindAt C ops j≤1:=fun j hj=>by
  simp only [kindAt,Array.getElem?_eq_none hj]
  exact Nat.le_refl _
 have hlt:∀ j,j∈rowPre C ops∨j∈rowMid C ops i4∨j∈rowPost C ops i4→j<ops.size:=fun j hj=>ble_le (h4 j (by
  rcases hj with hj | hj | hj<;>simp [hj]))
 have hC:CanonR (wideAt ro) n C.P ops (kindAt C ops) (CanonM (wideAt ro) n C.P ops (kindAt C ops) (fun a w0=>∀ w,Like w0 w→Q .normal a w) i4 (rowPost C ops i4) (rowMid C ops i4)) (rowPre C ops) a w:=
  opsK_canon A _ (fun i hi=>hlt i (.inl hi)) hyv h S fun st1 a1 w1 Γ1 Φ1 k1 k2 k3 k4=>by
   obtain ⟨hg,hop,v,hv,hrow⟩:=rowK_sound k3 k1
   exact opsM_canon A ho hg hop (fun i hi=>hlt i (.inr (.inr hi))) _ (fun i hi=>hlt i (.inr (.inl hi))) h5 (k2.yv.trans hyv) hv k3 hrow fun st2 a2 w2 Γ2 Φ2 q1 q2 q3 q4 w3 hw3=>by
    obtain ⟨S3,hs3⟩:=q3.like A.hI hw3
    exact hN st2 a2 w3 Γ2 Φ2 q1 (k2.trans (q2.trans hs3)) S3 (q4.trans k4)
 refine wpIn_region_any hm ?_
 have hlen:=Nat.eq_of_beq_eq_true h3
 have e:ops.size=(rowPost C ops i4).length+1+(rowMid C ops i4).length+(rowPre C ops).length:=by
  rw [←hlen]
  simp only [List.length_append,List.length_cons]
  omega
 rw [e]
 refine wpAnyIn_of_R (wr:=fun j=>Nat.ble 3 (kindAt C ops j)) (Qn:=fun a w=>Q .normal a w) (fun _ _ h=>h) _ _ _ _ (canon_R (fin:=canonMB .any ops (kindAt C ops) i4 (rowPost C ops i4) (rowMid C ops i4)) h1 hnd hk
  (fun listed a w0 hf hd hM w hw=>canonM_R h1 hnd hk _ listed a w0 hf hd hM w hw) (rowPre C ops) (Array.replicate ((rowPost C ops i4).length+1+(rowMid C ops i4).length+(rowPre C ops).length) false) a w (by rw [←e];exact h7) (fun j o ho hj=>?_) hC _ ⟨⟨fun _ _=>rfl,Nat.le_refl _⟩,rfl,rfl,rfl⟩)
 simp only [Array.getD_eq_getD_getElem?,Array.getElem?_replicate] at hj
 split at hj<;>cases hj
theorem regK_wp {ro:Option Nat} {n id:Nat} {ops:Array Oper} {Q:Exit→Act→World→Prop} {k:St σ→Option R} (A:Ask C I cl yh yv) (hm:C.P.follows .mixedOrders=true) (hok:regOK2 C id ops=true) (hyv:Γ.yv=yv) (h:regK C cl yh id ops true st k=some r) (S:SI C I Γ Φ st a.tmps w)
  (hN:Nxt C I Γ Φ st.hp w a.defers k r (fun a' w'=>Q .normal a' w')):(Code.region id ops true).wpIn (wideAt ro) n C.P Q a w:=by
 unfold regK at h
 unfold regOK2 at hok
 split at h
 ·rename_i hr
  rw [hr] at hok
  exact region_wp A hm hok hyv h S hN
 ·rename_i i hr
  rw [hr] at hok
  split at h
  ·rename_i o _ ho
   exact region_row A hm hok hyv ho h S hN
  ·cases h
end
end Go.Proofs.YtcfingekgbbclaaGreatDoor.E
namespace Go.Proofs.YtcfingekgbbclaaGreatDoor.E
open Go
set_option linter.unusedVariables false
def Ctx.cut (Γ:Ctx) (L:Nat):Ctx:={ Γ with St:=fun g=>Γ.St g∨∃ b,L≤b∧Γ.nm b=some g,nm:=fun b=>if b<L then Γ.nm b else none }
def mkD (D:Nat):Deferred:={ target:=.collected D,args:=#[] }
section
variable {σ R : Type} {r : R} {C : Cfg} {I : σ → (Nat → Prop) → (Nat → Prop) → World → Prop} {Γ Γ' : Ctx} {Φ Φ' : Nat → Prop} {st : St σ} {a : Act} {w w' : World} {cl : CallT} {yh : Yh σ} {yv : Value} {o : Oper} {H H' : List Blk} {tmps : Array Value}
def Off (Γ:Ctx) (Φ:Nat→Prop) (w:World) (g:Nat):Prop:=g<w.heap.size∧¬ Γ.St g∧(∀ b,Γ.nm b≠some g)∧¬ Φ g
theorem Off.step {g:Nat} (h:Off Γ Φ w g) (s:Stp C Γ H w Φ Γ' H' w' Φ'):Off Γ' Φ' w' g∧w'.heap[g]? = w.heap[g]?:=by
 obtain ⟨h1,h2,h3,h4⟩:=h
 refine ⟨⟨Nat.lt_of_lt_of_le h1 s.size,fun q=>?_,fun b q=>?_,fun q=>?_⟩,s.frame g h1 h3 h4⟩
 ·rcases s.stnew g q with q | q
  ·exact h2 q
  ·omega
 ·rcases s.own b g q with ⟨_,q⟩ | q
  ·exact h3 b q
  ·omega
 ·rcases s.foot g q with q | q
  ·exact h4 q
  ·omega
def Mk (n0:Nat) (Γ:Ctx) (Φ:Nat→Prop) (w:World) (ds:List Deferred):Prop:=n0≤w.heap.size∧∃ Ds:List Nat,ds=Ds.map mkD∧Ds.Nodup∧∀ D∈Ds,n0≤D∧Off Γ Φ w D∧w.heap[D]? = some (.deferred (some []))
theorem Mk.nil {n0:Nat} (h:n0≤w.heap.size):Mk n0 Γ Φ w []:=⟨h,[],rfl,List.nodup_nil,by simp⟩
theorem Mk.step {n0:Nat} {ds:List Deferred} (h:Mk n0 Γ Φ w ds) (s:Stp C Γ H w Φ Γ' H' w' Φ'):Mk n0 Γ' Φ' w' ds:=by
 obtain ⟨h0,Ds,h1,h2,h3⟩:=h
 refine ⟨Nat.le_trans h0 s.size,Ds,h1,h2,fun D hD=>?_⟩
 obtain ⟨k1,k2,k3⟩:=h3 D hD
 obtain ⟨q1,q2⟩:=k2.step s
 exact ⟨k1,q1,q2.trans k3⟩
structure OffW (Γ:Ctx) (Φ:Nat→Prop) (w w':World):Prop where
 same:∀ g,Γ.St g∨(∃ b,Γ.nm b=some g)∨Φ g→w'.heap[g]? = w.heap[g]?
 size:w.heap.size≤w'.heap.size
 os:w'.os=w.os
 tape:w'.tape=w.tape
 output:w'.output=w.output
theorem OffW.mono (h:OffW Γ Φ w w'):Mono Γ (shpOf H) w Γ (shpOf H) w' (fun _=>True):=
 ⟨fun g hg=>h.same g (.inl hg),fun _ h=>h,fun _ _=>rfl,fun _ _=>rfl,fun b g _ hg=>shape_of_heap (h.same g (.inr (.inl ⟨b,hg⟩))),rfl⟩
theorem SI.offW (hI:HI I) (S:SI C I Γ Φ st tmps w) (h:OffW Γ Φ w w'):SI C I Γ Φ st tmps w':=by
 have hf:=hI.foot _ _ _ _ S.inv
 refine ⟨⟨S.hr.inj,fun b g hb=>?_,fun g hg=>Nat.lt_of_lt_of_le (S.hr.stlt g hg) h.size,S.hr.nms,fun b hb=>(S.hr.blk b hb).mono h.mono rfl (fun g hg=>h.same g (.inr (.inl ⟨b,hg⟩))) (fun _ _=>trivial)⟩,
  S.sr.mono h.mono (fun c hc=>⟨trivial,S.sr.nms c hc⟩),S.g.mono (fun g hg=>h.same g (.inl hg)) (fun _ h=>h),
  hI.mono _ _ _ _ _ _ S.inv (fun _ h=>h) (fun g hg hp=>(hf g hp).2 hg) (fun g hg=>Nat.lt_of_lt_of_le (S.hr.stlt g hg) h.size) (fun g hg=>h.same g (hg.elim .inl (fun q=>.inr (.inr q)))) h.size h.os h.tape h.output,S.dis⟩
 obtain ⟨q1,q2,q3⟩:=S.hr.lt b g hb
 exact ⟨q1,Nat.lt_of_lt_of_le q2 h.size,q3⟩
structure Pg (C:Cfg) (Γ:Ctx) (H:List Blk) (w:World) (Φ:Nat→Prop) (Γ':Ctx) (H':List Blk) (w':World) (Φ':Nat→Prop):Prop where
 os:w'.os=w.os
 tape:w'.tape=w.tape
 output:w'.output=w.output
 size:w.heap.size≤w'.heap.size
 sub:∀ g,Γ.St g→Γ'.St g
 own:∀ b g,Γ'.nm b=some g→(b<H.length∧Γ.nm b=some g)∨w.heap.size≤g
 foot:∀ g,Φ' g→Φ g∨w.heap.size≤g
 yv:Γ'.yv = Γ.yv
 len:H.length≤H'.length
 keep:∀ b,b<H.length→fixS C (shpOf H b)→Γ'.nm b = Γ.nm b∧shpOf H' b=shpOf H b∧∀ g,Γ.nm b=some g→w'.shape? g=w.shape? g
theorem Stp.pg (h:Stp C Γ H w Φ Γ' H' w' Φ'):Pg C Γ H w Φ Γ' H' w' Φ':=⟨h.os,h.tape,h.output,h.size,h.sub,h.own,h.foot,h.yv,h.len,h.keep⟩
theorem Pg.trans {Γ'':Ctx} {H'':List Blk} {w'':World} {Φ'':Nat→Prop} (h:Pg C Γ H w Φ Γ' H' w' Φ') (k:Pg C Γ' H' w' Φ' Γ'' H'' w'' Φ''):Pg C Γ H w Φ Γ'' H'' w'' Φ'':=by
 have h1:=h.size
 refine ⟨k.os.trans h.os,k.tape.trans h.tape,k.output.trans h.output,Nat.le_trans h.size k.size,fun g hg=>k.sub g (h.sub g hg),fun b g hb=>?_,fun g hg=>?_,k.yv.trans h.yv,Nat.le_trans h.len k.len,fun b hb hf=>?_⟩
 ·rcases k.own b g hb with ⟨_,q⟩ | q
  ·exact h.own b g q
  ·exact .inr (by omega)
 ·rcases k.foot g hg with q | q
  ·exact h.foot g q
  ·exact .inr (by omega)
 ·obtain ⟨k1,k2,k3⟩:=h.keep b hb hf
  have h2:=h.len
  obtain ⟨m1,m2,m3⟩:=k.keep b (by omega) (by rw [k2];exact hf)
  exact ⟨m1.trans k1,m2.trans k2,fun g hg=>(m3 g (k1.trans hg)).trans (k3 g hg)⟩
theorem Pg.off (hH:HR Γ H w) (h:OffW Γ Φ w w'):Pg C Γ H w Φ Γ H w' Φ:=
 ⟨h.os,h.tape,h.output,h.size,fun _ h=>h,fun b g hb=>.inl ⟨(hH.lt b g hb).1,hb⟩,fun _ h=>.inl h,rfl,Nat.le_refl _,fun b hb _=>⟨rfl,rfl,fun g hg=>shape_of_heap (h.same g (.inr (.inl ⟨b,hg⟩)))⟩⟩
theorem Pg.wideSt {St':Nat→Prop} (hH:HR Γ H w) (hs:∀ g,Γ.St g→St' g):Pg C Γ H w Φ { Γ with St:=St' } H w Φ:=
 ⟨rfl,rfl,rfl,Nat.le_refl _,hs,fun b g hb=>.inl ⟨(hH.lt b g hb).1,hb⟩,fun _ h=>.inl h,rfl,Nat.le_refl _,fun _ _ _=>⟨rfl,rfl,fun _ _=>rfl⟩⟩
theorem OffW.put {l:Nat} {ob:Obj} (h:Off Γ Φ w l):OffW Γ Φ w (w.putObj l ob):=by
 refine ⟨fun g hg=>World.putObj_heap_other ?_,by simp,rfl,rfl,rfl⟩
 rintro rfl
 rcases hg with q | ⟨b,q⟩ | q
 ·exact h.2.1 q
 ·exact h.2.2.1 b q
 ·exact h.2.2.2 q
theorem Off.put {g l:Nat} {ob:Obj} (h:Off Γ Φ w g):Off Γ Φ (w.putObj l ob) g:=⟨by simpa using h.1,h.2⟩
theorem Mk.put {n0 l:Nat} {ob:Obj} {rr:Loop} {ds:List Deferred} (h:Mk n0 Γ Φ w ds) (hl:w.heap[l]? = some (.loop rr)):Mk n0 Γ Φ (w.putObj l ob) ds:=by
 obtain ⟨h0,Ds,h1,h2,h3⟩:=h
 refine ⟨by simpa using h0,Ds,h1,h2,fun D hD=>?_⟩
 obtain ⟨k1,k2,k3⟩:=h3 D hD
 refine ⟨k1,k2.put,(World.putObj_heap_other ?_).trans k3⟩
 rintro rfl
 rw [k3] at hl
 cases hl
def Post (C:Cfg) (I:σ→(Nat→Prop)→(Nat→Prop)→World→Prop) (n0:Nat) (Γ:Ctx) (Φ:Nat→Prop) (H:List Blk) (w:World) (k:Out→St σ→Option R) (r:R) (Q:Exit→Act→World→Prop):Prop:=
 ∀ o st' a' w' Γ' Φ',k o st'=some r→Stp C Γ H w Φ Γ' st'.hp w' Φ'→SI C I Γ' Φ' st' a'.tmps w'→Mk n0 Γ' Φ' w' a'.defers→Q o.exit' a' w'
def WP (C:Cfg) (I:σ→(Nat→Prop)→(Nat→Prop)→World→Prop) (cl:CallT) (yh:Yh σ) (yv:Value) (c:Code):Prop:=
 ∀ {R:Type} {r:R} {ro:Option Nat} {n n0:Nat} {Γ:Ctx} {Φ:Nat→Prop} {st:St σ} {a:Act} {w:World} {k:Out→St σ→Option R} {Q:Exit→Act→World→Prop},
  Γ.yv=yv→evCode C cl yh c st k=some r→SI C I Γ Φ st a.tmps w→Mk n0 Γ Φ w a.defers→Post C I n0 Γ Φ st.hp w k r Q→c.wpIn (wideAt ro) n C.P Q a w
def recL (fn:FuncId) (tmps:Array Value) (ps:Array Tmp) (as body:Code) (D:Nat) (s:LoopState) (p:Option Code):Loop:={ state:=s,pending:=p,fn:=fn,tmps:=tmps,params:=ps,assign:=as,body:=body,defers:=D }
def jmp:Out→Code
 | .normal=>.skip
 | .exit id=>.exit id
 | .ret=>.ret
def stOf:Option Out→LoopState
 | none=>.ready
 | some _=>.done
structure RIb (C:Cfg) (I:σ→(Nat→Prop)→(Nat→Prop)→World→Prop) (Γ0:Ctx) (H0:List Blk) (w0:World) (Φ0:Nat→Prop) (sl0:List PV) (tmps:Array Value) (l D:Nat) (rc:LoopState→Option Code→Loop) (x:List Blk × Option Out × σ) (St Φ:Nat→Prop) (w:World) (Γb:Ctx) (Φb:Nat→Prop):Prop where
 si:SI C I Γb Φb { sl:=sl0,hp:=x.1,s:=x.2.2 } tmps w
 pg:Pg C Γ0 H0 w0 Φ0 Γb x.1 w Φb
 st:∀ g,Γb.St g→St g
 ph:∀ g,Φ g↔Φb g∨(∃ b,Γb.nm b=some g)∨g=l∨g=D
 ft:∀ g,Φ g→g<w.heap.size∧¬ St g
 ol:Off Γb Φb w l
 od:Off Γb Φb w D
 hl:w.heap[l]? = some (.loop (rc (stOf x.2.1) (x.2.1.map jmp)))
 hd:w.heap[D]? = some (.deferred (some []))
def RI (C:Cfg) (I:σ→(Nat→Prop)→(Nat→Prop)→World→Prop) (Γ0:Ctx) (H0:List Blk) (w0:World) (Φ0:Nat→Prop) (sl0:List PV) (tmps:Array Value) (l D:Nat) (rc:LoopState→Option Code→Loop):(List Blk × Option Out × σ)→(Nat→Prop)→(Nat→Prop)→World→Prop:=
 fun x St Φ w=>∃ Γb Φb,RIb C I Γ0 H0 w0 Φ0 sl0 tmps l D rc x St Φ w Γb Φb
theorem RI_HI {Γ0:Ctx} {H0:List Blk} {w0:World} {Φ0:Nat→Prop} {sl0:List PV} {l D:Nat} {rc:LoopState→Option Code→Loop} (hI:HI I):HI (RI C I Γ0 H0 w0 Φ0 sl0 tmps l D rc):=by
 refine ⟨fun x St Φ w ⟨Γb,Φb,r⟩=>r.ft,fun x St Φ w St' w' ⟨Γb,Φb,r⟩ hs hd hlt hh hz ho ht hu=>?_⟩
 have inΦ:∀ {g},Φb g∨(∃ b,Γb.nm b=some g)∨g=l∨g=D→Φ g:=fun {g} h=>(r.ph g).2 h
 have O:OffW Γb Φb w w':=⟨fun g hg=>by
  rcases hg with q | q | q
  ·exact hh g (.inl (r.st g q))
  ·exact hh g (.inr (inΦ (.inr (.inl q))))
  ·exact hh g (.inr (inΦ (.inl q))),hz,ho,ht,hu⟩
 have up:∀ {g},Off Γb Φb w g→Off Γb Φb w' g:=fun h=>⟨Nat.lt_of_lt_of_le h.1 hz,h.2⟩
 exact ⟨Γb,Φb,r.si.offW hI O,r.pg.trans (Pg.off r.si.hr O),fun g hg=>hs g (r.st g hg),r.ph,fun g hg=>⟨Nat.lt_of_lt_of_le (r.ft g hg).1 hz,fun q=>hd g q hg⟩,up r.ol,up r.od,
  (hh l (.inr (inΦ (.inr (.inr (.inl rfl)))))).trans r.hl,(hh D (.inr (inΦ (.inr (.inr (.inr rfl)))))).trans r.hd⟩
end
end Go.Proofs.YtcfingekgbbclaaGreatDoor.E
namespace Go.Proofs.YtcfingekgbbclaaGreatDoor.E
open Go
set_option linter.unusedVariables false
section
variable {σ R : Type} {r : R} {C : Cfg} {I : σ → (Nat → Prop) → (Nat → Prop) → World → Prop} {Γ : Ctx} {Φ : Nat → Prop} {st : St σ} {a : Act} {w : World} {cl : CallT} {yh : Yh σ} {yv : Value} {o : Oper} {H : List Blk}
theorem cut_mono (hH:HR Γ H w) {L:Nat} (hL:L≤H.length):Mono Γ (shpOf H) w (Γ.cut L) (shpOf (H.take L)) w (· < L):=
 ⟨fun _ _=>rfl,fun _ h=>.inl h,fun b hb=>by simp only [Ctx.cut];rw [if_pos hb],fun b hb=>by simp only [shpOf,List.getElem?_take];rw [if_pos hb],fun _ _ _ _=>rfl,rfl⟩
theorem cut_HR (hH:HR Γ H w) {L:Nat} (hL:L≤H.length) (hlow:lowH L (H.take L)=true):HR (Γ.cut L) (H.take L) w:=by
 have hlow':=lowH_spec hlow
 have hlen:(H.take L).length=L:=by rw [List.length_take];omega
 have key:∀ b g,(Γ.cut L).nm b=some g→b<L∧Γ.nm b=some g:=fun b g h=>by
  simp only [Ctx.cut] at h
  split at h
  ·exact ⟨‹_›,h⟩
  ·cases h
 refine ⟨fun b b' g h1 h2=>hH.inj b b' g (key b g h1).2 (key b' g h2).2,fun b g h=>?_,fun g hg=>?_,fun b hb c hc=>?_,fun b hb=>?_⟩
 ·obtain ⟨h1,h2⟩:=key b g h
  have:=hH.lt b g h2
  refine ⟨by omega,this.2.1,?_⟩
  rintro (h3 | ⟨b',h3,h4⟩)
  ·exact this.2.2 h3
  ·have:=hH.inj b b' g h2 h4;omega
 ·rcases hg with hg | ⟨b,_,hg⟩
  ·exact hH.stlt g hg
  ·exact (hH.lt b g hg).2.1
 ·rw [hlen]
  exact hlow' _ (List.getElem_mem hb) c hc
 ·have hbL:b<L:=by omega
  have e:(H.take L)[b]=H[b]'(by omega):=List.getElem_take
  rw [e]
  have M:=cut_mono hH hL
  exact (hH.blk b (by omega)).mono M (M.nm b hbL) (fun _ _=>rfl) (fun c hc=>hlow' _ (List.getElem_mem hb) c (by rw [e];exact hc))
theorem row_cut (hH:HR Γ H w) {L b:Nat} (hb:¬ b<L) {v:PV} {V:Value} (hv:v = .fl b∨∃ i n,v = .vw b i n) (h:VP Γ (shpOf H) w v V):VP (Γ.cut L) (shpOf (H.take L)) w (v.snap H) V∧(v.snap H).nms=[]:=by
 rcases hv with rfl | ⟨i,n,rfl⟩
 ·cases h with
  | flv _ e sz h=>
   obtain ⟨x,hx,hs⟩:∃ x,H[b]? = some x∧x.shp = .arr true e sz 0:=by simpa [shpOf] using h
   cases x<;>simp [Blk.shp] at hs
   rename_i v' e' sz' els
   obtain ⟨rfl,rfl,rfl,h4⟩:=hs
   subst h4
   simp only [PV.snap,hx]
   exact ⟨.s _ _ (.nil _ _),rfl⟩
  | fl _ g v e sz n cap h hv hg hcap hm hs=>
   obtain ⟨x,hx,hs'⟩:∃ x,H[b]? = some x∧x.shp = .arr v e sz n:=by simpa [shpOf] using h
   cases x<;>simp [Blk.shp] at hs'
   rename_i v' e' sz' els
   obtain ⟨rfl,rfl,rfl,rfl⟩:=hs'
   have hne:¬ (v'=true∧els=[]):=by rintro ⟨q1,q2⟩;exact hv q1 (by rw [q2];rfl)
   have hz:(v'&&els.isEmpty)=false:=by cases v'<;>simp_all
   simp only [PV.snap,hx,hz]
   have:=row_VS (i:=0) (n:=els.length) (a:=⟨g,0,none⟩) (cap:=cap) hH hx hne hg (by omega) (fun _=>by simp) hcap hm (St':=(Γ.cut L).St) (fun _ h=>Or.inl h) (.inr ⟨b,by omega,hg⟩)
   simp only [List.drop_zero,List.take_length] at this
   exact ⟨.s _ _ this,rfl⟩
 ·cases h with
  | vwv _ e sz _ h=>
   obtain ⟨x,hx,hs⟩:∃ x,H[b]? = some x∧x.shp = .arr true e sz 0:=by simpa [shpOf] using h
   cases x<;>simp [Blk.shp] at hs
   rename_i v' e' sz' els
   obtain ⟨rfl,rfl,rfl,h4⟩:=hs
   subst h4
   simp only [PV.snap,hx,List.drop_nil,List.take_nil]
   exact ⟨.s _ _ (.nil _ _),rfl⟩
  | vw _ _ _ g a cap v e sz m h hv hg ha hi hcap hm=>
   obtain ⟨x,hx,hs'⟩:∃ x,H[b]? = some x∧x.shp = .arr v e sz m:=by simpa [shpOf] using h
   cases x<;>simp [Blk.shp] at hs'
   rename_i v' e' sz' els
   obtain ⟨rfl,rfl,rfl,rfl⟩:=hs'
   have hne:¬ (v'=true∧els=[]):=by rintro ⟨q1,q2⟩;exact hv q1 (by rw [q2];rfl)
   have hz:(v'&&els.isEmpty)=false:=by cases v'<;>simp_all
   simp only [PV.snap,hx,hz]
   exact ⟨.s _ _ (row_VS hH hx hne hg hi ha hcap hm (fun _ h=>Or.inl h) (.inr ⟨b,by omega,hg⟩)),rfl⟩
theorem low_VP (hH:HR Γ H w) {L:Nat} (hL:L≤H.length) {v:PV} {V:Value} (h:VP Γ (shpOf H) w v V):VP (Γ.cut L) (shpOf (H.take L)) w (v.low H L) V∧∀ c∈(v.low H L).nms,c<L:=by
 have M:=cut_mono hH hL
 have keep:(∀ c∈v.nms,c<L)→VP (Γ.cut L) (shpOf (H.take L)) w v V:=fun hn=>h.mono M hn
 unfold PV.low
 split
 ·rename_i b
  split
  ·rename_i hb;exact ⟨keep (by simpa [PV.nms] using hb),by simpa [PV.nms] using hb⟩
  ·rename_i hb
   obtain ⟨q1,q2⟩:=row_cut hH hb (.inl rfl) h
   exact ⟨q1,by rw [q2];simp⟩
 ·rename_i b i n
  split
  ·rename_i hb;exact ⟨keep (by simpa [PV.nms] using hb),by simpa [PV.nms] using hb⟩
  ·rename_i hb
   obtain ⟨q1,q2⟩:=row_cut hH hb (.inr ⟨i,n,rfl⟩) h
   exact ⟨q1,by rw [q2];simp⟩
 ·exact ⟨keep (by simp [PV.nms]),by simp [PV.nms]⟩
 ·exact ⟨keep (by simp [PV.nms]),by simp [PV.nms]⟩
 ·exact ⟨keep (by simp [PV.nms]),by simp [PV.nms]⟩
 ·split
  ·rename_i hb;exact ⟨keep (by simpa [PV.nms] using hb),by simpa [PV.nms] using hb⟩
  ·exact ⟨.bad _,by simp [PV.nms]⟩
 ·split
  ·rename_i hb;exact ⟨keep (by simpa [PV.nms] using hb),by simpa [PV.nms] using hb⟩
  ·exact ⟨.bad _,by simp [PV.nms]⟩
 ·split
  ·rename_i hb
   simp only [List.all_eq_true,decide_eq_true_eq] at hb
   exact ⟨keep hb,hb⟩
  ·exact ⟨.bad _,by simp [PV.nms]⟩
def Sub (Γ Γ':Ctx):Prop:=(∀ g,Γ'.St g→Γ.St g∨∃ b,Γ.nm b=some g)∧∀ b g,Γ'.nm b=some g→Γ.nm b=some g
theorem Mk.sub {n0:Nat} {Γ':Ctx} {ds:List Deferred} (h:Mk n0 Γ Φ w ds) (s:Sub Γ Γ'):Mk n0 Γ' Φ w ds:=by
 obtain ⟨h0,Ds,h1,h2,h3⟩:=h
 refine ⟨h0,Ds,h1,h2,fun D hD=>?_⟩
 obtain ⟨k1,k2,k3⟩:=h3 D hD
 refine ⟨k1,⟨k2.1,fun q=>?_,fun b q=>k2.2.2.1 b (s.2 b D q),k2.2.2.2⟩,k3⟩
 rcases s.1 D q with q | ⟨b,q⟩
 ·exact k2.2.1 q
 ·exact k2.2.2.1 b q
theorem trunc_sound' {H0:List Blk} {Γ0:Ctx} {w0:World} {Φ0:Nat→Prop} {L:Nat} (hI:HI I) (S:SI C I Γ Φ st a.tmps w) (h:Stp C Γ0 H0 w0 Φ0 Γ st.hp w Φ) (hL0:H0.length≤L) (hL:L≤st.hp.length):∃ Γ',SI C I Γ' Φ (trunc L st) a.tmps w∧Stp C Γ0 H0 w0 Φ0 Γ' (trunc L st).hp w Φ∧Sub Γ Γ':=by
 unfold trunc
 split
 ·rename_i hlow
  have hlen:(st.hp.take L).length=L:=by rw [List.length_take];omega
  have hr:=cut_HR S.hr hL hlow
  have hnm:∀ b g,(Γ.cut L).nm b=some g→Γ.nm b=some g:=fun b g h=>by
   simp only [Ctx.cut] at h
   split at h
   ·exact h
   ·cases h
  have hnewSt:∀ g,(Γ.cut L).St g→Γ.St g∨(w0.heap.size≤g∧¬ Φ g):=fun g hg=>by
   rcases hg with hg | ⟨b,hb,hg⟩
   ·exact .inl hg
   ·refine .inr ⟨?_,S.dis b g hg⟩
    rcases h.own b g hg with ⟨q,_⟩ | q
    ·omega
    ·exact q
  have hfoot:=hI.foot _ _ _ _ S.inv
  refine ⟨Γ.cut L,⟨hr,⟨by simpa using S.sr.size,fun c hc=>?_,fun i hi=>?_⟩,S.g.mono (fun _ _=>rfl) (fun _ h=>Or.inl h),?_,fun b g hg=>S.dis b g (hnm b g hg)⟩,
   ⟨h.os,h.tape,h.output,h.size,fun g hg=>Or.inl (h.sub g hg),fun g hg=>?_,fun b g hg=>h.own b g (hnm b g hg),h.foot,h.frame,h.yv,by rw [hlen];exact hL0,fun b hb hf=>?_⟩,fun g hg=>hg.elim .inl (fun ⟨b,_,q⟩=>.inr ⟨b,q⟩),hnm⟩
  ·obtain ⟨j,hj,hc⟩:=mem_nmsL.1 hc
   have hj':j<st.sl.length:=by simpa using hj
   obtain ⟨U,e,k⟩:=S.sr.slot j hj'
   rw [List.getElem_map] at hc
   have:=(low_VP S.hr hL k).2 c hc
   show c<(st.hp.take L).length
   omega
  ·have hi':i<st.sl.length:=by simpa using hi
   obtain ⟨U,e,k⟩:=S.sr.slot i hi'
   exact ⟨U,e,by rw [List.getElem_map];exact (low_VP S.hr hL k).1⟩
  ·refine hI.mono _ _ _ _ _ _ S.inv (fun _ h=>Or.inl h) (fun g hg hp=>?_) (fun g hg=>hr.stlt g hg) (fun _ _=>rfl) (Nat.le_refl _) rfl rfl rfl
   rcases hnewSt g hg with q | q
   ·exact (hfoot g hp).2 q
   ·exact q.2 hp
  ·rcases hnewSt g hg with q | q
   ·exact h.stnew g q
   ·exact .inr q.1
  ·obtain ⟨k1,k2,k3⟩:=h.keep b hb hf
   have hbL:b<L:=by omega
   refine ⟨by simp only [Ctx.cut];rw [if_pos hbL];exact k1,?_,k3⟩
   rw [←k2]
   simp only [shpOf,List.getElem?_take]
   rw [if_pos hbL]
 ·exact ⟨Γ,S,h,fun _ h=>.inl h,fun _ _ h=>h⟩
theorem trunc_sound {H0:List Blk} {Γ0:Ctx} {w0:World} {Φ0:Nat→Prop} (hI:HI I) (S:SI C I Γ Φ st a.tmps w) (h:Stp C Γ0 H0 w0 Φ0 Γ st.hp w Φ):∃ Γ',SI C I Γ' Φ (trunc H0.length st) a.tmps w∧Stp C Γ0 H0 w0 Φ0 Γ' (trunc H0.length st).hp w Φ∧Sub Γ Γ':=
 trunc_sound' hI S h (Nat.le_refl _) h.len
theorem mask_get:∀ (g:List Nat) (l:List PV),(mask g l).length=l.length∧∀ i (h:i<(mask g l).length) (h':i<l.length),(mask g l)[i]=l[i]∨(mask g l)[i] = .bad
 | g,[]=>by
  have e:mask g []=[]:=by unfold mask;rfl
  exact ⟨by rw [e],fun i h=>by rw [e] at h;simp at h⟩
 | [],v::l=>by
  obtain ⟨h1,h2⟩:=mask_get [] l
  refine ⟨by simp [mask,h1],fun i h h'=>?_⟩
  cases i with
  | zero=>exact .inr rfl
  | succ i=>
   have:=h2 i (by simpa [mask] using h) (by simpa using h')
   simpa [mask] using this
 | 0::g,v::l=>by
  obtain ⟨h1,h2⟩:=mask_get g l
  refine ⟨by simp [mask,h1],fun i h h'=>?_⟩
  cases i with
  | zero=>exact .inl rfl
  | succ i=>
   have:=h2 i (by simpa [mask] using h) (by simpa using h')
   simpa [mask] using this
 | (n+1)::g,v::l=>by
  obtain ⟨h1,h2⟩:=mask_get (n::g) l
  refine ⟨by simp [mask,h1],fun i h h'=>?_⟩
  cases i with
  | zero=>exact .inr rfl
  | succ i=>
   have:=h2 i (by simpa [mask] using h) (by simpa using h')
   simpa [mask] using this
theorem mask_SR {sl:List PV} {tmps:Array Value} (g:List Nat) (h:SR Γ H w sl tmps):SR Γ H w (mask g sl) tmps:=by
 obtain ⟨h1,h2⟩:=mask_get g sl
 refine ⟨by rw [h1];exact h.size,fun c hc=>?_,fun i hi=>?_⟩
 ·obtain ⟨j,hj,hc⟩:=mem_nmsL.1 hc
  have hj':j<sl.length:=by rw [←h1];exact hj
  rcases h2 j hj hj' with e | e
  ·rw [e] at hc;exact h.nms c (mem_nmsL.2 ⟨j,hj',hc⟩)
  ·rw [e] at hc;simp [PV.nms] at hc
 ·have hi':i<sl.length:=by rw [←h1];exact hi
  obtain ⟨V,e1,e2⟩:=h.slot i hi'
  refine ⟨V,e1,?_⟩
  rcases h2 i hi hi' with e | e
  ·rw [e];exact e2
  ·rw [e];exact .bad V
theorem forget_hp (ds:Option (List Nat)) (st:St σ):(forget ds st).hp=st.hp:=by cases ds<;>rfl
theorem forget_SI (S:SI C I Γ Φ st a.tmps w) (ds:Option (List Nat)):SI C I Γ Φ (forget ds st) a.tmps w:=by
 cases ds with
 | none=>exact S
 | some g=>exact ⟨S.hr,mask_SR g S.sr,S.g,S.inv,S.dis⟩
theorem topN_ge:∀ (l:List Nat) (m:Nat),m≤topN l m
 | [],m=>Nat.le_refl _
 | b::r,m=>by
  simp only [topN]
  cases h:Nat.ble m b with
  | true=>exact Nat.le_trans (Nat.le_succ_of_le (Nat.le_of_ble_eq_true h)) (topN_ge r (b+1))
  | false=>exact topN_ge r m
theorem topB_ge:∀ (l:List Blk) (m:Nat),m≤topB l m
 | [],m=>Nat.le_refl _
 | b::r,m=>Nat.le_trans (topN_ge _ _) (topB_ge r _)
theorem forgetR_sound {H0:List Blk} {Γ0:Ctx} {w0:World} {Φ0:Nat→Prop} (hI:HI I) (S:SI C I Γ Φ st a.tmps w) (h:Stp C Γ0 H0 w0 Φ0 Γ st.hp w Φ) (ds:Option (List Nat)) {L:Nat} (hL:H0.length≤L):∃ Γ',SI C I Γ' Φ (forgetR ds L st) a.tmps w∧Stp C Γ0 H0 w0 Φ0 Γ' (forgetR ds L st).hp w Φ:=by
 cases ds with
 | none=>exact ⟨Γ,S,h⟩
 | some g=>
  have S1:SI C I Γ Φ ({ sl:=mask g st.sl,hp:=st.hp,s:=st.s }:St σ) a.tmps w:=⟨S.hr,mask_SR g S.sr,S.g,S.inv,S.dis⟩
  simp only [forgetR,tidy,tidyAt]
  cases hb:Nat.ble (topB st.hp (topN (nmsL (mask g st.sl)) L)+1) st.hp.length with
  | false=>exact ⟨Γ,S1,h⟩
  | true=>
   have:=Nat.le_of_ble_eq_true hb
   obtain ⟨Γ',k1,k2,_⟩:=trunc_sound' (L:=topB st.hp (topN (nmsL (mask g st.sl)) L)) hI S1 h (Nat.le_trans hL (Nat.le_trans (topN_ge _ _) (topB_ge _ _))) (by show topB st.hp _≤st.hp.length;omega)
   exact ⟨Γ',k1,k2⟩
theorem trunc_SI {tmps:Array Value} (hI:HI I) (S:SI C I Γ Φ st tmps w) {L:Nat} (hL:L≤st.hp.length):∃ Γ',SI C I Γ' Φ (trunc L st) tmps w∧(∀ g,Γ.St g→Γ'.St g)∧(∀ g,Γ'.St g→Γ.St g∨∃ b,L≤b∧Γ.nm b=some g)∧
  (∀ b g,Γ'.nm b=some g→Γ.nm b=some g)∧Γ'.yv = Γ.yv∧(∀ b,b<L→Γ'.nm b = Γ.nm b∧shpOf (trunc L st).hp b=shpOf st.hp b)∧L≤(trunc L st).hp.length:=by
 unfold trunc
 split
 ·rename_i hlow
  have hlen:(st.hp.take L).length=L:=by rw [List.length_take];omega
  have hr:=cut_HR S.hr hL hlow
  have hnm:∀ b g,(Γ.cut L).nm b=some g→Γ.nm b=some g:=fun b g h=>by
   simp only [Ctx.cut] at h
   split at h
   ·exact h
   ·cases h
  have hfoot:=hI.foot _ _ _ _ S.inv
  refine ⟨Γ.cut L,⟨hr,⟨by simpa using S.sr.size,fun c hc=>?_,fun i hi=>?_⟩,S.g.mono (fun _ _=>rfl) (fun _ h=>Or.inl h),?_,fun b g hg=>S.dis b g (hnm b g hg)⟩,
   fun _ h=>Or.inl h,fun _ h=>h,hnm,rfl,fun b hb=>⟨by simp only [Ctx.cut];rw [if_pos hb],?_⟩,by rw [hlen];exact Nat.le_refl _⟩
  ·obtain ⟨j,hj,hc⟩:=mem_nmsL.1 hc
   have hj':j<st.sl.length:=by simpa using hj
   obtain ⟨U,e,k⟩:=S.sr.slot j hj'
   rw [List.getElem_map] at hc
   have:=(low_VP S.hr hL k).2 c hc
   show c<(st.hp.take L).length
   omega
  ·have hi':i<st.sl.length:=by simpa using hi
   obtain ⟨U,e,k⟩:=S.sr.slot i hi'
   exact ⟨U,e,by rw [List.getElem_map];exact (low_VP S.hr hL k).1⟩
  ·refine hI.mono _ _ _ _ _ _ S.inv (fun _ h=>Or.inl h) (fun g hg hp=>?_) (fun g hg=>hr.stlt g hg) (fun _ _=>rfl) (Nat.le_refl _) rfl rfl rfl
   rcases hg with q | ⟨b,_,q⟩
   ·exact (hfoot g hp).2 q
   ·exact S.dis b g q hp
  ·simp only [shpOf,List.getElem?_take]
   rw [if_pos hb]
 ·exact ⟨Γ,S,fun _ h=>h,fun _ h=>.inl h,fun _ _ h=>h,rfl,fun _ _=>⟨rfl,rfl⟩,hL⟩
end
end Go.Proofs.YtcfingekgbbclaaGreatDoor.E
namespace Go.Proofs.YtcfingekgbbclaaGreatDoor.E
open Go
set_option linter.unusedVariables false
section
variable {σ R : Type} {r : R} {C : Cfg} {I : σ → (Nat → Prop) → (Nat → Prop) → World → Prop} {Γ Γ' : Ctx} {Φ Φ' : Nat → Prop} {st : St σ} {a : Act} {w w' : World} {cl : CallT} {yh : Yh σ} {yv : Value} {H H' : List Blk} {tmps : Array Value}
theorem sv1_VP {sh sh':Nat→Option Shp} {v:PV} {V:Value} (h:v.sv?.isSome=true) (hv:VP Γ sh w v V) (hs:∀ g,Γ.St g→Γ'.St g):VP Γ' sh' w v V∧v.nms=[]:=by
 cases v<;>simp [PV.sv?] at h
 ·exact ⟨.s _ _ (hv.inv_s.mono (fun _ _=>rfl) hs),rfl⟩
 ·rw [hv.inv_nsl];exact ⟨.nsl,rfl⟩
theorem svs_mem:∀ {l:List PV} {vs:List SV},svs? l=some vs→∀ v∈l,v.sv?.isSome=true
 | [],_,_,v,hv=>by simp at hv
 | x::l,vs,h,v,hv=>by
  simp only [svs?] at h
  split at h
  ·rename_i p q hp hq
   rcases List.mem_cons.1 hv with rfl | hv
   ·rw [hp];rfl
   ·exact svs_mem hq v hv
  ·cases h
theorem svArgs_VP {sh sh':Nat→Option Shp} (hs:∀ g,Γ.St g→Γ'.St g):∀ {args:List PV},svArgs args=true→∀ v∈args,v.nms=[]∧∀ V,VP Γ sh w v V→VP Γ' sh' w v V
 | [],_,v,hv=>by simp at hv
 | x::r,h,v,hv=>by
  have key:(x.nms=[]∧∀ V,VP Γ sh w x V→VP Γ' sh' w x V)∧svArgs r=true:=by
   unfold svArgs at h
   split at h
   ·rename_i he;cases he
   ·rename_i he;cases he
    exact ⟨⟨rfl,fun V hV=>(sv1_VP (Γ:=Γ) (Γ':=Γ') rfl hV hs).1⟩,h⟩
   ·rename_i l r' he
    cases he
    simp only [Bool.and_eq_true,Option.isSome_iff_exists] at h
    obtain ⟨⟨vs,hvs⟩,h⟩:=h
    refine ⟨⟨?_,fun V hV=>?_⟩,h⟩
    ·simp only [PV.nms]
     rw [List.eq_nil_iff_forall_not_mem]
     intro c hc
     obtain ⟨j,hj,hc⟩:=mem_nmsL.1 hc
     have hm:=svs_mem hvs _ (List.getElem_mem hj)
     generalize l[j]=u at hm hc
     cases u<;>simp [PV.sv?] at hm<;>simp [PV.nms] at hc
    ·obtain ⟨A,rfl,hA,hc⟩:=hV.inv_agg
     refine VP.mk_agg hA fun j hj=>?_
     obtain ⟨U,e,k⟩:=hc j hj
     exact ⟨U,e,(sv1_VP (svs_mem hvs _ (List.getElem_mem hj)) k hs).1⟩
   ·cases h
  rcases List.mem_cons.1 hv with rfl | hv
  ·exact key.1
  ·exact svArgs_VP hs key.2 v hv
theorem setParams_SR:∀ (ts:List Nat) (vs:List PV) (Vs:List Value) {sl:List PV} {tmps:Array Value},SR Γ H w sl tmps→vs.length=Vs.length→(∀ j (h:j<vs.length),∃ U,Vs[j]? = some U∧VP Γ (shpOf H) w (vs[j]) U)→(∀ v∈vs,v.nms=[])→
  SR Γ H w (setParams sl ts vs) ((ts.zip Vs).foldl (fun t (p:Nat × Value)=>t.setIfInBounds p.1 p.2) tmps)
 | [],vs,Vs,sl,tmps,h,_,_,_=>by cases vs<;>exact h
 | t::ts,[],[],sl,tmps,h,_,_,_=>h
 | t::ts,[],_::_,_,_,_,hl,_,_=>by simp at hl
 | t::ts,_::_,[],_,_,_,hl,_,_=>by simp at hl
 | t::ts,v::vs,V::Vs,sl,tmps,h,hl,hc,hn=>by
  have h0:VP Γ (shpOf H) w v V:=by
   obtain ⟨U,e,k⟩:=hc 0 (by simp)
   simp only [List.getElem?_cons_zero,Option.some.injEq] at e
   subst e
   exact k
  have h1:=h.put (ds:=[]) ({ op:=.move (.const undef),dst:=some t,guard:=none,type:=0,after:=#[],pos:=default }:Oper) h0 (by rw [hn v (by simp)];simp)
  have h2:SR Γ H w (sl.set t v) (tmps.setIfInBounds t V):=h1
  exact setParams_SR ts vs Vs h2 (by simpa using hl) (fun j hj=>by
   obtain ⟨U,e,k⟩:=hc (j+1) (by simpa using hj)
   exact ⟨U,by simpa using e,by simpa using k⟩) (fun v hv=>hn v (by simp [hv]))
theorem jmp_none (o:Out):((pendOf o).map jmp).isNone=(pendOf o).isNone:=by cases o<;>rfl
theorem RI_Yd {Γ0:Ctx} {H0:List Blk} {w0:World} {Φ0:Nat→Prop} {sl0:List PV} {l D fn:Nat} {ps:Array Tmp} {as body:Code} (hI:HI I) (hyv0:Γ0.yv=yv) (has:WP C I cl yh yv as) (hbd:WP C I cl yh yv body)
  (hfix:∀ c∈nmsL sl0,c<H0.length∧fixS C (shpOf H0 c)) :
  YdOK C.P (RI C I Γ0 H0 w0 Φ0 sl0 tmps l D (recL fn tmps ps as body D)) (roundY ps sl0 (fun st k=>evCode C cl yh as st k) (fun st k=>evCode C cl yh body st k)) (.func (.yield l) #[] #[]):=by
 intro args x b x' hyx hsv Γ Φ w Vs ⟨Γb,Φb,r⟩ hlt hc
 obtain ⟨H,pend,s1⟩:=x
 unfold roundY at hyx
 cases pend with
 | some o=>simp at hyx
 | none=>
 dsimp only at hyx
 split at hyx
 case isFalse=>cases hyx
 rename_i hps
 have hrun:(do let d ←Deferred.ofValue (.func (.yield l) #[] #[]) Vs;invoke d.target d.args:Sem Next).run C.P w=(Instr.yield l Vs).run C.P w:=by simp [Deferred.ofValue,invoke]
 have hsz:Vs.size=(recL fn tmps ps as body D .ready none).params.size:=by rw [hc.1,hps];rfl
 have hdr:=r.hd
 have hlr:w.heap[l]? = some (.loop (recL fn tmps ps as body D .ready none)):=r.hl
 intro ro n o a next Q hnext
 rw [hrun,run_yield hlr hsz,Oper.uponIn_round]
 refine ⟨fun h=>(by simp [wideAt,Fence.wide] at h),roundIn_of_wpIn trivial ?_⟩
 have inΦ:∀ {g},Φb g∨(∃ b,Γb.nm b=some g)∨g=l∨g=D→Φ g:=fun {g} h=>(r.ph g).2 h
 have notSt:∀ {g},Φ g→¬ Γ.St g:=fun {g} h=>(r.ft g h).2
 let ΓB:Ctx:={ Γb with St:=Γ.St }
 have SB:SI C I ΓB Φb { sl:=sl0,hp:=H,s:=s1 } tmps w:=r.si.wideSt hI r.st (fun g hg hp=>notSt (inΦ (.inl hp)) hg) (fun b g hg hs=>notSt (inΦ (.inr (.inl ⟨b,hg⟩))) hs) hlt
 have hargs:=svArgs_VP (Γ:=Γ) (Γ':=ΓB) (sh:=fun _=>none) (sh':=shpOf H) (w:=w) (fun _ h=>h) hsv
 have hSR:=setParams_SR ps.toList args Vs.toList SB.sr (by rw [Array.length_toList];exact hc.1.symm) (fun j hj=>by
  obtain ⟨U,e,k⟩:=hc.2 j hj
  exact ⟨U,by simpa using e,(hargs _ (List.getElem_mem hj)).2 U k⟩) (fun v hv=>(hargs v hv).1)
 have hfold:(ps.zip Vs).foldl (fun tmps (t,a)=>tmps.setIfInBounds t a) tmps=(ps.toList.zip Vs.toList).foldl (fun t (p:Nat × Value)=>t.setIfInBounds p.1 p.2) tmps:=by
  rw [←Array.foldl_toList,Array.toList_zip]
 have SA:SI C I ΓB Φb { sl:=setParams sl0 ps.toList args,hp:=H,s:=s1 } ((ps.zip Vs).foldl (fun tmps (t,a)=>tmps.setIfInBounds t a) tmps) w:=⟨SB.hr,by rw [hfold];exact hSR,SB.g,SB.inv,SB.dis⟩
 have hyvB:ΓB.yv=yv:=r.pg.yv.trans hyv0
 have olB:Off ΓB Φb w l:=⟨r.ol.1,notSt (inΦ (.inr (.inr (.inl rfl)))),r.ol.2.2⟩
 have odB:Off ΓB Φb w D:=⟨r.od.1,notSt (inΦ (.inr (.inr (.inr rfl)))),r.od.2.2⟩
 have hfW:=hI.foot _ _ _ _ SA.inv
 refine has (n0:=0) (a:={ tmps:=(ps.zip Vs).foldl (fun tmps (t,a)=>tmps.setIfInBounds t a) tmps,defers:=[] }) hyvB hyx SA (Mk.nil (Nat.zero_le _)) ?_
 intro o1 st1 a1 w1 Γ1 Φ1 h1 hs1 S1 hm1
 cases o1 with
 | exit id=>cases h1
 | ret=>cases h1
 | normal=>
 dsimp only at h1
 obtain ⟨ol1,el1⟩:=olB.step hs1
 obtain ⟨od1,ed1⟩:=odB.step hs1
 have hl1:w1.heap[l]? = some (.loop (recL fn tmps ps as body D .ready none)):=el1.trans hlr
 show ∃ w₂,(Instr.beginRound l).run C.P w1 = .ok () w₂∧body.wpIn (wideAt (some l)) (n-1) C.P (roundPost C.P l _) a1 w₂
 refine ⟨_,run_beginRound hl1 rfl,?_⟩
 have O1:OffW Γ1 Φ1 w1 (w1.putObj l (.loop { recL fn tmps ps as body D .ready none with state:=.busy })):=OffW.put ol1
 have S2:=S1.offW hI O1
 refine hbd (hs1.yv.trans hyvB) h1 S2 (hm1.put hl1) ?_
 intro o2 st2 a2 w3 Γ2 Φ2 h2 hs2 S3 _
 simp only [Option.some.injEq,Prod.mk.injEq] at h2
 obtain ⟨rfl,rfl⟩:=h2
 obtain ⟨ol3,el3⟩:=(Off.put (ob:=.loop { recL fn tmps ps as body D .ready none with state:=.busy }) (l:=l) ol1).step hs2
 obtain ⟨od3,ed3⟩:=(Off.put (ob:=.loop { recL fn tmps ps as body D .ready none with state:=.busy }) (l:=l) od1).step hs2
 have hl3:w3.heap[l]? = some (.loop { recL fn tmps ps as body D .ready none with state:=.busy }):=el3.trans (World.putObj_heap_same ol1.1)
 have hend:=run_endRound (P:=C.P) ((pendOf o2).map jmp) hl3
 have hDl:D≠l:=by
  rintro rfl
  rw [hlr] at hdr
  cases hdr
 obtain ⟨w4,hw4⟩:∃ w4,w3.putObj l (.loop { { recL fn tmps ps as body D .ready none with state:=.busy } with state:=if ((pendOf o2).map jmp).isNone then .ready else .done,pending:=(pendOf o2).map jmp })=w4:=⟨_,rfl⟩
 rw [hw4] at hend
 have O3:OffW Γ2 Φ2 w3 w4:=by rw [←hw4];exact OffW.put ol3
 have ol4:Off Γ2 Φ2 w4 l:=by rw [←hw4];exact ol3.put
 have od4:Off Γ2 Φ2 w4 D:=by rw [←hw4];exact od3.put
 have S4:=S3.offW hI O3
 have hlen:H.length≤st2.hp.length:=Nat.le_trans hs1.len hs2.len
 obtain ⟨Γ3,S5,t1,t2,t3,t4,t5,t6⟩:=trunc_SI hI S4 hlen
 have ets:(trunc H.length st2).s=st2.s:=by unfold trunc;split<;>rfl
 have PgR:Pg C ΓB H w Φb Γ2 st2.hp w4 Φ2:=hs1.pg.trans ((Pg.off S1.hr O1).trans (hs2.pg.trans (Pg.off S3.hr O3)))
 have P1:Pg C Γ0 H0 w0 Φ0 Γ2 st2.hp w4 Φ2:=r.pg.trans ((Pg.wideSt r.si.hr r.st).trans PgR)
 have hst1:=hs1.st SA.hr (fun g hg=>(hfW g hg).2)
 have hst2:=hs2.st S2.hr (fun g hg=>(hI.foot _ _ _ _ S2.inv g hg).2)
 have hstA:∀ g,ΓB.St g→w4.heap[g]? = w.heap[g]?:=fun g hg=>by
  have q1:=hs1.sub g hg
  have q2:=hs2.sub g q1
  rw [O3.same g (.inl q2),hst2 g q1,O1.same g (.inl q1),hst1 g hg]
 have hL0:=r.pg.len
 have hkeep:∀ c,c<H0.length∧fixS C (shpOf H0 c)→Γ3.nm c = ΓB.nm c∧shpOf (trunc H.length st2).hp c=shpOf H c∧∀ g,ΓB.nm c=some g→w4.shape? g=w.shape? g:=fun c ⟨hc1,hc2⟩=>by
  obtain ⟨_,k2,_⟩:=r.pg.keep c hc1 hc2
  have hcH:c<H.length:=Nat.lt_of_lt_of_le hc1 hL0
  obtain ⟨m1,m2,m3⟩:=PgR.keep c hcH (by rw [k2];exact hc2)
  obtain ⟨n1,n2⟩:=t5 c hcH
  exact ⟨n1.trans m1,n2.trans m2,m3⟩
 have M:Mono ΓB (shpOf H) w Γ3 (shpOf (trunc H.length st2).hp) w4 (fun c=>c<H0.length∧fixS C (shpOf H0 c)):=
  ⟨hstA,fun g hg=>t1 g (PgR.sub g hg),fun b hb=>(hkeep b hb).1,fun b hb=>(hkeep b hb).2.1,fun b g hb hg=>(hkeep b hb).2.2 g hg,t4.trans PgR.yv⟩
 have SF:SI C I Γ3 Φ2 { sl:=sl0,hp:=(trunc H.length st2).hp,s:=st2.s } tmps w4:=
  ⟨S5.hr,SB.sr.mono M (fun c hc=>⟨hfix c hc,Nat.lt_of_lt_of_le (hfix c hc).1 (Nat.le_trans hL0 t6)⟩),S5.g,by have:=S5.inv;rw [ets] at this;exact this,S5.dis⟩
 have PF:Pg C Γ0 H0 w0 Φ0 Γ3 (trunc H.length st2).hp w4 Φ2:=⟨P1.os,P1.tape,P1.output,P1.size,fun g hg=>t1 g (P1.sub g hg),fun b g hb=>P1.own b g (t3 b g hb),P1.foot,t4.trans P1.yv,Nat.le_trans hL0 t6,fun b hb hf=>by
  obtain ⟨k1,k2,k3⟩:=P1.keep b hb hf
  obtain ⟨n1,n2⟩:=t5 b (Nat.lt_of_lt_of_le hb hL0)
  exact ⟨n1.trans k1,n2.trans k2,k3⟩⟩
 have offT:∀ {g},Off Γ2 Φ2 w4 g→Off Γ3 Φ2 w4 g:=fun {g} h=>⟨h.1,fun q=>by
  rcases t2 g q with q | ⟨b,_,q⟩
  ·exact h.2.1 q
  ·exact h.2.2.1 b q,fun b q=>h.2.2.1 b (t3 b g q),h.2.2.2⟩
 have hl4:w4.heap[l]? = some (.loop (recL fn tmps ps as body D (stOf (pendOf o2)) ((pendOf o2).map jmp))):=by
  rw [←hw4,World.putObj_heap_same ol3.1]
  cases o2<;>rfl
 have hd4:w4.heap[D]? = some (.deferred (some [])):=by
  rw [←hw4,World.putObj_heap_other hDl,ed3,World.putObj_heap_other hDl,ed1]
  exact hdr
 have hf5:=hI.foot _ _ _ _ SF.inv
 have RB:RIb C I Γ0 H0 w0 Φ0 sl0 tmps l D (recL fn tmps ps as body D) ((trunc H.length st2).hp,pendOf o2,st2.s) Γ3.St (fun g=>Φ2 g∨(∃ b,Γ3.nm b=some g)∨g=l∨g=D) w4 Γ3 Φ2:=by
  refine ⟨SF,PF,fun _ h=>h,fun _=>Iff.rfl,fun g hg=>?_,offT ol4,offT od4,hl4,hd4⟩
  rcases hg with q | ⟨b,q⟩ | rfl | rfl
  ·exact hf5 g q
  ·have:=SF.hr.lt b g q
   exact ⟨this.2.1,this.2.2⟩
  ·exact ⟨ol4.1,(offT ol4).2.1⟩
  ·exact ⟨od4.1,(offT od4).2.1⟩
 have hs1sz:=hs1.size
 have e2:∀ {g},(w1.putObj l (.loop { recL fn tmps ps as body D .ready none with state:=.busy })).heap.size≤g→w.heap.size≤g:=fun {g} q=>Nat.le_trans (Nat.le_trans hs1sz O1.size) q
 have e3:∀ {g},g<w.heap.size→g<(w1.putObj l (.loop { recL fn tmps ps as body D .ready none with state:=.busy })).heap.size:=fun {g} q=>Nat.lt_of_lt_of_le q (Nat.le_trans hs1sz O1.size)
 have fin:next (a.put o.dst (.bool ((pendOf o2).map jmp).isNone)) w4:=by
  refine hnext _ _ ⟨by rw [jmp_none],Γ3.St,_,⟨Γ3,Φ2,RB⟩,fun g hg=>t1 g (PgR.sub g hg),fun g hg=>?_,fun g hg=>?_,fun g hg hp=>?_,PgR.size,PgR.os,PgR.tape,PgR.output,SF.hr.stlt⟩
  ·have st2c:Γ2.St g→Γ.St g∨w.heap.size≤g:=fun q=>by
    rcases hs2.stnew g q with q | q
    ·exact hs1.stnew g q
    ·exact .inr (e2 q)
   rcases t2 g hg with q | ⟨b,hb,q⟩
   ·exact st2c q
   ·rcases hs2.own b g q with ⟨_,q⟩ | q
    ·rcases hs1.own b g q with ⟨q',_⟩ | q
     ·simp only at q';omega
     ·exact .inr q
    ·exact .inr (e2 q)
  ·rcases hg with q | ⟨b,q⟩ | rfl | rfl
   ·rcases PgR.foot g q with q | q
    ·exact .inl (inΦ (.inl q))
    ·exact .inr q
   ·rcases PgR.own b g (t3 b g q) with ⟨_,q⟩ | q
    ·exact .inl (inΦ (.inr (.inl ⟨b,q⟩)))
    ·exact .inr q
   ·exact .inl (inΦ (.inr (.inr (.inl rfl))))
   ·exact .inl (inΦ (.inr (.inr (.inr rfl))))
  ·have hgl:g≠l:=fun e=>hp (inΦ (.inr (.inr (.inl e))))
   have n1:∀ b,ΓB.nm b≠some g:=fun b q=>hp (inΦ (.inr (.inl ⟨b,q⟩)))
   have p1:¬ Φb g:=fun q=>hp (inΦ (.inl q))
   have n2:∀ b,Γ1.nm b≠some g:=fun b q=>by
    rcases hs1.own b g q with ⟨_,q⟩ | q
    ·exact n1 b q
    ·omega
   have p2:¬ Φ1 g:=fun q=>by
    rcases hs1.foot g q with q | q
    ·exact p1 q
    ·omega
   rw [←hw4,World.putObj_heap_other hgl,hs2.frame g (e3 hg) n2 p2,World.putObj_heap_other hgl,hs1.frame g hg n1 p1]
 cases o2 with
 | normal=>exact ⟨_,_,hend,fin⟩
 | exit id=>exact ⟨_,_,hend,fin⟩
 | ret=>exact ⟨_,_,hend,fin⟩
end
end Go.Proofs.YtcfingekgbbclaaGreatDoor.E
namespace Go.Proofs.YtcfingekgbbclaaGreatDoor.E
open Go
set_option linter.unusedVariables false
set_option linter.unusedSimpArgs false
section
variable {σ R S : Type} (C : Cfg) (g : R → Option S)
theorem need_bind (c:Bool) (k:Option R):(need c k).bind g=need c (k.bind g):=by cases c<;>rfl
theorem splitB_bind (b:Bool) (k:Bool→Option R):(splitB b k).bind g=splitB b fun t=>(k t).bind g:=by cases b<;>rfl
theorem cond_bind (b:Bool) (x y:Option R):(cond b x y).bind g=cond b (x.bind g) (y.bind g):=by cases b<;>rfl
theorem ite_bind (p:Prop) [Decidable p] (x y:Option R):(if p then x else y).bind g=if p then x.bind g else y.bind g:=by split<;>rfl
theorem runTr_bind:∀ (t:Tr) (k:PV→List Blk→Option R),(runTr t k).bind g=runTr t fun v H=>(k v H).bind g
 | .ret v H,k=>rfl
 | .need c t,k=>by cases c;rfl;exact runTr_bind t k
 | .split c a b,k=>by cases c;exact runTr_bind b k;exact runTr_bind a k
 | .fail,_=>rfl
theorem binK_bind (op:BinOp) (t:Nat) (x y:PV) (H:List Blk) (k:PV→Option R):(binK C op t x y H k).bind g=binK C op t x y H fun v=>(k v).bind g:=by unfold binK;((try dsimp only);(repeat' (first | rfl | split | (simp only [need_bind,splitB_bind,cond_bind,ite_bind,runTr_bind,Option.bind_none,Option.bind_some]))))
theorem unK_bind (op:UnOp) (x:PV) (k:PV→Option R):(unK op x k).bind g=unK op x fun v=>(k v).bind g:=by unfold unK;((try dsimp only);(repeat' (first | rfl | split | (simp only [need_bind,splitB_bind,cond_bind,ite_bind,runTr_bind,Option.bind_none,Option.bind_some]))))
theorem loadK_bind (t:TI) (a:PV) (H:List Blk) (k:PV→Option R):(loadK t a H k).bind g=loadK t a H fun v=>(k v).bind g:=by unfold loadK;((try dsimp only);(repeat' (first | rfl | split | (simp only [need_bind,splitB_bind,cond_bind,ite_bind,runTr_bind,Option.bind_none,Option.bind_some]))))
theorem storeK_bind (t:TI) (a v:PV) (H:List Blk) (k:List Blk→Option R):(storeK t a v H k).bind g=storeK t a v H fun v=>(k v).bind g:=by unfold storeK;((try dsimp only);(repeat' (first | rfl | split | (simp only [need_bind,splitB_bind,cond_bind,ite_bind,runTr_bind,Option.bind_none,Option.bind_some]))))
theorem indexAddrK_bind (t:Nat) (x i:PV) (H:List Blk) (k:PV→Option R):(indexAddrK C t x i H k).bind g=indexAddrK C t x i H fun v=>(k v).bind g:=by unfold indexAddrK;((try dsimp only);(repeat' (first | rfl | split | (simp only [need_bind,splitB_bind,cond_bind,ite_bind,runTr_bind,Option.bind_none,Option.bind_some]))))
theorem indexK_bind (t:Nat) (x i:PV) (k:PV→Option R):(indexK C t x i k).bind g=indexK C t x i fun v=>(k v).bind g:=by unfold indexK;((try dsimp only);(repeat' (first | rfl | split | (simp only [need_bind,splitB_bind,cond_bind,ite_bind,runTr_bind,Option.bind_none,Option.bind_some]))))
theorem sliceK_bind (t:Nat) (x:PV) (lo hi mx:Option PV) (H:List Blk) (k:PV→Option R):(sliceK C t x lo hi mx H k).bind g=sliceK C t x lo hi mx H fun v=>(k v).bind g:=by unfold sliceK;((try dsimp only);(repeat' (first | rfl | split | (simp only [need_bind,splitB_bind,cond_bind,ite_bind,runTr_bind,Option.bind_none,Option.bind_some]))))
theorem sliceArrK_bind (b n:Nat) (lo hi mx:Option PV) (k:PV→Option R):(sliceArrK b n lo hi mx k).bind g=sliceArrK b n lo hi mx fun v=>(k v).bind g:=by unfold sliceArrK;((try dsimp only);(repeat' (first | rfl | split | (simp only [need_bind,splitB_bind,cond_bind,ite_bind,runTr_bind,Option.bind_none,Option.bind_some]))))
theorem appendK_bind (t:Nat) (sl:List PV) (s x:PV) (H:List Blk) (k:PV→List PV→List Blk→Option R):(appendK C t sl s x H k).bind g=appendK C t sl s x H fun v a b=>(k v a b).bind g:=by unfold appendK;((try dsimp only);(repeat' (first | rfl | split | (simp only [need_bind,splitB_bind,cond_bind,ite_bind,runTr_bind,Option.bind_none,Option.bind_some]))))
theorem copyK_bind (t:Nat) (d x:PV) (H:List Blk) (k:PV→List Blk→Option R):(copyK C t d x H k).bind g=copyK C t d x H fun v a=>(k v a).bind g:=by unfold copyK;((try dsimp only);(repeat' (first | rfl | split | (simp only [need_bind,splitB_bind,cond_bind,ite_bind,runTr_bind,Option.bind_none,Option.bind_some]))))
theorem convK_bind (src dst:Nat) (x:PV) (H:List Blk) (k:PV→Option R):(convK C src dst x H k).bind g=convK C src dst x H fun v=>(k v).bind g:=by unfold convK;((try dsimp only);(repeat' (first | rfl | split | (simp only [need_bind,splitB_bind,cond_bind,ite_bind,runTr_bind,Option.bind_none,Option.bind_some]))))
theorem bytesK_bind (src dst:Nat) (x:PV) (k:PV→Option R):(bytesK C src dst x k).bind g=bytesK C src dst x fun v=>(k v).bind g:=by unfold bytesK;((try dsimp only);(repeat' (first | rfl | split | (simp only [need_bind,splitB_bind,cond_bind,ite_bind,runTr_bind,Option.bind_none,Option.bind_some]))))
theorem lenK_bind (x:PV) (t:Nat) (H:List Blk) (k:PV→Option R):(lenK C x t H k).bind g=lenK C x t H fun v=>(k v).bind g:=by unfold lenK;((try dsimp only);(repeat' (first | rfl | split | (simp only [need_bind,splitB_bind,cond_bind,ite_bind,runTr_bind,Option.bind_none,Option.bind_some]))))
theorem buildK_bind (t:Nat) (parts:List (Nat × PV)) (k:PV→Option R):(buildK C t parts k).bind g=buildK C t parts fun v=>(k v).bind g:=by unfold buildK;((try dsimp only);(repeat' (first | rfl | split | (simp only [need_bind,splitB_bind,cond_bind,ite_bind,runTr_bind,Option.bind_none,Option.bind_some]))))
theorem buildSliceK_bind (t len:Nat) (parts:List (Nat × PV)) (H:List Blk) (k:PV→List Blk→Option R):(buildSliceK C t len parts H k).bind g=buildSliceK C t len parts H fun v a=>(k v a).bind g:=by unfold buildSliceK;((try dsimp only);(repeat' (first | rfl | split | (simp only [need_bind,splitB_bind,cond_bind,ite_bind,runTr_bind,Option.bind_none,Option.bind_some]))))
theorem makeSliceK_bind (t:Nat) (l c:PV) (H:List Blk) (k:PV→List Blk→Option R):(makeSliceK C t l c H k).bind g=makeSliceK C t l c H fun v a=>(k v a).bind g:=by unfold makeSliceK;((try dsimp only);(repeat' (first | rfl | split | (simp only [need_bind,splitB_bind,cond_bind,ite_bind,runTr_bind,Option.bind_none,Option.bind_some]))))
theorem minmaxK_bind (mx:Bool) (l:List PV) (k:PV→Option R):(minmaxK mx l k).bind g=minmaxK mx l fun v=>(k v).bind g:=by unfold minmaxK;((try dsimp only);(repeat' (first | rfl | split | (simp only [need_bind,splitB_bind,cond_bind,ite_bind,runTr_bind,Option.bind_none,Option.bind_some]))))
theorem fieldAddrK_bind (t:Nat) (x:PV) (f:Nat) (k:PV→Option R):(fieldAddrK C t x f k).bind g=fieldAddrK C t x f fun v=>(k v).bind g:=by unfold fieldAddrK;((try dsimp only);(repeat' (first | rfl | split | (simp only [need_bind,splitB_bind,cond_bind,ite_bind,runTr_bind,Option.bind_none,Option.bind_some]))))
theorem fieldK_bind (t:Nat) (x:PV) (f:Nat) (k:PV→Option R):(fieldK C t x f k).bind g=fieldK C t x f fun v=>(k v).bind g:=by unfold fieldK;((try dsimp only);(repeat' (first | rfl | split | (simp only [need_bind,splitB_bind,cond_bind,ite_bind,runTr_bind,Option.bind_none,Option.bind_some]))))
theorem builtinK_bind (b:Builtin) (ts:List Nat) (args:List PV) (st:St σ) (k:PV→St σ→Option R):(builtinK C b ts args st k).bind g=builtinK C b ts args st fun v s=>(k v s).bind g:=by
 unfold builtinK
 split
 ·rw [lenK_bind]
 ·split
  ·rw [appendK_bind]
  ·rfl
 ·rw [copyK_bind]
 ·rw [minmaxK_bind]
 ·rw [minmaxK_bind]
 ·rfl
theorem boxK_bind (e:Nat) (cells:List PV) (H:List Blk) (k:PV→List Blk→Option R):(boxK C e cells H k).bind g=boxK C e cells H fun v a=>(k v a).bind g:=by unfold boxK;((try dsimp only);(repeat' (first | rfl | split | (simp only [need_bind,splitB_bind,cond_bind,ite_bind,runTr_bind,Option.bind_none,Option.bind_some]))))
theorem callF_bind (cl:CallT) (yh:Yh σ) (f:Nat) (args:List PV) (st:St σ) (k:PV→St σ→Option R):(callF C cl yh f args st k).bind g=callF C cl yh f args st fun v s=>(k v s).bind g:=by
 unfold callF
 split
 ·split
  ·rw [runTr_bind]
   congr 1;funext v H;rw [need_bind]
  ·rfl
 ·((try dsimp only);(repeat' (first | rfl | split | (simp only [need_bind,splitB_bind,cond_bind,ite_bind,runTr_bind,Option.bind_none,Option.bind_some]))))
theorem ydK_bind (x:Option (Bool × σ)) (k:Bool→σ→Option R):(ydK x k).bind g=ydK x fun b s=>(k b s).bind g:=by unfold ydK;((try dsimp only);(repeat' (first | rfl | split | (simp only [need_bind,splitB_bind,cond_bind,ite_bind,runTr_bind,Option.bind_none,Option.bind_some]))))
theorem callV_bind (cl:CallT) (yh:Yh σ) (f:PV) (args:List PV) (st:St σ) (k:PV→St σ→Option R):(callV C cl yh f args st k).bind g=callV C cl yh f args st fun v s=>(k v s).bind g:=by
 unfold callV
 split
 ·rw [callF_bind]
 ·rw [callF_bind]
 ·split
  ·rw [ydK_bind]
  ·rfl
 ·rfl
theorem opK_bind (cl:CallT) (yh:Yh σ) (o:Oper) (st:St σ) (k:St σ→Option R):(opK C cl yh o st k).bind g=opK C cl yh o st fun s=>(k s).bind g:=by
 unfold opK
 dsimp only
 split<;>(first | rfl | (simp only [boxK_bind,buildK_bind,buildSliceK_bind,loadK_bind,storeK_bind,binK_bind,unK_bind,makeSliceK_bind,fieldAddrK_bind,fieldK_bind,indexAddrK_bind,indexK_bind];done) | skip)
 all_goals ((try dsimp only);(repeat' (first | rfl | split | (simp only [need_bind,splitB_bind,cond_bind,ite_bind,runTr_bind,Option.bind_none,Option.bind_some]))))
 all_goals (first | rfl | skip)
 all_goals (simp only [builtinK_bind,callV_bind,boxK_bind,buildK_bind,buildSliceK_bind,loadK_bind,storeK_bind,binK_bind,unK_bind,makeSliceK_bind,fieldAddrK_bind,fieldK_bind,indexAddrK_bind,indexK_bind,bytesK_bind,convK_bind,sliceK_bind,sliceArrK_bind,need_bind,splitB_bind])
theorem opsK_bind (cl:CallT) (yh:Yh σ) (all:Array Oper):∀ (l:List Oper) (st:St σ) (k:St σ→Option R),(opsK C cl yh all l st k).bind g=opsK C cl yh all l st fun s=>(k s).bind g
 | [],st,k=>rfl
 | o::rest,st,k=>by
  simp only [opsK]
  have ih:=opsK_bind cl yh all rest
  split
  ·rw [opK_bind];congr 1;funext s;exact ih s k
  ·split
   ·split
    ·rw [splitB_bind];congr 1;funext b
     split
     ·rw [opK_bind];congr 1;funext s;exact ih s k
     ·exact ih _ k
    ·exact ih _ k
    ·rfl
   ·rfl
theorem rowK_bind (o:Oper) (sl:List PV) (k:Trn→Option R):(rowK C o sl k).bind g=rowK C o sl fun v=>(k v).bind g:=by
 unfold rowK
 repeat' (first | rfl | split | rw [need_bind])
theorem turnK_bind (d:Option Nat) (t:Trn) (st:St σ) (k:St σ→Option R):(turnK C d t st k).bind g=turnK C d t st fun s=>(k s).bind g:=by
 unfold turnK
 split
 ·rfl
 ·exact boxK_bind C g _ _ _ _
theorem opsMK_bind (cl:CallT) (yh:Yh σ) (all:Array Oper) (d:Option Nat):∀ (l:List Nat) (st:St σ) (k:St σ→Option R),(opsMK C cl yh all d l st k).bind g=opsMK C cl yh all d l st fun s=>(k s).bind g
 | [],st,k=>rfl
 | i::rest,st,k=>by
  simp only [opsMK]
  rw [opsK_bind]
  congr 1;funext s
  exact opsMK_bind cl yh all d rest _ k
theorem regK_bind (cl:CallT) (yh:Yh σ) (id:Nat) (ops:Array Oper) (d:Bool) (st:St σ) (k:St σ→Option R):(regK C cl yh id ops d st k).bind g=regK C cl yh id ops d st fun s=>(k s).bind g:=by
 unfold regK
 split
 ·exact opsK_bind C g cl yh ops _ st k
 ·split
  ·rw [opsK_bind];congr 1;funext s
   rw [rowK_bind];congr 1;funext v
   rw [opsMK_bind];congr 1;funext s2
   rw [turnK_bind];congr 1;funext s3
   exact opsK_bind C g cl yh ops _ _ k
  ·rfl
theorem loopK_bind (L:Nat) (ds:Option (List Nat)) (body:St σ→(Out→St σ→Option R)→Option R) (body':St σ→(Out→St σ→Option S)→Option S) (hb:∀ st k,(body st k).bind g=body' st fun o s=>(k o s).bind g):∀ (n:Nat) (st:St σ) (k:Out→St σ→Option R),(loopK L ds body n st k).bind g=loopK L ds body' n st fun o s=>(k o s).bind g
 | 0,st,k=>rfl
 | n+1,st,k=>by
  simp only [loopK]
  rw [hb]
  congr 1;funext o s
  cases o with
  | normal=>exact loopK_bind L ds body body' hb n _ k
  | exit id=>rfl
  | ret=>rfl
theorem roundsK_bind {ps:Array Tmp} {sl0:List PV} {as bd:St σ→(Out→St σ→Option R)→Option R} {as' bd':St σ→(Out→St σ→Option S)→Option S} (ha:∀ st k,(as st k).bind g=as' st fun o s=>(k o s).bind g) (hb:∀ st k,(bd st k).bind g=bd' st fun o s=>(k o s).bind g) :
  ∀ (L:List (List PV)) (H:List Blk) (s:σ) (k:Option Out→List Blk→σ→Option R),(roundsK ps sl0 as bd L H s k).bind g=roundsK ps sl0 as' bd' L H s fun p H s=>(k p H s).bind g
 | [],H,s,k=>rfl
 | x::xs,H,s,k=>by
  simp only [roundsK]
  split
  ·rw [ha]
   congr 1;funext o st1
   cases o with
   | normal=>
    dsimp only
    rw [hb]
    congr 1;funext o2 st2
    cases o2 with
    | normal=>exact roundsK_bind ha hb xs _ _ k
    | exit id=>rfl
    | ret=>rfl
   | exit id=>rfl
   | ret=>rfl
  ·rfl
theorem rangeK_bind (cl:CallT) (f:PV) (st:St σ) (yR:List PV→Yh (List Blk × Option Out × σ)) {sR:List PV→List (List PV)→List Blk→σ→(Option Out→List Blk→σ→Option R)→Option R} {sR':List PV→List (List PV)→List Blk→σ→(Option Out→List Blk→σ→Option S)→Option S}
  (hs:∀ sl0 L H s k,(sR sl0 L H s k).bind g=sR' sl0 L H s fun p H s=>(k p H s).bind g) (k:Out→St σ→Option R):(rangeK C cl f st yR sR k).bind g=rangeK C cl f st yR sR' fun o s=>(k o s).bind g:=by
 unfold rangeK
 split
 ·split
  ·unfold rangeS
   split
   ·split
    ·rw [need_bind,hs];rfl
    ·rfl
   ·rfl
  ·unfold rangeK2;((try dsimp only);(repeat' (first | rfl | split | (simp only [need_bind,splitB_bind,cond_bind,ite_bind,runTr_bind,Option.bind_none,Option.bind_some]))))
 ·rfl
end
theorem evCode_bind {σ:Type} (C:Cfg) (cl:CallT) (yh:Yh σ):∀ (c:Code) {R S:Type} (g:R→Option S) (st:St σ) (k:Out→St σ→Option R),(evCode C cl yh c st k).bind g=evCode C cl yh c st fun o s=>(k o s).bind g:=by
 intro c
 induction c with
 | skip=>intros;rfl
 | label l=>intros;rfl
 | region id ops d=>intro R S g st k;simp only [evCode];rw [regK_bind]
 | seq a b iha ihb=>
  intro R S g st k
  simp only [evCode]
  rw [iha]
  congr 1;funext o s
  cases o with
  | normal=>exact ihb g s k
  | exit id=>rfl
  | ret=>rfl
 | cond c a b iha ihb=>
  intro R S g st k
  simp only [evCode]
  split
  ·rw [splitB_bind];congr 1;funext t
   rw [cond_bind,iha,ihb]
  ·rfl
 | block id a ih=>
  intro R S g st k
  simp only [evCode]
  rw [ih]
  congr 1;funext o s
  cases o with
  | normal=>rfl
  | exit j=>dsimp only;split<;>rfl
  | ret=>rfl
 | loop a ih=>
  intro R S g st k
  simp only [evCode]
  exact loopK_bind g _ _ _ _ (fun st k=>ih g st k) _ _ _
 | scope a ih=>intro R S g st k;simp only [evCode];rw [ih]
 | exit id=>intros;rfl
 | ret=>intros;rfl
 | rangeFunc f ps a b iha ihb=>
  intro R S g st k
  simp only [evCode]
  exact rangeK_bind C g cl (opnd C st.sl f) st _ (sR:=fun sl0=>roundsK ps sl0 (fun st k=>evCode C cl yh a st k) (fun st k=>evCode C cl yh b st k)) (sR':=fun sl0=>roundsK ps sl0 (fun st k=>evCode C cl yh a st k) (fun st k=>evCode C cl yh b st k))
   (fun sl0 L H s k=>roundsK_bind (ps:=ps) (sl0:=sl0) g (as:=fun st k=>evCode C cl yh a st k) (bd:=fun st k=>evCode C cl yh b st k) (as':=fun st k=>evCode C cl yh a st k) (bd':=fun st k=>evCode C cl yh b st k) (fun st k=>iha g st k) (fun st k=>ihb g st k) L H s k) k
 | _=>intros;rfl
theorem evCode_out {σ R:Type} {C:Cfg} {cl:CallT} {yh:Yh σ} {c:Code} {st:St σ} {k:Out→St σ→Option R} {r:R} (h:evCode C cl yh c st k=some r):∃ o s,evCode C cl yh c st (fun o s=>some (o,s))=some (o,s)∧k o s=some r:=by
 have:=evCode_bind C cl yh c (fun p:Out × St σ=>k p.1 p.2) st (fun o s=>some (o,s))
 simp only [Option.bind_some] at this
 rw [←this] at h
 cases he:evCode C cl yh c st (fun o s=>some (o,s)) with
 | none=>rw [he] at h;cases h
 | some p=>rw [he] at h;exact ⟨p.1,p.2,rfl,h⟩
theorem evCode_in {σ R:Type} {C:Cfg} {cl:CallT} {yh:Yh σ} {c:Code} {st:St σ} {k:Out→St σ→Option R} {o:Out} {s:St σ} (h:evCode C cl yh c st (fun o s=>some (o,s))=some (o,s)):evCode C cl yh c st k=k o s:=by
 have:=evCode_bind C cl yh c (fun p:Out × St σ=>k p.1 p.2) st (fun o s=>some (o,s))
 rw [h] at this
 exact this.symm
end Go.Proofs.YtcfingekgbbclaaGreatDoor.E
namespace Go.Proofs.YtcfingekgbbclaaGreatDoor.E
open Go
set_option linter.unusedVariables false
def Ctx.hide (Γ:Ctx) (ns:List Nat):Ctx:={ Γ with nm:=fun b=>if b∈ns then none else Γ.nm b }
def Ctx.reyv (Γ:Ctx) (y:Value) (hy:y.oneCell'=true):Ctx:={ Γ with yv:=y,yv1:=hy }
section
variable {σ R : Type} {r : R} {C : Cfg} {I : σ → (Nat → Prop) → (Nat → Prop) → World → Prop} {Γ Γ' : Ctx} {Φ Φ' : Nat → Prop} {st : St σ} {a : Act} {w w' : World} {cl : CallT} {yh : Yh σ} {yv : Value} {H H' : List Blk} {tmps : Array Value}
theorem yfL_mem:∀ {l:List PV},yfL l=true→∀ v∈l,v.yf=true
 | [],_,v,hv=>by simp at hv
 | x::r,h,v,hv=>by
  simp only [yfL,Bool.and_eq_true] at h
  rcases List.mem_cons.1 hv with rfl | hv
  ·exact h.1
  ·exact yfL_mem h.2 v hv
theorem VP.reyv {sh:Nat→Option Shp} {y:Value} {hy:y.oneCell'=true} {v:PV} {V:Value} (h:VP Γ sh w v V):v.yf=true→VP (Γ.reyv y hy) sh w v V:=by
 induction h with
 | s v V h=>intro _;exact .s v V h
 | nsl=>intro _;exact .nsl
 | flv b e sz h=>intro _;exact .flv b e sz h
 | fl b g v e sz n cap h hv hg hcap hm hs=>intro _;exact .fl b g v e sz n cap h hv hg hcap hm hs
 | vwv b e sz i h=>intro _;exact .vwv b e sz i h
 | vw b i n g a cap v e sz m h hv hg ha hi hcap hm=>intro _;exact .vw b i n g a cap v e sz m h hv hg ha hi hcap hm
 | ptrA b i off g v e sz n h hg=>intro _;exact .ptrA b i off g v e sz n h hg
 | ptrB b off g h hg=>intro _;exact .ptrB b off g h hg
 | fnr g x y A B As Bs hf hA hB ha hb hx hy ihx ihy=>
  intro hc
  simp only [PV.yf,Bool.and_eq_true] at hc
  exact .fnr g x y A B As Bs hf hA hB ha hb (fun j h=>ihx j h (yfL_mem hc.1 _ (List.getElem_mem h))) (fun j h=>ihy j h (yfL_mem hc.2 _ (List.getElem_mem h)))
 | it b g h hg=>intro _;exact .it b g h hg
 | yd=>intro h;simp [PV.yf] at h
 | agg l A As hA ha hl ih=>
  intro hc
  simp only [PV.yf] at hc
  exact .agg l A As hA ha (fun j h=>ih j h (yfL_mem hc _ (List.getElem_mem h)))
 | tup l A As hA ha hl ih=>
  intro hc
  simp only [PV.yf] at hc
  exact .tup l A As hA ha (fun j h=>ih j h (yfL_mem hc _ (List.getElem_mem h)))
 | bad V=>intro _;exact .bad V
mutual
theorem PV.yf_rn (f:Nat→Nat):∀ v:PV,(v.rn f).yf=v.yf
 | .s _=>rfl
 | .nsl=>rfl
 | .fl b=>rfl
 | .vw b _ _=>rfl
 | .ptr b _ _=>rfl
 | .fnr _ x y=>by simp only [PV.rn,PV.yf,yfL_rn f x,yfL_rn f y]
 | .it b=>rfl
 | .yd=>rfl
 | .agg l=>by simp only [PV.rn,PV.yf,yfL_rn f l]
 | .tup l=>by simp only [PV.rn,PV.yf,yfL_rn f l]
 | .bad=>rfl
theorem yfL_rn (f:Nat→Nat):∀ l:List PV,yfL (rnL f l)=yfL l
 | []=>rfl
 | v::r=>by simp only [rnL,yfL,PV.yf_rn f v,yfL_rn f r]
end
theorem Blk.yf_rn (f:Nat→Nat) (x:Blk):(x.rn f).yf=x.yf:=by cases x<;>simp [Blk.rn,Blk.yf,yfL_rn]
theorem BR.reyv {sh:Nat→Option Shp} {b:Nat} {x:Blk} {y:Value} {hy:y.oneCell'=true} (h:BR Γ sh w b x) (hx:x.yf=true):BR (Γ.reyv y hy) sh w b x:=by
 cases x with
 | arr v e sz els=>exact h
 | box cells=>
  simp only [Blk.yf] at hx
  obtain ⟨g,cur,e,h1,h2,h3,h4⟩:=h
  refine ⟨g,cur,e,h1,h2,h3,fun j h=>?_⟩
  obtain ⟨V,e1,e2⟩:=h4 j h
  exact ⟨V,e1,e2.reyv (yfL_mem hx _ (List.getElem_mem h))⟩
 | iter s p=>exact h
 | dead=>exact h
theorem HR.reyv {y:Value} {hy:y.oneCell'=true} (h:HR Γ H w) (hx:∀ b (h:b<H.length),(H[b]).yf=true):HR (Γ.reyv y hy) H w:=
 ⟨h.inj,h.lt,h.stlt,h.nms,fun b hb=>(h.blk b hb).reyv (hx b hb)⟩
theorem loose_spec:∀ (H:List Blk) (n:Nat),∀ b (h:b<H.length),(n+b)∈loose C H n∨fixB C H[b]=true
 | [],n,b,h=>by simp at h
 | x::r,n,0,_=>by
  cases hf:fixB C x with
  | true=>exact .inr hf
  | false=>exact .inl (by simp [loose,hf])
 | x::r,n,b+1,h=>by
  have:=loose_spec r (n+1) b (by simpa using h)
  rw [show n+1+b=n+(b+1) by omega] at this
  rcases this with q | q
  ·refine .inl ?_
   simp only [loose]
   cases fixB C x with
   | true=>exact q
   | false=>exact List.mem_cons_of_mem _ q
  ·exact .inr (by simpa using q)
theorem hide_Mono {ns:List Nat} (hsh:∀ b,b∉ns→shpOf H' b=shpOf H b):Mono Γ (shpOf H) w (Γ.hide ns) (shpOf H') w (·∉ns):=
 ⟨fun _ _=>rfl,fun _ h=>h,fun b hb=>by simp only [Ctx.hide];rw [if_neg hb],hsh,fun _ _ _ _=>rfl,rfl⟩
theorem dead_HR {ns:List Nat} (hH:HR Γ H w) (hnd:ns.Nodup) (hlt:∀ b∈ns,b<H.length):(deadAll ns H).length=H.length∧(∀ b,b∉ns→shpOf (deadAll ns H) b=shpOf H b)∧(∀ b,b∈ns→shpOf (deadAll ns H) b=some .dead)∧HR (Γ.hide ns) (deadAll ns H) w:=by
 obtain ⟨kb1,kb2,kb3⟩:=killBs_spec (Γ:=Γ) (sh:=shpOf H) (w:=w) ns H
 obtain ⟨sa1,sa2⟩:=setAll_spec ns (List.replicate ns.length .dead) (killBs ns H) hnd (by simp) (fun b hb=>by rw [kb1];exact hlt b hb)
 have hl:(deadAll ns H).length=H.length:=by rw [deadAll,sa1,kb1]
 have hout:∀ b,b∉ns→(deadAll ns H)[b]? = (killBs ns H)[b]?:=fun b hb=>by rw [deadAll,sa2,if_neg hb]
 have hin:∀ b,b∈ns→(deadAll ns H)[b]? = some .dead:=fun b hb=>by
  rw [deadAll,sa2,if_pos hb,List.getElem?_replicate,if_pos (List.idxOf_lt_length_of_mem hb)]
 have hsh:∀ b,b∉ns→shpOf (deadAll ns H) b=shpOf H b:=fun b hb=>by
  rw [←kb2 b];simp only [shpOf,hout b hb]
 have M:=hide_Mono (Γ:=Γ) (H:=H) (w:=w) hsh
 have hnm:∀ b g,(Γ.hide ns).nm b=some g→b∉ns∧Γ.nm b=some g:=fun b g h=>by
  simp only [Ctx.hide] at h
  split at h
  ·cases h
  ·exact ⟨‹_›,h⟩
 refine ⟨hl,hsh,fun b hb=>by simp only [shpOf,hin b hb];rfl,⟨fun b b' g h1 h2=>hH.inj b b' g (hnm b g h1).2 (hnm b' g h2).2,fun b g h=>?_,hH.stlt,fun b hb c hc=>?_,fun b hb=>?_⟩⟩
 ·obtain ⟨q1,q2,q3⟩:=hH.lt b g (hnm b g h).2
  exact ⟨by rw [hl];exact q1,q2,q3⟩
 ·rw [hl] at hb ⊢
  by_cases h:b∈ns
  ·have:=hin b h
   rw [List.getElem?_eq_getElem (by rw [hl];exact hb)] at this
   simp only [Option.some.injEq] at this
   rw [this] at hc;simp [Blk.nms] at hc
  ·have e:=hout b h
   rw [List.getElem?_eq_getElem (by rw [hl];exact hb),List.getElem?_eq_getElem (by rw [kb1];exact hb)] at e
   simp only [Option.some.injEq] at e
   rw [e] at hc
   exact hH.nms b hb c ((kb3 b (by rw [kb1];exact hb) hb).1 c hc).2
 ·rw [hl] at hb
  by_cases h:b∈ns
  ·have:=hin b h
   rw [List.getElem?_eq_getElem (by rw [hl];exact hb)] at this
   simp only [Option.some.injEq] at this
   rw [this];trivial
  ·have e:=hout b h
   rw [List.getElem?_eq_getElem (by rw [hl];exact hb),List.getElem?_eq_getElem (by rw [kb1];exact hb)] at e
   simp only [Option.some.injEq] at e
   rw [e]
   obtain ⟨q1,q2⟩:=kb3 b (by rw [kb1];exact hb) hb
   exact (q2 b (hH.blk b hb)).mono M (M.nm b h) (fun _ _=>rfl) (fun c hc=>(q1 c hc).1)
theorem alloc_old {ob:Obj} {g:Nat} (h:g<w.heap.size):(w.alloc ob).heap[g]? = w.heap[g]?:=by
 show (w.heap.push ob)[g]? = w.heap[g]?
 rw [Array.getElem?_push]
 rw [if_neg (by omega)]
theorem rangeArgs_inv {v:PV} {V:Value} {sh:Nat→Option Shp} {f:Nat} {first caps:List PV} (h:rangeArgs v=some (f,first,caps)) (hv:VP Γ sh w v V):∃ A B,V = .func (.func f) A B∧CR Γ sh w first A∧CR Γ sh w caps B∧∀ c∈nmsL (first++caps),c∈v.nms:=by
 have hs:∀ (l:List SV),nmsL (l.map PV.s)=[]:=fun l=>by
  rw [List.eq_nil_iff_forall_not_mem]
  intro c hc
  obtain ⟨j,hj,hc⟩:=mem_nmsL.1 hc
  simp [PV.nms] at hc
 unfold rangeArgs at h
 split at h
 ·simp only [Option.some.injEq,Prod.mk.injEq] at h
  obtain ⟨rfl,rfl,rfl⟩:=h
  obtain ⟨A,B,rfl,hA,hB⟩:=hv.inv_fn'
  exact ⟨A,B,rfl,hA,hB,fun c hc=>by rw [nmsL_append,hs,hs] at hc;simp at hc⟩
 ·simp only [Option.some.injEq,Prod.mk.injEq] at h
  obtain ⟨rfl,rfl,rfl⟩:=h
  obtain ⟨A,B,rfl,hA,hB⟩:=hv.inv_fnr'
  exact ⟨A,B,rfl,hA,hB,fun c hc=>by rw [nmsL_append] at hc;simpa [PV.nms] using hc⟩
 ·cases h
theorem VP.ndead {sh:Nat→Option Shp} {v:PV} {V:Value} (h:VP Γ sh w v V):∀ c∈v.nms,sh c≠some .dead:=by
 induction h with
 | s v V h=>intro c hc;simp [PV.nms] at hc
 | nsl=>intro c hc;simp [PV.nms] at hc
 | flv b e sz h=>intro c hc;simp [PV.nms] at hc;subst hc;rw [h];simp
 | fl b g v e sz n cap h hv hg hcap hm hs=>intro c hc;simp [PV.nms] at hc;subst hc;rw [h];simp
 | vwv b e sz i h=>intro c hc;simp [PV.nms] at hc;subst hc;rw [h];simp
 | vw b i n g a cap v e sz m h hv hg ha hi hcap hm=>intro c hc;simp [PV.nms] at hc;subst hc;rw [h];simp
 | ptrA b i off g v e sz n h hg=>intro c hc;simp [PV.nms] at hc;subst hc;rw [h];simp
 | ptrB b off g h hg=>intro c hc;simp [PV.nms] at hc;subst hc;rw [h];simp
 | fnr g x y A B As Bs hf hA hB ha hb hx hy ihx ihy=>
  intro c hc
  simp only [PV.nms,List.mem_append] at hc
  rcases hc with hc | hc
  ·obtain ⟨j,hj,hc⟩:=mem_nmsL.1 hc;exact ihx j hj c hc
  ·obtain ⟨j,hj,hc⟩:=mem_nmsL.1 hc;exact ihy j hj c hc
 | it b g h hg=>intro c hc;simp [PV.nms] at hc;subst hc;rw [h];simp
 | yd=>intro c hc;simp [PV.nms] at hc
 | agg l A As hA ha hl ih=>intro c hc;simp only [PV.nms] at hc;obtain ⟨j,hj,hc⟩:=mem_nmsL.1 hc;exact ih j hj c hc
 | tup l A As hA ha hl ih=>intro c hc;simp only [PV.nms] at hc;obtain ⟨j,hj,hc⟩:=mem_nmsL.1 hc;exact ih j hj c hc
 | bad V=>intro c hc;simp [PV.nms] at hc
theorem BR.ndead {sh:Nat→Option Shp} {b:Nat} {x:Blk} (h:BR Γ sh w b x):∀ c∈x.nms,sh c≠some .dead:=by
 cases x with
 | box cells=>
  intro c hc
  simp only [Blk.nms] at hc
  obtain ⟨j,hj,hc⟩:=mem_nmsL.1 hc
  obtain ⟨g,cur,e,h1,h2,h3,h4⟩:=h
  obtain ⟨V,_,e2⟩:=h4 j hj
  exact e2.ndead c hc
 | arr v e sz els=>intro c hc;simp [Blk.nms] at hc
 | iter s p=>intro c hc;simp [Blk.nms] at hc
 | dead=>intro c hc;simp [Blk.nms] at hc
theorem bareB_nms (x:Blk):(bareB x).nms=[]:=by
 cases x with
 | box cells=>
  simp only [bareB,Blk.nms]
  rw [List.eq_nil_iff_forall_not_mem]
  intro c hc
  obtain ⟨j,hj,hc⟩:=mem_nmsL.1 hc
  simp [PV.nms] at hc
 | _=>rfl
theorem bareB_shp (x:Blk):(bareB x).shp=x.shp:=by cases x<;>rfl
theorem bareB_BR {sh sh':Nat→Option Shp} {b b':Nat} {x:Blk} (h:BR Γ sh w b x) (hnm:Γ'.nm b' = Γ.nm b) (hst:∀ g,Γ.St g→w'.heap[g]? = w.heap[g]?) (hsub:∀ g,Γ.St g→Γ'.St g) (hheap:∀ g,Γ.nm b=some g→w'.heap[g]? = w.heap[g]?):BR Γ' sh' w' b' (bareB x):=by
 cases x with
 | arr v e sz els=>
  rcases h with h | ⟨hn,g,cur,h1,h2,h3,h4,h5⟩
  ·exact .inl h
  ·refine .inr ⟨hn,g,cur,by rw [hnm];exact h1,by rw [hheap g h1];exact h2,h3,h4,fun i h j h'=>?_⟩
   obtain ⟨V,e1,e2⟩:=h5 i h j h'
   exact ⟨V,e1,e2.mono hst hsub⟩
 | box cells=>
  obtain ⟨g,cur,e,h1,h2,h3,h4⟩:=h
  refine ⟨g,cur,e,by rw [hnm];exact h1,by rw [hheap g h1];exact h2,by simpa using h3,fun j h=>?_⟩
  obtain ⟨V,e1,_⟩:=h4 j (by simpa using h)
  exact ⟨V,e1,by rw [List.getElem_map];exact .bad V⟩
 | iter s p=>
  obtain ⟨g,s',h1,h2,h3⟩:=h
  exact ⟨g,s',by rw [hnm];exact h1,by rw [hheap g h1];exact h2,h3⟩
 | dead=>trivial
theorem rangeK2_wp {n n0:Nat} {g:Operand} {ps:Array Tmp} {as body:Code} {k:Out→St σ→Option R} {Q:Exit→Act→World→Prop} {cl2:CallT} {f:Nat} {first caps:List PV} {ns:List Nat} (A:Ask C I cl yh yv) (hC2:CalleeOK C cl2) (hyv:Γ.yv=yv) (has:WP C I cl yh yv as) (hbd:WP C I cl yh yv body)
  (hra:rangeArgs (opnd C st.sl g)=some (f,first,caps)) (hnd:ns.Nodup) (hsub:∀ c∈nmsL (first++caps),c∈ns) (hlt:∀ b∈ns,b<st.hp.length)
  (h:rangeK2 C cl2 f first caps ns st (fun sl0=>roundY ps sl0 (fun st k=>evCode C cl yh as st k) (fun st k=>evCode C cl yh body st k)) k=some r) (S:SI C I Γ Φ st a.tmps w) (hM:Mk n0 Γ Φ w a.defers) (hP:Post C I n0 Γ Φ st.hp w k r Q) :
  (Code.rangeFunc g ps as body).wpIn (wideAt none) n C.P Q a w:=by
 have hv:=(S.opnd g).1
 have hvn:=(S.opnd g).2
 obtain ⟨FA,FB,hFV,hcA,hcB,hnf⟩:=rangeArgs_inv hra hv
 unfold rangeK2 at h
 split at h
 case isFalse=>cases h
 rename_i hcond
 simp only [Bool.and_eq_true,List.all_eq_true] at hcond
 obtain ⟨⟨⟨hcl,hyf⟩,hyb⟩,hent⟩:=hcond
 split at h
 case h_2=>cases h
 rename_i ret Hc H1 pend s' hcall
 refine wpIn_rangeFunc (fun fn _=>?_)
 obtain ⟨W1,hW1⟩:∃ W1,(w.alloc (.deferred (some []))).alloc (.loop (recL fn a.tmps ps as body w.heap.size .ready none))=W1:=⟨_,rfl⟩
 have hsz1:W1.heap.size=w.heap.size+2:=by rw [←hW1];simp
 have hold:∀ g,g<w.heap.size→W1.heap[g]? = w.heap[g]?:=fun g hg=>by
  rw [←hW1,alloc_old (by simp;omega),alloc_old hg]
 have hlr:W1.heap[w.heap.size+1]? = some (.loop (recL fn a.tmps ps as body w.heap.size .ready none)):=by
  rw [←hW1];have:=World.alloc_heap_new (w.alloc (.deferred (some []))) (.loop (recL fn a.tmps ps as body w.heap.size .ready none));rwa [World.size_alloc] at this
 have hdr:W1.heap[w.heap.size]? = some (.deferred (some [])):=by
  rw [←hW1,alloc_old (by simp)];exact World.alloc_heap_new w _
 have ho:W1.os=w.os∧W1.tape=w.tape∧W1.output=w.output:=by rw [←hW1];exact ⟨rfl,rfl,rfl⟩
 obtain ⟨S1,hs1⟩:=S.wide A.hI (St':=Γ.St) hold (by omega) (fun _ h=>h) (fun _ h=>.inl h) (fun g hg=>by have:=S.hr.stlt g hg;omega) ho.1 ho.2.1 ho.2.2
 have S1:SI C I Γ Φ st a.tmps W1:=S1
 have hf0:=A.hI.foot _ _ _ _ S.inv
 have offN:∀ {g},w.heap.size≤g→g<W1.heap.size→Off Γ Φ W1 g:=fun {g} h1 h2=>⟨h2,fun q=>by have:=S.hr.stlt g q;omega,fun b q=>by have:=(S.hr.lt b g q).2.1;omega,fun q=>by have:=(hf0 g q).1;omega⟩
 have olW:Off Γ Φ W1 (w.heap.size+1):=offN (by omega) (by omega)
 have odW:Off Γ Φ W1 w.heap.size:=offN (by omega) (by omega)
 obtain ⟨dl,dsh,dsd,dHR⟩:=dead_HR S1.hr hnd hlt
 have hkL:=killAll_spec (Γ:=Γ) (sh:=shpOf st.hp) (w:=W1) (ns++loose C st.hp 0) st.sl
 have hideM:=hide_Mono (Γ:=Γ) (H:=st.hp) (H':=deadAll ns st.hp) (w:=W1) dsh
 have hslN:∀ c∈nmsL (killAll (ns++loose C st.hp 0) st.sl),c∉ns∧c<st.hp.length∧fixB C (st.hp.getD c .dead)=true:=fun c hc=>by
  obtain ⟨q1,q2⟩:=hkL.2.1 c hc
  have q3:=S.sr.nms c q2
  simp only [List.mem_append,not_or] at q1
  refine ⟨q1.1,q3,?_⟩
  have e:st.hp.getD c .dead=st.hp[c]:=by rw [List.getD_eq_getElem?_getD,List.getElem?_eq_getElem q3];rfl
  rw [e]
  rcases loose_spec (C:=C) st.hp 0 c q3 with q | q
  ·rw [Nat.zero_add] at q;exact absurd q q1.2
  ·exact q
 have hSR0:SR (Γ.hide ns) (deadAll ns st.hp) W1 (killAll (ns++loose C st.hp 0) st.sl) a.tmps:=by
  have h0:SR Γ st.hp W1 (killAll (ns++loose C st.hp 0) st.sl) a.tmps:=⟨by rw [hkL.1];exact S1.sr.size,fun c hc=>(hslN c hc).2.1,fun i hi=>by
   have hi':i<st.sl.length:=by rw [←hkL.1];exact hi
   obtain ⟨V,e1,e2⟩:=S1.sr.slot i hi'
   exact ⟨V,e1,hkL.2.2 i hi hi' V e2⟩⟩
  exact h0.mono hideM (fun c hc=>⟨(hslN c hc).1,by rw [dl];exact (hslN c hc).2.1⟩)
 have hideN:∀ {b g},(Γ.hide ns).nm b=some g→b∉ns∧Γ.nm b=some g:=fun {b g} h=>by
  simp only [Ctx.hide] at h
  split at h
  ·cases h
  ·exact ⟨‹_›,h⟩
 have SS:SI C I (Γ.hide ns) Φ { sl:=killAll (ns++loose C st.hp 0) st.sl,hp:=deadAll ns st.hp,s:=st.s } a.tmps W1:=⟨dHR,hSR0,S1.g,S1.inv,fun b g hb=>S1.dis b g (hideN hb).2⟩
 have hfix:∀ c∈nmsL (killAll (ns++loose C st.hp 0) st.sl),c<(deadAll ns st.hp).length∧fixS C (shpOf (deadAll ns st.hp) c):=fun c hc=>by
  obtain ⟨q1,q2,q3⟩:=hslN c hc
  exact ⟨by rw [dl];exact q2,by rw [dsh c q1];exact (fixB_iff q2).1 q3⟩
 have offH:∀ {g},Off Γ Φ W1 g→Off (Γ.hide ns) Φ W1 g:=fun {g} h=>⟨h.1,h.2.1,fun b q=>h.2.2.1 b (hideN q).2,h.2.2.2⟩
 let Φc:Nat→Prop:=fun g=>Φ g∨(∃ b,(Γ.hide ns).nm b=some g)∨g=w.heap.size+1∨g=w.heap.size
 have RI0:RI C I (Γ.hide ns) (deadAll ns st.hp) W1 Φ (killAll (ns++loose C st.hp 0) st.sl) a.tmps (w.heap.size+1) w.heap.size (recL fn a.tmps ps as body w.heap.size) (deadAll ns st.hp,none,st.s) Γ.St Φc W1:=by
  refine ⟨Γ.hide ns,Φ,SS,Stp.pg (Stp.refl dHR),fun _ h=>h,fun _=>Iff.rfl,fun g hg=>?_,offH olW,offH odW,hlr,hdr⟩
  rcases hg with q | ⟨b,q⟩ | rfl | rfl
  ·have:=A.hI.foot _ _ _ _ S1.inv g q;exact this
  ·have:=dHR.lt b g q;exact ⟨this.2.1,this.2.2⟩
  ·exact ⟨olW.1,olW.2.1⟩
  ·exact ⟨odW.1,odW.2.1⟩
 have hHc:=lent_HR S1.hr hnd hlt hcl
 have hci:=fun b (h:b∈ns)=>idxIn_spec h
 have hlH:(lentH st.hp ns).length=ns.length:=by simp [lentH]
 let y:Value:=.func (.yield (w.heap.size+1)) #[] #[]
 have hy1:y.oneCell'=true:=rfl
 have hHc':HR ((Γ.lent ns).reyv y hy1) (lentH st.hp ns) W1:=hHc.reyv (fun b hb=>by
  have hb':b<ns.length:=by rw [←hlH];exact hb
  simp only [lentH,List.getElem_map,Blk.yf_rn]
  exact hyb _ (List.getElem_mem hb'))
 have rnCR:∀ {l:List PV} {V:Array Value},CR Γ (shpOf st.hp) w l V→yfL l=true→(∀ c∈nmsL l,c∈ns)→CR ((Γ.lent ns).reyv y hy1) (shpOf (lentH st.hp ns)) W1 (rnL (idxIn ns) l) V:=fun {l V} hc hy hn=>by
  have hc1:CR Γ (shpOf st.hp) W1 l V:=hc.mono (Γ':=Γ) (H':=st.hp) (wide_Mono S.hr hold (fun _ h=>h)) (fun _ _=>trivial)
  rw [rnL_eq]
  refine ⟨by rw [List.length_map];exact hc1.1,fun j hj=>?_⟩
  have hj':j<l.length:=by simpa using hj
  obtain ⟨U,e,q⟩:=hc1.2 j hj'
  refine ⟨U,e,?_⟩
  rw [List.getElem_map]
  refine VP.reyv (VP.rn (Γ:=Γ) (Γ':=Γ.lent ns) rfl q (.inr fun _ h=>h) (fun c hc=>?_)) (by rw [PV.yf_rn];exact yfL_mem hy _ (List.getElem_mem hj'))
  have hcn:=hn c (mem_nmsL.2 ⟨j,hj',hc⟩)
  obtain ⟨q1,q2⟩:=hci c hcn
  exact ⟨lent_nm hcn,by rw [lent_shp hlt q1,q2]⟩
 have yfA:∀ (x z:List PV),yfL (x++z)=(yfL x&&yfL z):=fun x z=>by
  induction x with
  | nil=>simp [yfL]
  | cons v x ih=>simp [yfL,ih,Bool.and_assoc]
 rw [yfA,Bool.and_eq_true] at hyf
 have hargs:CR ((Γ.lent ns).reyv y hy1) (shpOf (lentH st.hp ns)) W1 (rnL (idxIn ns) first++.yd::rnL (idxIn ns) caps) (FA++#[y]++FB):=by
  have h1:=rnCR hcA hyf.1 (fun c hc=>hsub c (by rw [nmsL_append];simp [hc]))
  have h2:=rnCR hcB hyf.2 (fun c hc=>hsub c (by rw [nmsL_append];simp [hc]))
  have h3:CR ((Γ.lent ns).reyv y hy1) (shpOf (lentH st.hp ns)) W1 [.yd] #[y]:=CR.one .yd
  have:=(h1.append h3).append h2
  simpa using this
 have hargn:∀ c∈nmsL (rnL (idxIn ns) first++.yd::rnL (idxIn ns) caps),c<(lentH st.hp ns).length:=fun c hc=>by
  have:c∈(nmsL (first++caps)).map (idxIn ns):=by
   rw [nmsL_append] at hc
   simp only [nmsL,PV.nms,List.nil_append,nmsL_rn,List.mem_append] at hc
   rw [nmsL_append,List.map_append,List.mem_append]
   exact hc
  obtain ⟨d,hd,rfl⟩:=List.mem_map.1 this
  rw [hlH]
  exact (hci d (hsub d hd)).1
 have lentN:∀ {i g},(Γ.lent ns).nm i=some g→∃ hi:i<ns.length,Γ.nm ns[i]=some g:=fun {i g} h=>by
  simp only [Ctx.lent] at h
  cases hi:ns[i]? with
  | none=>rw [hi] at h;simp at h
  | some b=>
   obtain ⟨h1,h2⟩:=List.getElem?_eq_some_iff.1 hi
   rw [hi] at h
   exact ⟨h1,by rw [h2];exact h⟩
 have hcall':=hC2 _ _ _ y (RI_HI A.hI) (RI_Yd (fn:=fn) (ps:=ps) (as:=as) (body:=body) (l:=w.heap.size+1) (D:=w.heap.size) (tmps:=a.tmps) (w0:=W1) (Φ0:=Φ) (Γ0:=Γ.hide ns) A.hI hyv has hbd hfix) f _ _ _ ret Hc _ hcall ((Γ.lent ns).reyv y hy1) Φc W1 (FA++#[y]++FB) rfl hHc' S1.g RI0 (fun i g hi=>by
  obtain ⟨hi1,hi2⟩:=lentN hi
  rintro (q | ⟨b,q⟩ | rfl | rfl)
  ·exact S1.dis _ g hi2 q
  ·obtain ⟨q1,q2⟩:=hideN q
   have:=S1.hr.inj _ _ g hi2 q2
   exact q1 (this ▸ List.getElem_mem hi1)
  ·exact olW.2.2.1 _ hi2
  ·exact odW.2.2.1 _ hi2) hargs hargn
 have hcalls:=uponIn_calls (ro:=none) (n:=n) (callFunc_enterB hent) hcall'
 refine ⟨w.heap.size+1,[mkD w.heap.size],W1,{ target:=.fn (.func f) FB,args:=FA++#[y] },W1,f,FA++#[y]++FB,W1,?_,?_,fun _ _=>trivial,?_,fun h=>by simp [wideAt,Fence.wide] at h,hcalls.mono ?_⟩
 ·rw [←hW1];exact run_enterLoop_outer _ _ _ _ _
 ·simp [resolve,hFV,Deferred.ofValue]
  rfl
 ·show (callFunc f (FA++#[y]++FB)).run C.P W1=_
  exact callFunc_enterB hent
 rintro e W2 ⟨V,rfl,Γ1,Φ1,hs,hH1,hvv,hvn1,⟨Γb,Φb,r1⟩,hd1⟩
 have hlr2:=r1.hl
 have hend:=run_endLoop (P:=C.P) hlr2 (by cases pend<;>simp [recL,stOf])
 obtain ⟨w4,hw4⟩:∃ w4,W2.putObj (w.heap.size+1) (.loop { recL fn a.tmps ps as body w.heap.size (stOf pend) (pend.map jmp) with state:=.exhausted })=w4:=⟨_,rfl⟩
 rw [hw4] at hend
 have O:OffW Γb Φb W2 w4:=by rw [←hw4];exact OffW.put r1.ol
 have hsz4:w4.heap.size=W2.heap.size:=by rw [←hw4];simp
 have h4:∀ g,g≠w.heap.size+1→w4.heap[g]? = W2.heap[g]?:=fun g hg=>by rw [←hw4];exact World.putObj_heap_other hg
 have inΦ:∀ {g},Φb g∨(∃ b,Γb.nm b=some g)∨g=w.heap.size+1∨g=w.heap.size→Φ1 g:=fun {g} h=>(r1.ph g).2 h
 have S5:=(r1.si.offW A.hI O).wideSt A.hI (St':=Γ1.St) r1.st (fun g hg hp=>(r1.ft g (inΦ (.inl hp))).2 hg) (fun b g hb hg=>(r1.ft g (inΦ (.inr (.inl ⟨b,hb⟩)))).2 hg) (fun g hg=>by rw [hsz4];exact hH1.stlt g hg)
 have hl1:st.hp.length≤H1.length:=by have:=r1.pg.len;rw [dl] at this;exact this
 have hH1c:ns.length≤Hc.length:=by have:=hs.len;rw [List.length_map] at this;exact this
 obtain ⟨sb1,sb2⟩:=setAll_spec ns (ns.map fun b=>cond (fixB C (st.hp.getD b .dead)) (bareB (Hc.getD (idxIn ns b) .dead)) .dead) H1 hnd (by simp) (fun b hb=>Nat.lt_of_lt_of_le (hlt b hb) hl1)
 generalize hH2:backB C ns st.hp Hc H1=H2 at h
 have hl2:H2.length=H1.length:=by rw [←hH2];exact sb1
 have gin:∀ b (hb:b∈ns),H2[b]? = some (cond (fixB C (st.hp.getD b .dead)) (bareB (Hc.getD (idxIn ns b) .dead)) .dead):=fun b hb=>by
  rw [←hH2]
  simp only [backB]
  rw [sb2,if_pos hb,List.getElem?_map]
  have e:ns.idxOf b=idxIn ns b:=rfl
  rw [e,List.getElem?_eq_getElem (hci b hb).1,(hci b hb).2]
  rfl
 have gout:∀ b,b∉ns→H2[b]? = H1[b]?:=fun b hb=>by
  rw [←hH2]
  simp only [backB]
  rw [sb2,if_neg hb]
 let Γf:Ctx:={ St:=Γ1.St,nm:=fun b=>if b∈ns then (if fixB C (st.hp.getD b .dead)=true then Γ1.nm (idxIn ns b) else none) else Γb.nm b,yv:=Γ.yv,yv1:=Γ.yv1 }
 have fin1:∀ {b},b∈ns→fixB C (st.hp.getD b .dead)=true→Γf.nm b = Γ1.nm (idxIn ns b):=fun {b} h1 h2=>by simp only [Γf];rw [if_pos h1,if_pos h2]
 have fin0:∀ {b},b∈ns→¬ fixB C (st.hp.getD b .dead)=true→Γf.nm b=none:=fun {b} h1 h2=>by simp only [Γf];rw [if_pos h1,if_neg h2]
 have fout:∀ {b},b∉ns→Γf.nm b = Γb.nm b:=fun {b} h1=>by simp only [Γf];rw [if_neg h1]
 have fcase:∀ {b g},Γf.nm b=some g→(b∈ns∧Γ1.nm (idxIn ns b)=some g)∨(b∉ns∧Γb.nm b=some g):=fun {b g} h=>by
  by_cases hb:b∈ns
  ·by_cases hf:fixB C (st.hp.getD b .dead)=true
   ·rw [fin1 hb hf] at h;exact .inl ⟨hb,h⟩
   ·rw [fin0 hb hf] at h;cases h
  ·rw [fout hb] at h;exact .inr ⟨hb,h⟩
 have hshD:∀ c,c∈ns→shpOf H1 c=some .dead:=fun c hc=>by
  obtain ⟨_,k2,_⟩:=r1.pg.keep c (by rw [dl];exact hlt c hc) (by rw [dsd c hc];trivial)
  rw [k2];exact dsd c hc
 have hsh2:∀ b,b∉ns→shpOf H2 b=shpOf H1 b:=fun b hb=>by simp only [shpOf,gout b hb]
 have Mf:Mono { Γb with St:=Γ1.St } (shpOf H1) w4 Γf (shpOf H2) w4 (·∉ns):=⟨fun _ _=>rfl,fun _ h=>h,fun b hb=>fout hb,hsh2,fun _ _ _ _=>rfl,(r1.pg.yv:Γb.yv = Γ.yv).symm⟩
 have hHf:HR Γf H2 w4:=by
  refine ⟨fun b b' g h1 h2=>?_,fun b g hb=>?_,fun g hg=>by rw [hsz4];exact hH1.stlt g hg,fun b hb c hc=>?_,fun b hb=>?_⟩
  ·rcases fcase h1 with ⟨p1,q1⟩ | ⟨p1,q1⟩<;>rcases fcase h2 with ⟨p2,q2⟩ | ⟨p2,q2⟩
   ·have:=hH1.inj _ _ g q1 q2
    have e1:=(hci b p1).2
    have e2:=(hci b' p2).2
    rw [←e1,←e2]
    simp only [this]
   ·exact absurd (inΦ (.inr (.inl ⟨b',q2⟩))) (hd1 _ g q1)
   ·exact absurd (inΦ (.inr (.inl ⟨b,q1⟩))) (hd1 _ g q2)
   ·exact r1.si.hr.inj b b' g q1 q2
  ·rcases fcase hb with ⟨p1,q1⟩ | ⟨p1,q1⟩
   ·have:=hH1.lt _ g q1
    exact ⟨by rw [hl2];exact Nat.lt_of_lt_of_le (hlt b p1) hl1,by rw [hsz4];exact this.2.1,this.2.2⟩
   ·have:=S5.hr.lt b g q1
    exact ⟨by rw [hl2];exact this.1,this.2⟩
  ·by_cases hbn:b∈ns
   ·have e:=gin b hbn
    rw [List.getElem?_eq_getElem hb] at e
    simp only [Option.some.injEq] at e
    rw [e] at hc
    cases hf:fixB C (st.hp.getD b .dead) with
    | true=>rw [hf,cond_true,bareB_nms] at hc;simp at hc
    | false=>rw [hf] at hc;simp [Blk.nms] at hc
   ·have e:=gout b hbn
    have hb1:b<H1.length:=by rw [←hl2];exact hb
    rw [List.getElem?_eq_getElem hb,List.getElem?_eq_getElem hb1] at e
    simp only [Option.some.injEq] at e
    rw [e] at hc
    rw [hl2]
    exact S5.hr.nms b hb1 c hc
  ·by_cases hbn:b∈ns
   ·have e:=gin b hbn
    rw [List.getElem?_eq_getElem hb] at e
    simp only [Option.some.injEq] at e
    rw [e]
    cases hf:fixB C (st.hp.getD b .dead) with
    | true=>
     rw [cond_true]
     have hi:idxIn ns b<Hc.length:=Nat.lt_of_lt_of_le (hci b hbn).1 hH1c
     rw [getD_lt hi]
     refine bareB_BR (hH1.blk _ hi) (fin1 hbn hf) (fun g hg=>h4 g ?_) (fun _ h=>h) (fun g hg=>h4 g ?_)
     ·rintro rfl;exact (r1.ft _ (inΦ (.inr (.inr (.inl rfl))))).2 hg
     ·rintro rfl;exact hd1 _ _ hg (inΦ (.inr (.inr (.inl rfl))))
    | false=>trivial
   ·have e:=gout b hbn
    have hb1:b<H1.length:=by rw [←hl2];exact hb
    rw [List.getElem?_eq_getElem hb,List.getElem?_eq_getElem hb1] at e
    simp only [Option.some.injEq] at e
    rw [e]
    have hB:=S5.hr.blk b hb1
    exact hB.mono Mf (fout hbn) (fun _ _=>rfl) (fun c hc hcn=>hB.ndead c hc (hshD c hcn))
 have hSRf:SR Γf H2 w4 (killAll (ns++loose C st.hp 0) st.sl) a.tmps:=S5.sr.mono Mf (fun c hc=>⟨(hslN c hc).1,by rw [hl2];exact Nat.lt_of_lt_of_le (hslN c hc).2.1 hl1⟩)
 have SF:SI C I Γf Φb { sl:=killAll (ns++loose C st.hp 0) st.sl,hp:=H2,s:=s' } a.tmps w4:=⟨hHf,hSRf,S5.g,S5.inv,fun b g hb=>by
  rcases fcase hb with ⟨_,q1⟩ | ⟨_,q1⟩
  ·exact fun q=>hd1 _ g q1 (inΦ (.inl q))
  ·exact S5.dis b g q1⟩
 have hsz2:=hs.size
 have STF:Stp C Γ st.hp w Φ Γf H2 w4 Φb:=by
  refine ⟨O.os.trans (hs.os.trans ho.1),O.tape.trans (hs.tape.trans ho.2.1),O.output.trans (hs.output.trans ho.2.2),by omega,fun g hg=>hs.sub g hg,fun g hg=>?_,fun b g hb=>?_,fun g hg=>?_,fun g hg hn hp=>?_,rfl,by rw [hl2];exact hl1,fun b hb hf=>?_⟩
  ·rcases hs.stnew g hg with q | q
   ·exact .inl q
   ·exact .inr (by omega)
  ·rcases fcase hb with ⟨p1,q1⟩ | ⟨p1,q1⟩
   ·rcases hs.own _ g q1 with ⟨_,q⟩ | q
    ·obtain ⟨i1,i2⟩:=lentN q
     rw [(hci b p1).2] at i2
     exact .inl ⟨hlt b p1,i2⟩
    ·exact .inr (by omega)
   ·rcases r1.pg.own b g q1 with ⟨q,q'⟩ | q
    ·exact .inl ⟨by rw [←dl];exact q,(hideN q').2⟩
    ·exact .inr (by omega)
  ·rcases r1.pg.foot g hg with q | q
   ·exact .inl q
   ·exact .inr (by omega)
  ·have np:¬ Φc g:=by
    rintro (q | ⟨b,q⟩ | q | q)
    ·exact hp q
    ·exact hn b (hideN q).2
    ·omega
    ·omega
   rw [h4 g (by omega),hs.frame g (by omega) (fun b q=>by obtain ⟨_,i2⟩:=lentN q;exact hn _ i2) np,hold g hg]
  ·by_cases hbn:b∈ns
   ·have hfb:=(fixB_iff (C:=C) (H:=st.hp) hb).2 hf
    obtain ⟨q1,q2⟩:=hci b hbn
    have hi:idxIn ns b<(lentH st.hp ns).length:=by rw [hlH];exact q1
    have hsl:shpOf (lentH st.hp ns) (idxIn ns b)=shpOf st.hp b:=by rw [lent_shp hlt q1,q2]
    obtain ⟨k1,k2,k3⟩:=hs.keep _ hi (by show fixS C (shpOf (lentH st.hp ns) _);rw [hsl];exact hf)
    have k2:shpOf Hc (idxIn ns b)=shpOf (lentH st.hp ns) (idxIn ns b):=k2
    have hnmb:((Γ.lent ns).reyv y hy1).nm (idxIn ns b) = Γ.nm b:=lent_nm hbn
    refine ⟨(fin1 hbn hfb).trans (k1.trans hnmb),?_,fun g hg=>?_⟩
    ·have hi':idxIn ns b<Hc.length:=Nat.lt_of_lt_of_le q1 hH1c
     simp only [shpOf,gin b hbn,hfb,cond_true,Option.map_some,bareB_shp,getD_lt hi']
     show some (Hc[idxIn ns b]).shp=shpOf st.hp b
     rw [←hsl,←k2]
     simp only [shpOf,List.getElem?_eq_getElem hi',Option.map_some]
    ·have e1:=k3 g (hnmb.trans hg)
     have hgl:=S.hr.lt b g hg
     rw [shape_of_heap (h4 g (by omega)),e1,shape_of_heap (hold g hgl.2.1)]
   ·obtain ⟨k1,k2,k3⟩:=r1.pg.keep b (by rw [dl];exact hb) (by rw [dsh b hbn];exact hf)
    have hh:(Γ.hide ns).nm b = Γ.nm b:=by simp only [Ctx.hide];rw [if_neg hbn]
    refine ⟨(fout hbn).trans (k1.trans hh),by rw [hsh2 b hbn,k2,dsh b hbn],fun g hg=>?_⟩
    have hgl:=S.hr.lt b g hg
    rw [shape_of_heap (h4 g (by omega)),k3 g (hh.trans hg),shape_of_heap (hold g hgl.2.1)]
 have hMf:Mk n0 Γf Φb w4 (mkD w.heap.size::a.defers):=by
  obtain ⟨m0,Ds,m1,m2,m3⟩:=hM
  refine ⟨by omega,w.heap.size::Ds,by rw [m1];rfl,List.nodup_cons.2 ⟨fun hmem=>?_,m2⟩,fun D hD=>?_⟩
  ·have:=(m3 _ hmem).2.1.1;omega
  ·rcases List.mem_cons.1 hD with rfl | hD
   ·refine ⟨m0,⟨by omega,(r1.ft _ (inΦ (.inr (.inr (.inr rfl))))).2,fun b q=>?_,r1.od.2.2.2⟩,by rw [h4 _ (by omega)];exact r1.hd⟩
    rcases fcase q with ⟨_,q1⟩ | ⟨_,q1⟩
    ·exact hd1 _ _ q1 (inΦ (.inr (.inr (.inr rfl))))
    ·exact r1.od.2.2.1 b q1
   ·obtain ⟨k1,k2,k3⟩:=m3 D hD
    obtain ⟨q1,q2⟩:=k2.step STF
    exact ⟨k1,q1,q2.trans k3⟩
 have fin:=hP (pend.getD .normal) { sl:=killAll (ns++loose C st.hp 0) st.sl,hp:=H2,s:=s' } { a with defers:=mkD w.heap.size::a.defers } w4 Γf Φb h STF SF hMf
 refine ⟨pend.map jmp,w4,hend,?_⟩
 cases pend with
 | none=>exact fin
 | some o=>
  cases o with
  | normal=>exact wpIn_skip fin
  | exit id=>exact wpIn_exit fin
  | ret=>exact wpIn_ret fin
theorem roundsK_run {ps:Array Tmp} {sl0:List PV} {as body:Code}:∀ (L:List (List PV)) (H:List Blk) (s:σ) {k:Option Out→List Blk→σ→Option R},roundsK ps sl0 (fun st k=>evCode C cl yh as st k) (fun st k=>evCode C cl yh body st k) L H s k=some r→
  ∃ H' pend s',seqRun (roundY ps sl0 (fun st k=>evCode C cl yh as st k) (fun st k=>evCode C cl yh body st k)) L (H,none,s)=some (H',pend,s')∧k pend H' s'=some r
 | [],H,s,k,h=>⟨H,none,s,rfl,h⟩
 | x::xs,H,s,k,h=>by
  simp only [roundsK] at h
  split at h
  case isFalse=>cases h
  rename_i hx
  obtain ⟨o,st1,e1,h1⟩:=evCode_out h
  cases o with
  | exit id=>cases h1
  | ret=>cases h1
  | normal=>
  obtain ⟨o2,st2,e2,h2⟩:=evCode_out h1
  have hr:roundY ps sl0 (fun st k=>evCode C cl yh as st k) (fun st k=>evCode C cl yh body st k) x (H,none,s)=some ((pendOf o2).isNone,((trunc H.length st2).hp,pendOf o2,st2.s)):=by
   simp only [roundY]
   rw [if_pos hx,evCode_in e1]
   dsimp only
   rw [evCode_in e2]
  cases o2 with
  | normal=>
   obtain ⟨H',pend,s',h3,h4⟩:=roundsK_run xs _ _ h2
   refine ⟨H',pend,s',?_,h4⟩
   simp only [seqRun,hr]
   exact h3
  | exit id=>exact ⟨_,_,_,by simp only [seqRun,hr];rfl,h2⟩
  | ret=>exact ⟨_,_,_,by simp only [seqRun,hr];rfl,h2⟩
theorem rangeK_wp {n n0:Nat} {g:Operand} {ps:Array Tmp} {as body:Code} {k:Out→St σ→Option R} {Q:Exit→Act→World→Prop} (A:Ask C I cl yh yv) (hyv:Γ.yv=yv) (has:WP C I cl yh yv as) (hbd:WP C I cl yh yv body)
  (h:rangeK C cl (opnd C st.sl g) st (fun sl0=>roundY ps sl0 (fun st k=>evCode C cl yh as st k) (fun st k=>evCode C cl yh body st k)) (fun sl0=>roundsK ps sl0 (fun st k=>evCode C cl yh as st k) (fun st k=>evCode C cl yh body st k)) k=some r) (S:SI C I Γ Φ st a.tmps w) (hM:Mk n0 Γ Φ w a.defers) (hP:Post C I n0 Γ Φ st.hp w k r Q) :
  (Code.rangeFunc g ps as body).wpIn (wideAt none) n C.P Q a w:=by
 have hvn:=(S.opnd g).2
 have hv:=(S.opnd g).1
 unfold rangeK at h
 split at h
 case h_2=>cases h
 rename_i f first caps hra
 obtain ⟨FA,FB,hFV,hcA,hcB,hnf⟩:=rangeArgs_inv hra hv
 have hnd:=reach_nodup st.hp (nmsL (first++caps))
 have hsub:=reach_sub st.hp (nmsL (first++caps))
 have hlt:∀ b∈reach st.hp (nmsL (first++caps)),b<st.hp.length:=reach_all st.hp (nmsL (first++caps)) (· < st.hp.length) (fun b hb c hc=>by
  have e:st.hp.getD b .dead=st.hp[b]:=by rw [List.getD_eq_getElem?_getD,List.getElem?_eq_getElem hb];rfl
  rw [e] at hc
  exact S.hr.nms b hb c hc) (fun c hc=>hvn c (hnf c hc))
 generalize reach st.hp (nmsL (first++caps))=ns at *
 split at h
 ·rename_i pf hS
  unfold rangeS at h
  split at h
  case isFalse=>cases h
  rename_i hcond
  rw [Bool.and_eq_true] at hcond
  split at h
  case h_2=>cases h
  rename_i cL L hL
  obtain ⟨rfl,h⟩:=need_some h
  obtain ⟨H',pend,s',h1,h2⟩:=roundsK_run L _ _ h
  refine rangeK2_wp A A.hX.s hyv has hbd hra hnd hsub hlt ?_ S hM hP
  unfold rangeK2
  rw [if_pos hcond.1]
  have hbx:(ns.map fun b=>(st.hp.getD b .dead).rn (idxIn ns)).all isBox=true:=by
   rw [List.all_map,List.all_eq_true]
   intro b hb
   have:=List.all_eq_true.1 hcond.2 b hb
   simp only [Function.comp]
   generalize st.hp.getD b .dead=x at this
   cases x<;>simp_all [isBox,Blk.rn]
  have e:clS C (List Blk × Option Out × σ) (roundY ps (killAll (ns++loose C st.hp 0) st.sl) (fun st k=>evCode C cl yh as st k) (fun st k=>evCode C cl yh body st k)) f (rnL (idxIn ns) first++PV.yd::rnL (idxIn ns) caps) (ns.map fun b=>(st.hp.getD b .dead).rn (idxIn ns)) (deadAll ns st.hp,none,st.s)=some (.tup [],(ns.map fun b=>(st.hp.getD b .dead).rn (idxIn ns)).map bareB,(H',pend,s')):=by
   simp only [clS,hS]
   rw [if_pos hbx,hL]
   simp only [h1]
  rw [e]
  exact h2
 ·exact rangeK2_wp A A.hC hyv has hbd hra hnd hsub hlt h S hM hP
end
end Go.Proofs.YtcfingekgbbclaaGreatDoor.E
namespace Go.Proofs.YtcfingekgbbclaaGreatDoor.E
open Go
set_option linter.unusedVariables false
section
variable {σ R : Type} {r : R} {C : Cfg} {I : σ → (Nat → Prop) → (Nat → Prop) → World → Prop} {Γ : Ctx} {Φ : Nat → Prop} {st : St σ} {a : Act} {w : World} {cl : CallT} {yh : Yh σ} {yv : Value} {o : Oper} {H : List Blk}
theorem evCode_wp (A:Ask C I cl yh yv) (hm:C.P.follows .mixedOrders=true):∀ (c:Code) {ro:Option Nat} {n n0:Nat} {rf:Bool} {R:Type} {r:R} {Γ:Ctx} {Φ:Nat→Prop} {st:St σ} {a:Act} {w:World} {k:Out→St σ→Option R} {Q:Exit→Act→World→Prop},
  (rf=true→ro=none)→codeOKr C rf c=true→Γ.yv=yv→evCode C cl yh c st k=some r→SI C I Γ Φ st a.tmps w→Mk n0 Γ Φ w a.defers→Post C I n0 Γ Φ st.hp w k r Q→c.wpIn (wideAt ro) n C.P Q a w:=by
 intro c
 induction c with
 | skip=>intro ro n n0 rf R r Γ Φ st a w k Q hrf hok hyv h S hM hP;exact wpIn_skip (hP .normal st a w Γ Φ h (Stp.refl S.hr) S hM)
 | label l=>intro ro n n0 rf R r Γ Φ st a w k Q hrf hok hyv h S hM hP;exact wpIn_label (hP .normal st a w Γ Φ h (Stp.refl S.hr) S hM)
 | region id ops d=>
  intro ro n n0 rf R r Γ Φ st a w k Q hrf hok hyv h S hM hP
  cases d with
  | false=>
   have h:opsK C cl yh ops ops.toList st (fun st'=>k .normal (forgetR (C.keepR id) st.hp.length st'))=some r:=by
    simp only [evCode,regK] at h
    split at h
    ·exact h
    ·cases h
   refine wpIn_region_list (opsK_wp A ops.toList hyv h S ?_)
   intro st' a' w' Γ' Φ' h1 h2 h3 h4
   obtain ⟨Γ2,S2,hs2⟩:=forgetR_sound A.hI h3 h2 (C.keepR id) (Nat.le_refl _)
   exact hP .normal _ a' w' Γ2 Φ' h1 hs2 S2 (by rw [h4];exact hM.step hs2)
  | true=>
   simp only [codeOKr,Bool.not_true,Bool.false_or] at hok
   refine regK_wp A hm hok hyv h S ?_
   intro st' a' w' Γ' Φ' h1 h2 h3 h4
   obtain ⟨Γ2,S2,hs2⟩:=forgetR_sound A.hI h3 h2 (C.keepR id) (Nat.le_refl _)
   exact hP .normal _ a' w' Γ2 Φ' h1 hs2 S2 (by rw [h4];exact hM.step hs2)
 | seq x y ihx ihy=>
  intro ro n n0 rf R r Γ Φ st a w k Q hrf hok hyv h S hM hP
  simp only [codeOKr,Bool.and_eq_true] at hok
  refine wpIn_seq (ihx hrf hok.1 hyv h S hM ?_)
  intro o st' a' w' Γ' Φ' h1 h2 h3 h4
  cases o with
  | normal=>exact ihy hrf hok.2 (h2.yv.trans hyv) h1 h3 h4 fun o2 st2 a2 w2 Γ2 Φ2 k1 k2 k3 k4=>hP o2 st2 a2 w2 Γ2 Φ2 k1 (h2.trans k2) k3 k4
  | exit id=>exact hP (.exit id) st' a' w' Γ' Φ' h1 h2 h3 h4
  | ret=>exact hP .ret st' a' w' Γ' Φ' h1 h2 h3 h4
 | cond c x y ihx ihy=>
  intro ro n n0 rf R r Γ Φ st a w k Q hrf hok hyv h S hM hP
  simp only [codeOKr,Bool.and_eq_true] at hok
  simp only [evCode] at h
  split at h
  ·rename_i t hc
   have hv:=(S.opnd c).1
   rw [hc] at hv
   have hb:=hv.inv_bool
   cases t with
   | true=>exact wpIn_cond hb (ihx hrf hok.1 hyv h S hM hP)
   | false=>exact wpIn_cond hb (ihy hrf hok.2 hyv h S hM hP)
  ·cases h
 | block id x ih=>
  intro ro n n0 rf R r Γ Φ st a w k Q hrf hok hyv h S hM hP
  refine wpIn_block (ih hrf hok hyv h S hM ?_)
  intro o st' a' w' Γ' Φ' h1 h2 h3 h4
  cases o with
  | normal=>exact hP .normal st' a' w' Γ' Φ' h1 h2 h3 h4
  | exit j=>
   simp only [Out.exit',Exit.inBlock]
   dsimp only at h1
   split at h1
   ·rename_i e;rw [if_pos e];exact hP .normal st' a' w' Γ' Φ' h1 h2 h3 h4
   ·rename_i e;rw [if_neg e];exact hP (.exit j) st' a' w' Γ' Φ' h1 h2 h3 h4
  | ret=>exact hP .ret st' a' w' Γ' Φ' h1 h2 h3 h4
 | loop x ih=>
  intro ro n n0 rf R r Γ Φ st a w k Q hrf hok hyv h S hM hP
  simp only [evCode] at h
  refine wpIn_loopN (fun m a' w'=>∃ st' Γ' Φ',loopK st.hp.length (C.keep (fstR x)) (fun st k=>evCode C cl yh x st k) m st' k=some r∧Stp C Γ st.hp w Φ Γ' st'.hp w' Φ'∧SI C I Γ' Φ' st' a'.tmps w'∧Mk n0 Γ' Φ' w' a'.defers) C.lf ⟨_,Γ,Φ,h,by rw [forget_hp];exact Stp.refl S.hr,forget_SI S _,hM⟩ ?_
  rintro m a1 w1 ⟨st1,Γ1,Φ1,h1,h2,h3,h4⟩
  cases m with
  | zero=>simp [loopK] at h1
  | succ m=>
   simp only [loopK] at h1
   refine ih hrf hok (h2.yv.trans hyv) h1 h3 h4 ?_
   intro o st' a' w' Γ' Φ' k1 k2 k3 k4
   cases o with
   | normal=>
    obtain ⟨Γ2,S2,hs2,hsub⟩:=trunc_sound A.hI k3 (h2.trans k2)
    have hMt:=Mk.sub k4 hsub
    exact ⟨m,Nat.lt_succ_self m,_,Γ2,Φ',k1,by rw [forget_hp];exact hs2,forget_SI S2 _,hMt⟩
   | exit j=>exact hP (.exit j) _ a' w' Γ' Φ' k1 (by rw [forget_hp];exact h2.trans k2) (forget_SI k3 _) k4
   | ret=>exact hP .ret _ a' w' Γ' Φ' k1 (by rw [forget_hp];exact h2.trans k2) (forget_SI k3 _) k4
 | exit id=>intro ro n n0 rf R r Γ Φ st a w k Q hrf hok hyv h S hM hP;exact wpIn_exit (hP (.exit id) _ a w Γ Φ h (by rw [forget_hp];exact Stp.refl S.hr) (forget_SI S _) hM)
 | ret=>intro ro n n0 rf R r Γ Φ st a w k Q hrf hok hyv h S hM hP;exact wpIn_ret (hP .ret _ a w Γ Φ h (by rw [forget_hp];exact Stp.refl S.hr) (forget_SI S _) hM)
 | scope x ih=>
  intro ro n n0 rf R r Γ Φ st a w k Q hrf hok hyv h S hM hP
  refine wpIn_scopeN (ih (Q:=fun e a w=>(∀ l,e≠.goto l)∧Q e a w) hrf hok hyv h S hM ?_)
  intro o st' a' w' Γ' Φ' h1 h2 h3 h4
  exact ⟨fun l=>by cases o<;>simp [Out.exit'],hP o st' a' w' Γ' Φ' h1 h2 h3 h4⟩
 | rangeFunc g ps x y ihx ihy=>
  intro ro n n0 rf R r Γ Φ st a w k Q hrf hok hyv h S hM hP
  simp only [codeOKr,Bool.and_eq_true] at hok
  obtain ⟨⟨rfl,hx⟩,hy⟩:=hok
  obtain rfl:=hrf rfl
  simp only [evCode] at h
  exact rangeK_wp A hyv (fun {R r ro n n0 Γ Φ st a w k Q} h1 h2 h3 h4 h5=>ihx (rf:=false) (fun h=>by cases h) hx h1 h2 h3 h4 h5) (fun {R r ro n n0 Γ Φ st a w k Q} h1 h2 h3 h4 h5=>ihy (rf:=false) (fun h=>by cases h) hy h1 h2 h3 h4 h5) h S hM hP
 | _=>intro ro n n0 rf R r Γ Φ st a w k Q hrf hok hyv h S hM hP;simp [evCode] at h
end
end Go.Proofs.YtcfingekgbbclaaGreatDoor.E
namespace Go.Proofs.YtcfingekgbbclaaGreatDoor.E
open Go
set_option linter.unusedVariables false
section
variable {σ R : Type} {r : R} {C : Cfg} {I : σ → (Nat → Prop) → (Nat → Prop) → World → Prop} {Γ : Ctx} {Φ : Nat → Prop} {st : St σ} {a : Act} {w : World} {cl : CallT} {yh : Yh σ} {yv : Value} {o : Oper} {H : List Blk}
def resOne (tmps:Array Value):ResultVar→Sem Value
 | .tmp t=>pure (tmps.getD t undef)
 | .cell a t=>do loadVar t (←asAddr (tmps.getD a undef))
theorem results_eq (fn:Func) (tmps:Array Value):results fn tmps=(fn.results.toList.mapM (resOne tmps) >>= fun l=>pure (if h:l.length=1 then l[0] else .tuple l.toArray)):=by
 unfold results
 have:∀ (rs:Array ResultVar),(rs.mapM (resOne tmps) >>= fun vs=>(pure (if h:vs.size=1 then vs[0] else .tuple vs):Sem Value))=(rs.toList.mapM (resOne tmps) >>= fun l=>pure (if h:l.length=1 then l[0] else .tuple l.toArray)):=by
  intro rs
  rw [Array.mapM_eq_mapM_toList,map_eq_pure_bind,bind_assoc]
  congr 1
 exact this fn.results
theorem getD_slot (S:SR Γ H w st.sl a.tmps) (t:Nat):VP Γ (shpOf H) w (st.sl.getD t (.tup [])) (a.tmps.getD t undef)∧∀ c∈(st.sl.getD t (.tup [])).nms,c<H.length:=by
 by_cases h:t<st.sl.length
 ·obtain ⟨V,e,k⟩:=S.slot t h
  have hn:∀ c∈(st.sl[t]).nms,c<H.length:=fun c hc=>S.nms c (mem_nmsL.2 ⟨t,h,hc⟩)
  rw [getD_lt h]
  rw [Array.getD_eq_getD_getElem?,e]
  exact ⟨k,hn⟩
 ·have h1:st.sl.getD t (.tup []) = .tup []:=by rw [List.getD_eq_getElem?_getD,List.getElem?_eq_none (Nat.le_of_not_lt h)];rfl
  have h2:a.tmps.getD t undef=undef:=by rw [Array.getD_eq_getD_getElem?,Array.getElem?_eq_none (by rw [S.size];exact Nat.le_of_not_lt h)];rfl
  rw [h1,h2]
  exact ⟨undef_VP,by simp [PV.nms,nmsL]⟩
def LR (Γ:Ctx) (sh:Nat→Option Shp) (w:World):List PV→List Value→Prop
 | [],[]=>True
 | v::r,V::q=>VP Γ sh w v V∧LR Γ sh w r q
 | _,_=>False
theorem LR.len {sh:Nat→Option Shp}:∀ {l:List PV} {A:List Value},LR Γ sh w l A→A.length=l.length
 | [],[],_=>rfl
 | v::r,V::q,h=>by simp [LR.len h.2]
 | [],_::_,h=>h.elim
 | _::_,[],h=>h.elim
theorem LR.CR {sh:Nat→Option Shp}:∀ {l:List PV} {A:List Value},LR Γ sh w l A→∀ j (h:j<l.length),∃ U,A[j]? = some U∧VP Γ sh w (l[j]) U
 | [],[],_,j,h=>by simp at h
 | v::r,V::q,h,0,_=>⟨V,rfl,h.1⟩
 | v::r,V::q,h,j+1,hj=>by
  obtain ⟨U,e,k⟩:=LR.CR h.2 j (by simpa using hj)
  exact ⟨U,by simpa using e,by simpa using k⟩
 | [],_::_,h,_,_=>h.elim
 | _::_,[],h,_,_=>h.elim
theorem load_as {t:TypeId} {A V:Value} {w':World} (h:(Instr.loadAt t A).run C.P w' = .ok V w'):(do loadVar t (←asAddr A):Sem Value).run C.P w' = .ok V w':=by
 simp only [Instr.loadAt] at h
 unfold Instr.sureAddr at h
 split at h
 ·exact h
 ·simp [stuck] at h
theorem resK_sound (hH:HR Γ H w) (S:SR Γ H w st.sl a.tmps):∀ (rs:List ResultVar) {k:List PV→Option R},resK C st.sl H rs k=some r→
  ∃ vs Vs,k vs=some r∧(rs.mapM (resOne a.tmps)).run C.P w = .ok Vs w∧LR Γ (shpOf H) w vs Vs∧∀ c∈nmsL vs,c<H.length
 | [],k,h=>⟨[],[],h,by simp,trivial,by simp [nmsL]⟩
 | .tmp t::rest,k,h=>by
  simp only [resK] at h
  obtain ⟨vs,Vs,h1,h2,h3,h4⟩:=resK_sound hH S rest h
  obtain ⟨g1,g2⟩:=getD_slot S t
  refine ⟨_,a.tmps.getD t undef::Vs,h1,?_,⟨g1,h3⟩,fun c hc=>?_⟩
  ·rw [List.mapM_cons]
   simp only [resOne,Sem.run_bind,Sem.run_pure,Result.andThen,h2]
  ·simp only [nmsL,List.mem_append] at hc
   rcases hc with hc | hc
   ·exact g2 c hc
   ·exact h4 c hc
 | .cell x t::rest,k,h=>by
  simp only [resK] at h
  obtain ⟨g1,g2⟩:=getD_slot S x
  obtain ⟨v,hk,hn,V,hv,hq⟩:=loadK_sound hH h g1
  obtain ⟨vs,Vs,h1,h2,h3,h4⟩:=resK_sound hH S rest hk
  refine ⟨_,V::Vs,h1,?_,⟨hv,h3⟩,fun c hc=>?_⟩
  ·rw [List.mapM_cons]
   have:=load_as (hq w (Ext.refl w))
   rw [show resOne a.tmps (.cell x t)=(do loadVar t (←asAddr (a.tmps.getD x undef)):Sem Value) from rfl]
   rw [Sem.run_bind,this]
   simp only [Sem.run_bind,Sem.run_pure,Result.andThen,h2]
  ·simp only [nmsL,List.mem_append] at hc
   rcases hc with hc | hc
   ·exact hn c hc
   ·exact h4 c hc
theorem packRes_nms {vs:List PV} {c:Nat} (h:c∈(packRes vs).nms):c∈nmsL vs:=by
 unfold packRes at h
 split at h
 ·simp [nmsL,h]
 ·exact h
theorem pack_VP {vs:List PV} {Vs:List Value} (h:LR Γ (shpOf H) w vs Vs):VP Γ (shpOf H) w (packRes vs) (if h:Vs.length=1 then Vs[0] else .tuple Vs.toArray):=by
 have hl:=h.len
 unfold packRes
 split
 ·rename_i v
  cases Vs with
  | nil=>simp at hl
  | cons V q=>
   cases q with
   | nil=>exact h.1
   | cons _ _=>simp at hl
 ·rename_i hne
  have:Vs.length≠1:=by
   intro e
   rw [e] at hl
   match vs,hl with
   | [v],_=>exact hne v rfl
  rw [dif_neg this]
  refine VP.mk_tup (by simpa using hl) fun j hj=>?_
  obtain ⟨U,e,k⟩:=h.CR j hj
  exact ⟨U,by simpa using e,k⟩
def OkFns (C:Cfg):Prop:=∀ f fn c,C.okf f=true→C.P.funcs[f]? = some fn→fn.body=some c→codeOK C c=true∧(fn.name == "runtime.NumGoroutine")=false
theorem callFunc_enter {f:Nat} {fn:Func} {c:Code} {Vs:Array Value} (hf:C.P.funcs[f]? = some fn) (hb:fn.body=some c) (hn:(fn.name == "runtime.NumGoroutine")=false):(callFunc f Vs).run C.P w = .ok (.enter f Vs) w:=by
 have hn':¬ fn.name = "runtime.NumGoroutine":=by simpa using hn
 simp [callFunc,hf,hb,hn',Result.andThen]
theorem args_SR {args:List PV} {Vs:Array Value} {n:Nat} (hc:CR Γ (shpOf H) w args Vs) (hn:∀ c∈nmsL args,c<H.length) :
  SR Γ H w (args++List.replicate (n-args.length) (.tup [])) (Vs++Array.replicate (n-Vs.size) undef):=by
 have h2:CR Γ (shpOf H) w (List.replicate (n-args.length) (.tup [])) (Array.replicate (n-Vs.size) undef):=⟨by simp [hc.1],fun j hj=>by
  simp only [List.length_replicate] at hj
  refine ⟨undef,by rw [hc.1];simp [hj],?_⟩
  simp only [List.getElem_replicate]
  exact undef_VP⟩
 have h3:=hc.append h2
 refine ⟨h3.1,fun c hcc=>?_,h3.2⟩
 rw [nmsL_append,List.mem_append] at hcc
 rcases hcc with hcc | hcc
 ·exact hn c hcc
 ·obtain ⟨j,hj,hcc⟩:=mem_nmsL.1 hcc
  simp [PV.nms,nmsL] at hcc
theorem Stp.put {Γ0 Γ':Ctx} {H0 H':List Blk} {w0 w':World} {Φ0 Φ':Nat→Prop} {D:Nat} {ob:Obj} (h:Stp C Γ0 H0 w0 Φ0 Γ' H' w' Φ') (hD:w0.heap.size≤D) (hO:Off Γ' Φ' w' D):Stp C Γ0 H0 w0 Φ0 Γ' H' (w'.putObj D ob) Φ':=by
 refine ⟨h.os,h.tape,h.output,by rw [World.putObj_size];exact h.size,h.sub,h.stnew,h.own,h.foot,fun g hg hn hp=>?_,h.yv,h.len,fun b hb hf=>?_⟩
 ·rw [World.putObj_heap_other (by omega)];exact h.frame g hg hn hp
 ·obtain ⟨k1,k2,k3⟩:=h.keep b hb hf
  refine ⟨k1,k2,fun g hg=>?_⟩
  rw [←k3 g hg]
  refine shape_of_heap (World.putObj_heap_other ?_)
  rintro rfl
  exact hO.2.2.1 b (k1.trans hg)
theorem leavesM {F:Fence} {n:Nat} {fn:Func} {Rr:Ending→World→Prop} {Γ0 Γ':Ctx} {H0:List Blk} {w0:World} {Φ0 Φ':Nat→Prop} {st':St σ} {tmps:Array Value} (hI:HI I)
  (hk:∀ w',SI C I Γ' Φ' st' tmps w'→Stp C Γ0 H0 w0 Φ0 Γ' st'.hp w' Φ'→∃ V,(results fn tmps).run C.P w' = .ok V w'∧Rr (.returned V) w') :
  ∀ (Ds:List Nat) (w:World),Ds.Nodup→(∀ D∈Ds,w0.heap.size≤D∧Off Γ' Φ' w D∧w.heap[D]? = some (.deferred (some [])))→SI C I Γ' Φ' st' tmps w→Stp C Γ0 H0 w0 Φ0 Γ' st'.hp w Φ'→LeavesInM F n C.P fn tmps Rr (Ds.map mkD) .returning w
 | [],w,_,_,S,h=>hk w S h
 | D::Ds,w,hn,hD,S,h=>by
  obtain ⟨h1,h2,h3⟩:=hD D (by simp)
  refine ⟨by simp,.inl ⟨D,w.putObj D (.deferred none),rfl,run_takeDeferred h3,?_⟩⟩
  have hn':=List.nodup_cons.1 hn
  refine leavesM hI hk Ds _ hn'.2 (fun E hE=>?_) (S.offW hI (OffW.put h2)) (h.put h1 h2)
  obtain ⟨k1,k2,k3⟩:=hD E (by simp [hE])
  refine ⟨k1,k2.put,(World.putObj_heap_other ?_).trans k3⟩
  rintro rfl
  exact hn'.1 hE
theorem evC_sound (hX:XOK C) (hO:OkFns C) (hm:C.P.follows .mixedOrders=true):∀ d,CalleeOK C (evC C d)
 | 0=>fun σ I yh yv hI hy g args H s ret Hc s' h=>by simp [evC] at h
 | d+1=>fun σ I yh yv hI hy g args H s ret Hc s' h Γ Φ w Vs hyv hH hg hi hdis hc hn=>by
  have ih:=evC_sound hX hO hm d
  simp only [evC] at h
  split at h
  ·rename_i fn hok hf
   split at h
   ·rename_i c hb
    obtain ⟨hcode,hname⟩:=hO g fn c hok hf hb
    intro ro n o a next Q hnext
    rw [callFunc_enter hf hb hname]
    simp only [Oper.uponIn_enter]
    refine ⟨fun h=>(by simp [wideAt,Fence.wide] at h),?_⟩
    have key:CallsIn Fence.wide (n-1) C.P g Vs w fun e w''=>∃ V,e = .returned V∧CRes C I Γ H w Φ ret Hc s' V w'':=by
     refine callsIn_of_wp_marks hf hb trivial ?_
     have S0:SI C I Γ Φ { sl:=args++List.replicate (fn.ntmps-args.length) (.tup []),hp:=H,s:=s } (Vs++Array.replicate (fn.ntmps-Vs.size) undef) w:=⟨hH,args_SR hc hn,hg,hi,hdis⟩
     refine evCode_wp (ro:=none) (rf:=true) (n:=n-1) (n0:=w.heap.size) (a:={ tmps:=Vs++Array.replicate (fn.ntmps-Vs.size) undef,defers:=[] }) ⟨hI,ih,hX,hy⟩ hm c (fun _=>rfl) hcode hyv h S0 (Mk.nil (Nat.le_refl _)) ?_
     intro o st' a' w' Γ' Φ' k1 k2 k3 ⟨_,Ds,k4,k5,k6⟩
     suffices fin:∀ w',SI C I Γ' Φ' st' a'.tmps w'→Stp C Γ H w Φ Γ' st'.hp w' Φ'→resK C st'.sl st'.hp fn.results.toList (fun vs=>some (packRes vs,st'.hp,st'.s))=some (ret,Hc,s')→∃ V,(results fn a'.tmps).run C.P w' = .ok V w'∧∃ V',Ending.returned V = .returned V'∧CRes C I Γ H w Φ ret Hc s' V' w' by
      have key2:resK C st'.sl st'.hp fn.results.toList (fun vs=>some (packRes vs,st'.hp,st'.s))=some (ret,Hc,s')→LeavesInM (wideAt none) (n-1) C.P fn a'.tmps (fun e w''=>∃ V,e = .returned V∧CRes C I Γ H w Φ ret Hc s' V w'') a'.defers .returning w':=fun h=>by
       rw [k4]
       exact leavesM hI (fun w' a b=>fin w' a b h) Ds w' k5 k6 k3 k2
      cases o with
      | normal=>exact key2 k1
      | ret=>exact key2 k1
      | exit id=>cases k1
     intro w' k3 k2
     have fin:∀ (h:resK C st'.sl st'.hp fn.results.toList (fun vs=>some (packRes vs,st'.hp,st'.s))=some (ret,Hc,s')),∃ V,(results fn a'.tmps).run C.P w' = .ok V w'∧∃ V',Ending.returned V = .returned V'∧CRes C I Γ H w Φ ret Hc s' V' w':=fun h=>by
      obtain ⟨vs,Us,h1,h2,h3,h4⟩:=resK_sound k3.hr k3.sr _ h
      simp only [Option.some.injEq,Prod.mk.injEq] at h1
      obtain ⟨rfl,rfl,rfl⟩:=h1
      refine ⟨_,?_,_,rfl,Γ',Φ',k2,k3.hr,pack_VP h3,fun c hc=>h4 c (packRes_nms hc),k3.inv,k3.dis⟩
      rw [results_eq,Sem.run_bind,h2]
      rfl
     exact fin
    have key':CallsIn (wideAt ro) (n-1) C.P g Vs w fun e w''=>∃ V,e = .returned V∧CRes C I Γ H w Φ ret Hc s' V w'':=key
    refine key'.mono ?_
    rintro e w' ⟨V,rfl,hR⟩
    exact hnext V w' hR
   ·cases h
  ·cases h
end
end Go.Proofs.YtcfingekgbbclaaGreatDoor.E
namespace Go.Proofs.YtcfingekgbbclaaGreatDoor.E
open Go Go.ChangeShapes Go.WideShapes Go.RowKit
set_option linter.unusedVariables false
inductive Ty where
 | bool
 | int (k:IntKind)
 | str
 | slice (e:List Ty)
 deriving Inhabited
def tysF (P:Program) (f:Nat→Option (List Ty)):List Field→Nat→Option (List Ty)
 | [],_=>some []
 | x::r,off=>if x.offset==off then match f x.type with
   | some a=>if P.cellsOf x.type==a.length then match tysF P f r (off+a.length) with
    | some b=>some (a++b)
    | none=>none else none
   | none=>none else none
def tysOf (P:Program):Nat→Nat→Option (List Ty)
 | 0,_=>none
 | d+1,t=>match P.underlying t with
  | some .bool=>some [.bool]
  | some (.int k)=>some [.int k]
  | some .string=>some [.str]
  | some (.slice e)=>match tysOf P d e with
   | some a=>if P.cellsOf e==a.length&&decide (0<a.length) then some [.slice a] else none
   | none=>none
  | some (.struct fs)=>match tysF P (tysOf P d) fs.toList 0 with
   | some r=>if P.cellsOf t==r.length then some r else none
   | none=>none
  | some (.array n e)=>match tysOf P d e with
   | some a=>if P.cellsOf e==a.length&&P.cellsOf t==n*a.length then some (List.replicate n a).flatten else none
   | none=>none
  | _=>none
mutual
def Ty.of:Ty→SV→Prop
 | .bool,v=>∃ b,v = .bool b
 | .int k,v=>∃ n,v = .int k n∧k.min≤n∧n≤k.max
 | .str,v=>∃ l,v = .str l∧l.length≤maxLen
 | .slice e,v=>v = .sl true false e.length []∨∃ els,v = .sl false false e.length els∧els.length≤maxLen∧∀ el∈els,Ty.ofL e el
def Ty.ofL:List Ty→List SV→Prop
 | [],l=>l=[]
 | t::r,l=>∃ v q,l=v::q∧t.of v∧Ty.ofL r q
end
theorem Ty.ofL_len:∀ {ts:List Ty} {l:List SV},Ty.ofL ts l→l.length=ts.length
 | [],l,h=>by simp only [Ty.ofL] at h;subst h;rfl
 | t::r,l,h=>by
  simp only [Ty.ofL] at h
  obtain ⟨v,q,rfl,_,hq⟩:=h
  simp [Ty.ofL_len hq]
theorem Ty.ofL_append:∀ {a b:List Ty} {x y:List SV},Ty.ofL a x→Ty.ofL b y→Ty.ofL (a++b) (x++y)
 | [],b,x,y,h,k=>by simp only [Ty.ofL] at h;subst h;exact k
 | t::r,b,x,y,h,k=>by
  simp only [Ty.ofL] at h
  obtain ⟨v,q,rfl,hv,hq⟩:=h
  simp only [List.cons_append,Ty.ofL]
  exact ⟨v,q++y,rfl,hv,Ty.ofL_append hq k⟩
def CVS (St:Nat→Prop) (w:World) (l:List SV) (A:List Value):Prop:=A.length=l.length∧∀ j (h:j<l.length),∃ U,A[j]? = some U∧VS St w (l[j]) U
theorem CVS.append {St:Nat→Prop} {w:World} {x y:List SV} {X Y:List Value} (hx:CVS St w x X) (hy:CVS St w y Y):CVS St w (x++y) (X++Y):=by
 refine ⟨by simp [hx.1,hy.1],fun j hj=>?_⟩
 by_cases h:j<x.length
 ·obtain ⟨U,e,k⟩:=hx.2 j h
  exact ⟨U,by rw [List.getElem?_append_left (by rw [hx.1];exact h)];exact e,by rw [List.getElem_append_left h];exact k⟩
 ·obtain ⟨U,e,k⟩:=hy.2 (j-x.length) (by simp at hj;omega)
  exact ⟨U,by rw [List.getElem?_append_right (by rw [hx.1];omega),hx.1];exact e,by rw [List.getElem_append_right (by omega)];exact k⟩
theorem CVS.one {St:Nat→Prop} {w:World} {v:SV} {V:Value} (h:VS St w v V):CVS St w [v] [V]:=⟨rfl,fun j hj=>by
 have:j=0:=by simpa using hj
 subst this
 exact ⟨V,rfl,h⟩⟩
theorem spot_none {w:World} {a:Addr} {V:Value} (h:w.cell? a=some V):a.spot=none∧a.block<w.heap.size:=by
 unfold World.cell? at h
 split at h
 ·rename_i c t fr hb
  refine ⟨?_,(Array.getElem?_eq_some_iff.1 hb).1⟩
  cases hs:a.spot with
  | none=>rfl
  | some x=>rw [hs] at h;simp at h
 ·cases h
theorem add_none {a:Addr} (h:a.spot=none) (n:Nat):a.add n=⟨a.block,a.off+n,none⟩:=by
 unfold Addr.add
 split
 ·rename_i hn;subst hn;cases a;simp_all
 ·rfl
theorem add_add {a:Addr} {m n:Nat} (h:a.spot=none):(a.add m).add n=⟨a.block,a.off+m+n,none⟩:=by
 rw [add_none h,add_none rfl]
theorem tysF_read {H:Type} {enc:TypeId × Value→H} {P:Program} {w:World} {base:Nat} {sp:Nat→Bool} {held:Bool} {f:Nat→Option (List Ty)} {m:Nat}
  (ih:∀ t tys cs x,f t=some tys→DataW.trod enc P w base sp held m t cs=some x→∃ svs,Ty.ofL tys svs∧CVS (· < w.heap.size) w svs cs) (cs:List Value) :
  ∀ (fs:List Field) (off:Nat) (tys:List Ty),tysF P f fs off=some tys→(∀ (i:Nat) (fl:Field),fs[i]? = some fl→∃ y,DataW.trod enc P w base sp held m fl.type ((cs.drop fl.offset).take (P.cellsOf fl.type))=some y)→
   ∃ svs,Ty.ofL tys svs∧CVS (· < w.heap.size) w svs ((cs.drop off).take tys.length)
 | [],off,tys,h,_=>by
  simp only [tysF,Option.some.injEq] at h
  subst h
  exact ⟨[],rfl,by simp,fun j hj=>by simp at hj⟩
 | x::r,off,tys,h,hall=>by
  simp only [tysF] at h
  split at h
  ·rename_i hoff
   simp only [beq_iff_eq] at hoff
   split at h
   ·rename_i a ha
    split at h
    ·rename_i hc
     simp only [beq_iff_eq] at hc
     split at h
     ·rename_i b hb
      simp only [Option.some.injEq] at h
      subst h
      obtain ⟨y,hy⟩:=hall 0 x rfl
      rw [hoff,hc] at hy
      obtain ⟨s1,h1,h2⟩:=ih _ _ _ _ ha hy
      obtain ⟨s2,h3,h4⟩:=tysF_read ih cs r _ b hb (fun i fl hi=>hall (i+1) fl (by simpa using hi))
      refine ⟨s1++s2,Ty.ofL_append h1 h3,?_⟩
      have:=h2.append h4
      have e:(cs.drop off).take (a++b).length=(cs.drop off).take a.length++(cs.drop (off+a.length)).take b.length:=by
       rw [List.length_append,List.take_add,List.drop_drop]
      rw [e];exact this
     ·cases h
    ·cases h
   ·cases h
  ·cases h
theorem arr_read {H:Type} {enc:TypeId × Value→H} {P:Program} {w:World} {base:Nat} {sp:Nat→Bool} {held:Bool} {e m:Nat} {a:List Ty} (cs:List Value)
  (ih:∀ cs x,DataW.trod enc P w base sp held m e cs=some x→∃ svs,Ty.ofL a svs∧CVS (· < w.heap.size) w svs cs) (hc:P.cellsOf e=a.length) :
  ∀ (n k:Nat),(∀ i,k≤i→i<k+n→∃ y,DataW.trod enc P w base sp held m e ((cs.drop (i*P.cellsOf e)).take (P.cellsOf e))=some y)→
   ∃ svs,Ty.ofL (List.replicate n a).flatten svs∧CVS (· < w.heap.size) w svs ((cs.drop (k*a.length)).take (n*a.length))
 | 0,k,_=>⟨[],by simp [Ty.ofL],by simp,fun j hj=>by simp at hj⟩
 | n+1,k,hall=>by
  obtain ⟨y,hy⟩:=hall k (Nat.le_refl _) (by omega)
  obtain ⟨s1,h1,h2⟩:=ih _ _ hy
  obtain ⟨s2,h3,h4⟩:=arr_read cs ih hc n (k+1) (fun i hi1 hi2=>hall i (by omega) (by omega))
  rw [hc] at h2
  refine ⟨s1++s2,?_,?_⟩
  ·rw [List.replicate_succ,List.flatten_cons];exact Ty.ofL_append h1 h3
  ·have:=h2.append h4
   have e:(cs.drop (k*a.length)).take ((n+1)*a.length)=(cs.drop (k*a.length)).take a.length++(cs.drop ((k+1)*a.length)).take (n*a.length):=by
    rw [show (n+1)*a.length=a.length+n*a.length by rw [Nat.add_mul,Nat.one_mul,Nat.add_comm],List.take_add,List.drop_drop,show k*a.length+a.length=(k+1)*a.length by rw [Nat.add_mul,Nat.one_mul]]
   rw [e];exact this
theorem read_VS {H:Type} {enc:TypeId × Value→H} {P:Program} {w:World} {base:Nat} {sp:Nat→Bool} {held:Bool}:∀ (n t:Nat) (tys:List Ty) (m:Nat) (cs:List Value) (x:DataW H × List MemPlace),tysOf P n t=some tys→
  DataW.trod enc P w base sp held m t cs=some x→∃ svs,Ty.ofL tys svs∧CVS (· < w.heap.size) w svs cs
 | 0,t,tys,m,cs,x,h,_=>by simp [tysOf] at h
 | n+1,t,tys,m,cs,x,h,hd=>by
  simp only [tysOf] at h
  split at h
  ·rename_i ht
   simp only [Option.some.injEq] at h;subst h
   obtain ⟨b,rfl,_⟩:=DataW.trod_bool ht hd
   exact ⟨[.bool b],by simp [Ty.ofL,Ty.of],CVS.one (.bool b)⟩
  ·rename_i k ht
   simp only [Option.some.injEq] at h;subst h
   obtain ⟨b,rfl,_,hw⟩:=DataW.trod_int ht hd
   simp only [Lit.wf,Bool.and_eq_true,decide_eq_true_eq] at hw
   exact ⟨[.int k b],by simp [Ty.ofL,Ty.of,hw],CVS.one (.int k b)⟩
  ·rename_i ht
   simp only [Option.some.injEq] at h;subst h
   obtain ⟨b,rfl,_,hw⟩:=DataW.trod_string ht hd
   exact ⟨[.str b.data.toList],by simpa [Ty.ofL,Ty.of] using hw,CVS.one (.str b)⟩
  ·rename_i e ht
   split at h
   ·rename_i a ha
    split at h
    ·rename_i hc
     simp only [Bool.and_eq_true,beq_iff_eq,decide_eq_true_eq] at hc
     simp only [Option.some.injEq] at h;subst h
     rcases DataW.trod_slice ht hd with ⟨rfl,_⟩ | ⟨ad,len,cap,elems,rest,m',_,rfl,_,hb,hl,hm,hlen,hel,_,_⟩
     ·exact ⟨[.sl true false a.length []],by simp [Ty.ofL,Ty.of],CVS.one (.nil _ _)⟩
     ·have each:∀ i,i<len→∃ el cs',w.cells? base (ad.add (i*a.length)) a.length=some cs'∧Ty.ofL a el∧CVS (· < w.heap.size) w el cs':=fun i hi=>by
       have h1:=hel i hi
       rw [List.getElem?_eq_getElem (by omega),hc.1,Option.bind_eq_some_iff] at h1
       obtain ⟨cs',h2,h3⟩:=h1
       obtain ⟨el,h4,h5⟩:=read_VS n e a m' cs' _ ha h3
       exact ⟨el,cs',h2,h4,h5⟩
      by_cases h0:len=0
      ·subst h0
       exact ⟨[.sl false false a.length []],by simp [Ty.ofL,Ty.of],CVS.one (.emp _ _ _ _ (by simp) hm)⟩
      ·let els:List (List SV):=(List.range len).attach.map fun i=>Classical.choose (each i.1 (List.mem_range.1 i.2))
       have hels:els.length=len:=by simp [els]
       have hget:∀ i (hi:i<els.length),∃ cs',w.cells? base (ad.add (i*a.length)) a.length=some cs'∧Ty.ofL a (els[i])∧CVS (· < w.heap.size) w (els[i]) cs':=fun i hi=>by
        have hi':i<len:=by omega
        have e:els[i]=Classical.choose (each i hi'):=by simp [els]
        rw [e]
        exact Classical.choose_spec (each i hi')
       have hspot:ad.spot=none∧ad.block<w.heap.size:=by
        obtain ⟨cs',h1,h2,h3⟩:=hget 0 (by omega)
        obtain ⟨_,hl1,hl2⟩:=World.cells?_some h1
        have:=hl2 0 hc.2
        rw [List.getElem?_eq_getElem (by omega)] at this
        simp only [Nat.zero_mul,Addr.add,if_true] at this
        exact spot_none this
       have hel:∀ i (hi:i<els.length),(els[i]).length=a.length:=fun i hi=>by
        obtain ⟨cs',h1,h2,h3⟩:=hget i hi
        exact Ty.ofL_len h2
       have hcell:∀ i (hi:i<els.length) j (hj:j<(els[i]).length),∃ U,w.cell? ⟨ad.block,ad.off+i*a.length+j,none⟩=some U∧VS (· < w.heap.size) w (els[i][j]) U:=fun i hi j hj=>by
        obtain ⟨cs',h1,h2,h3⟩:=hget i hi
        obtain ⟨_,hl1,hl2⟩:=World.cells?_some h1
        have hj':j<a.length:=by rw [←hel i hi];exact hj
        obtain ⟨U,e1,e2⟩:=h3.2 j hj
        refine ⟨U,?_,e2⟩
        rw [←e1,←hl2 j hj',add_add hspot.1]
       refine ⟨[.sl false false a.length els],?_,CVS.one ?_⟩
       ·simp only [Ty.ofL,Ty.of]
        refine ⟨_,[],rfl,.inr ⟨els,rfl,by omega,fun el hm'=>?_⟩,rfl⟩
        obtain ⟨i,hi,rfl⟩:=List.getElem_of_mem hm'
        obtain ⟨cs',h1,h2,h3⟩:=hget i hi
        exact h2
       ·have e:ad=⟨ad.block,ad.off,none⟩:=by cases ad;simp_all
        rw [e]
        refine .sl false els ad.block ad.off len cap a.length (fun i j=>(w.cell? ⟨ad.block,ad.off+i*a.length+j,none⟩).getD undef) hels.symm hl hm (by simp) hspot.2 hel (fun i hi j hj=>?_) (fun i hi j hj=>?_)
        ·obtain ⟨U,e1,e2⟩:=hcell i hi j hj
         rw [e1];rfl
        ·obtain ⟨U,e1,e2⟩:=hcell i hi j hj
         rw [e1];exact e2
    ·cases h
   ·cases h
  ·rename_i fs ht
   split at h
   ·rename_i r hr
    split at h
    ·rename_i hc
     simp only [beq_iff_eq] at hc
     simp only [Option.some.injEq] at h;subst h
     obtain ⟨xs,m',_,_,hlen,hxs,hf⟩:=DataW.trod_struct ht hd
     obtain ⟨svs,h1,h2⟩:=tysF_read (fun t tys cs x=>read_VS n t tys m' cs x) cs fs.toList 0 r hr (fun i fl hi=>by
      have hi':fs[i]? = some fl:=by simpa using hi
      have:=hf i fl hi'
      have hlt:i<xs.length:=by rw [hxs];exact (Array.getElem?_eq_some_iff.1 hi').1
      rw [List.getElem?_eq_getElem hlt] at this
      exact ⟨_,this⟩)
     refine ⟨svs,h1,?_⟩
     rw [List.drop_zero,List.take_of_length_le (by omega)] at h2
     exact h2
    ·cases h
   ·cases h
  ·rename_i k e ht
   split at h
   ·rename_i a ha
    split at h
    ·rename_i hc
     simp only [Bool.and_eq_true,beq_iff_eq] at hc
     simp only [Option.some.injEq] at h;subst h
     obtain ⟨xs,m',_,_,hlen,hxs,hf⟩:=DataW.trod_array ht hd
     obtain ⟨svs,h1,h2⟩:=arr_read cs (fun cs x=>read_VS n e a m' cs x ha) hc.1 k 0 (fun i _ hi=>by
      have:=hf i (by omega)
      rw [List.getElem?_eq_getElem (by omega)] at this
      exact ⟨_,this⟩)
     refine ⟨svs,h1,?_⟩
     rw [Nat.zero_mul,List.drop_zero,List.take_of_length_le (by omega)] at h2
     exact h2
    ·cases h
   ·cases h
  ·cases h
end Go.Proofs.YtcfingekgbbclaaGreatDoor.E
namespace Go.Proofs.YtcfingekgbbclaaGreatDoor.E
open Go Go.ChangeShapes Go.WideShapes Go.RowKit
set_option linter.unusedVariables false
def aggOf (P:Program) (t:Nat):Bool:=match P.underlying t with
 | some (.struct _)=>true
 | some (.array _ _)=>true
 | _=>false
def ArgOf (P:Program) (t:Nat) (v:PV):Prop:=∃ tys l,tysOf P 20 t=some tys∧Ty.ofL tys l∧((aggOf P t=true∧v = .agg (l.map .s))∨(aggOf P t=false∧∃ x,l=[x]∧v = .s x))
def ArgsOf (P:Program):List Nat→List PV→Prop
 | [],l=>l=[]
 | t::r,l=>∃ v q,l=v::q∧ArgOf P t v∧ArgsOf P r q
theorem ArgOf.nms {P:Program} {t:Nat} {v:PV} (h:ArgOf P t v):v.nms=[]:=by
 obtain ⟨tys,l,_,_,h⟩:=h
 rcases h with ⟨_,rfl⟩ | ⟨_,x,_,rfl⟩
 ·simp only [PV.nms]
  rw [List.eq_nil_iff_forall_not_mem]
  intro c hc
  obtain ⟨j,hj,hc⟩:=mem_nmsL.1 hc
  simp [PV.nms] at hc
 ·rfl
theorem ArgsOf.nms {P:Program}:∀ {ts:List Nat} {l:List PV},ArgsOf P ts l→nmsL l=[]
 | [],l,h=>by simp only [ArgsOf] at h;subst h;rfl
 | t::r,l,h=>by
  simp only [ArgsOf] at h
  obtain ⟨v,q,rfl,h1,h2⟩:=h
  simp [nmsL,h1.nms,h2.nms]
section
variable {H : Type} {enc : TypeId × Value → H} {P : Program} {w : World}
theorem not_agg {v:Value} {r:Reach} {b:Nat} {t:Nat} (ha:aggOf P t=false) (hval:Value.okWide P w r b t v):∀ cs,v = .agg cs→False:=by
 rintro cs rfl
 simp only [Value.okWide,Cell.okWide] at hval
 unfold aggOf at ha
 split at hval
 ·rename_i h;rw [h] at ha;simp at ha
 ·rename_i h;rw [h] at ha;simp at ha
 ·revert hval
  cases hu:P.underlying t with
  | none=>simp [Cell.ok,hu]
  | some d=>cases d<;>simp [Cell.ok,hu]
theorem read_arg {Γ:Ctx} {sh:Nat→Option Shp} {sp:Nat→Bool} {held:Bool} {r:Reach} {b b' t:Nat} {v:Value} {d:DataW H} {ps:List MemPlace} (hΓ:∀ g,g<w.heap.size→Γ.St g) (htys:(tysOf P 20 t).isSome=true) (hval:Value.okWide P w r b t v) (hd:DataW.Trod enc P w b' sp held t v d ps) :
  ∃ pv,ArgOf P t pv∧VP Γ sh w pv v:=by
 obtain ⟨tys,ht⟩:=Option.isSome_iff_exists.1 htys
 obtain ⟨m,hm⟩:=hd
 obtain ⟨svs,h1,h2⟩:=read_VS 20 t tys m _ _ ht hm
 have lift:∀ {x:SV} {V:Value},VS (· < w.heap.size) w x V→VS Γ.St w x V:=fun h=>h.mono (fun _ _=>rfl) hΓ
 cases ha:aggOf P t with
 | true=>
  refine ⟨.agg (svs.map .s),⟨tys,svs,ht,h1,.inl ⟨ha,rfl⟩⟩,?_⟩
  have:∃ cs,v = .agg cs:=by
   unfold aggOf at ha
   simp only [Value.okWide] at hval
   split at ha
   ·rename_i h;simp only [h] at hval;obtain ⟨cs,hc,_⟩:=hval;exact ⟨cs,hc⟩
   ·rename_i h;simp only [h] at hval;obtain ⟨cs,hc,_⟩:=hval;exact ⟨cs,hc⟩
   ·cases ha
  obtain ⟨cs,rfl⟩:=this
  simp only [Value.cells] at h2
  refine VP.mk_agg (by simpa using h2.1) fun j hj=>?_
  have hj':j<svs.length:=by simpa using hj
  obtain ⟨U,e,k⟩:=h2.2 j hj'
  exact ⟨U,by simpa using e,by rw [List.getElem_map];exact .s _ _ (lift k)⟩
 | false=>
  have hc:v.cells = #[v]:=by
   have:=not_agg ha hval
   cases v with
   | agg cs=>exact (this cs rfl).elim
   | _=>rfl
  rw [hc] at h2
  have hl:svs.length=1:=by have:=h2.1;simpa using this.symm
  obtain ⟨x,rfl⟩:∃ x,svs=[x]:=by
   match svs,hl with
   | [x],_=>exact ⟨x,rfl⟩
  obtain ⟨U,e,k⟩:=h2.2 0 (by simp)
  simp only [List.getElem?_cons_zero,Option.some.injEq] at e
  subst e
  exact ⟨.s x,⟨tys,[x],ht,h1,.inr ⟨ha,x,rfl,rfl⟩⟩,.s _ _ (lift k)⟩
theorem read_args {Γ:Ctx} {sh:Nat→Option Shp} {sp:Nat→Bool} {held:Bool} {r:Reach} {b b':Nat} (hΓ:∀ g,g<w.heap.size→Γ.St g):∀ (ts:List Nat) (vs:List Value) (ds:List (DataW H)) (ps:List MemPlace),(∀ t∈ts,(tysOf P 20 t).isSome=true)→(∀ (j:Nat) t v,ts[j]? = some t→vs[j]? = some v→Value.okWide P w r b t v)→DataW.TrodAll enc P w b' sp held ts vs ds ps→
  ∃ pvs,ArgsOf P ts pvs∧vs.length=pvs.length∧ds.length=ts.length∧∀ j (h:j<pvs.length),∃ U,vs[j]? = some U∧VP Γ sh w (pvs[j]) U
 | [],vs,ds,ps,_,_,h=>by
  obtain ⟨rfl,rfl,_⟩:=trodAll_nil h
  exact ⟨[],rfl,rfl,rfl,fun j hj=>by simp at hj⟩
 | t::ts,vs,ds,ps,htys,hval,h=>by
  obtain ⟨v,vs',d,ds',p,q,rfl,rfl,rfl,h1,h2⟩:=trodAll_cons h
  obtain ⟨pv,k1,k2⟩:=read_arg (Γ:=Γ) (sh:=sh) hΓ (htys t (by simp)) (hval 0 t v rfl rfl) h1
  obtain ⟨pvs,g1,g2,g3,g4⟩:=read_args (Γ:=Γ) (sh:=sh) hΓ ts vs' ds' q (fun t ht=>htys t (by simp [ht])) (fun j t v hj hv=>hval (j+1) t v (by simpa using hj) (by simpa using hv)) h2
  refine ⟨pv::pvs,⟨pv,pvs,rfl,k1,g1⟩,by simp [g2],by simp [g3],fun j hj=>?_⟩
  cases j with
  | zero=>exact ⟨v,rfl,k2⟩
  | succ j=>
   obtain ⟨U,e,k⟩:=g4 j (by simpa using hj)
   exact ⟨U,by simpa using e,by simpa using k⟩
theorem again_args (hl:laidOutB P=true) {w':World} {ts:List Nat} {vs:List Value} {ds:List (DataW H)} {ps:List MemPlace}:∀ {ts:List Nat} {vs:List Value} {ds:List (DataW H)} {ps:List MemPlace},(∀ t∈ts,P.readableRec t=true∧t<P.types.size)→DataW.TrodAll enc P w 0 (fun _=>true) true ts vs ds ps→(∀ x∈ps,w.sameAt w' x)→∀ sp:Nat→Bool,(∀ x∈ps,sp x.block=true)→
  DataW.TrodAll enc P w' 0 sp true ts vs ds ps
 | [],vs,ds,ps,_,h,_,sp,_=>by
  obtain ⟨rfl,rfl,rfl⟩:=trodAll_nil h
  exact trodAll_mk0
 | t::ts,vs,ds,ps,hr,h,hs,sp,hsp=>by
  obtain ⟨v,vs',d,ds',p,q,rfl,rfl,rfl,h1,h2⟩:=trodAll_cons h
  refine ⟨p,q,WideElems.Trod_stays hl (hr t (by simp)).1 (hr t (by simp)).2 h1 (fun x hx=>hs x (by simp [hx])) (fun x hx=>hsp x (by simp [hx])),again_args hl (w':=w') (ts:=ts) (vs:=vs') (ds:=ds') (ps:=q) (fun t ht=>hr t (by simp [ht])) h2 (fun x hx=>hs x (by simp [hx])) sp (fun x hx=>hsp x (by simp [hx])),rfl⟩
theorem post_of_below {f:Func} {s:ChangeSpec} {apart fresh handsOn again:Bool} {W W':World} {args:Array Value} {v:Value} {ds gs:List (DataW H)} {before pa pv:List MemPlace}
  (hW:DataW.Whole enc P f.params.toList s.vars apart W args.toList ds gs before)
  (hres:∀ (b:Nat) (sp:Nat→Bool) (hd:Bool),DataW.TrodAll enc P W' b sp hd f.resultTypes.toList (v.resultList f.resultTypes.size) (s.fn H (ds++gs)).results [])
  (hargs:∀ sp:Nat→Bool,(∀ p∈before,sp p.block=true)→DataW.TrodAll enc P W' 0 sp true f.params.toList args.toList (s.fn H (ds++gs)).args pa)
  (hvars:∀ sp:Nat→Bool,(∀ p∈before,sp p.block=true)→DataW.TrodVars enc P W' sp s.vars (s.fn H (ds++gs)).vars pv)
  (hps:before=pa++pv) (hb:Below W.heap.size W W')
  (hok:∀ (j:Nat) (t:TypeId) (r:Value),f.resultTypes[j]? = some t→(v.resultList f.resultTypes.size)[j]? = some r→Value.okWide P W' .any 0 t r) :
  s.post enc P f apart fresh handsOn again W args v W':=by
 have hold:∀ p∈before,(fun b=>decide (b<W.heap.size)) p.block=true:=fun p hp=>by simpa using hW.lt p hp
 refine ⟨ds,gs,before,[],pa,pv,hW,hres _ _ _,hargs _ hold,hvars _ hold,hb.frame _,fun _=>?_⟩
 have hlt:=hW.lt
 obtain ⟨_,_,_,_,_,hz,hn⟩:=hW
 refine ⟨hok,_,_,([]++pa)++pv,⟨[]++pa,pv,trodAll_append (hargs _ (fun _ _=>rfl)) (hres _ _ _),hvars _ (fun _ _=>rfl),rfl,?_,?_⟩,?_⟩
 ·intro b off hp
  have hp':MemPlace.cell b off∈before:=by rw [hps];simpa using hp
  rw [hb.frozen (hlt _ hp')]
  exact hz b off hp'
 ·intro ha
  have:=hn ha
  rw [hps] at this
  simpa using this
 ·intro p hp _
  rw [hps]
  simpa using hp
end
theorem upon_calls {P:Program} {f:Nat} {Vs:Array Value} {w:World} {R:Value→World→Prop} (hrun:(callFunc f Vs).run P w = .ok (.enter f Vs) w) (h:UponOK P ((callFunc f Vs).run P w) R):Calls P f Vs w fun e w'=>∃ V,e = .returned V∧R V w':=by
 rw [hrun] at h
 have:=h none 1 { op:=.move (.const undef),dst:=some 0,guard:=none,type:=0,after:=#[],pos:=default } { tmps:=#[undef],defers:=[] } (fun a' w'=>∃ V,a'.tmps[0]? = some V∧R V w') (fun _ _ _=>False) (fun V w' hR=>⟨V,by simp [Act.put],hR⟩)
 rw [Oper.uponIn_enter] at this
 have h2:CallsIn Fence.wide 0 P f Vs w _:=this.2
 refine (callsIn_wide.1 h2).mono fun e w' he=>?_
 cases e with
 | returned v=>
  obtain ⟨V,e1,e2⟩:=he
  simp [Act.put] at e1
  subst e1
  exact ⟨_,rfl,e2⟩
 | panicked c=>exact he.elim
 | outgrown=>obtain ⟨_,_,h⟩:=he;exact h.elim
def noY:Yh Unit:=fun _ _=>none
theorem contract {H:Type} {enc:TypeId × Value→H} {C:Cfg} {f tb:Nat} {fn:Func} {c:Code} {s:ChangeSpec} {apart fresh handsOn again:Bool} (hX:XOK C) (hO:OkFns C) (hm:C.P.follows .mixedOrders=true) (hl:laidOutB C.P=true) (hfn:C.P.funcs[f]? = some fn) (hb:fn.body=some c) (hname:(fn.name == "runtime.NumGoroutine")=false)
  (hp:∀ t∈fn.params.toList,(C.P.readableRec t=true∧t<C.P.types.size)∧(tysOf C.P 20 t).isSome=true) (hres:fn.resultTypes = #[tb]) (hbool:C.P.underlying tb=some .bool) (hvars:s.vars=[])
  (hspec:∀ ds:List (DataW H),ds.length=fn.params.toList.length→s.fn H ds = { results:=[.lit (.bool true)],args:=ds })
  (hev:∀ args,ArgsOf C.P fn.params.toList args→∃ d Hc,evC C d Unit noY f args [] ()=some (.s (.bool true),Hc,()))
  (W:World) (hG:GOK C (· < W.heap.size) W) (base:Nat) (args:Array Value) (ds gs:List (DataW H)) (before:List MemPlace)
  (hval:∀ (j:Nat) t v,fn.params[j]? = some t→args[j]? = some v→Value.okWide C.P W .any base t v)
  (hW:DataW.Whole enc C.P fn.params.toList s.vars apart W args.toList ds gs before) :
  Calls C.P f args W fun e W'=>∃ v,e = .returned v∧s.post enc C.P fn apart fresh handsOn again W args v W':=by
 have hW':=hW
 obtain ⟨p,q,hA,hV,rfl,hfz,hnd⟩:=hW
 rw [hvars] at hV
 obtain ⟨rfl,rfl⟩:=trodVars_none hV
 let Γ:Ctx:={ St:=(· < W.heap.size),nm:=fun _=>none,yv:=.nilFunc,yv1:=rfl }
 obtain ⟨pvs,h1,h2,h3,h4⟩:=read_args (Γ:=Γ) (sh:=shpOf []) (fun _ h=>h) fn.params.toList args.toList ds p (fun t ht=>(hp t ht).2) (fun j t v hj hv=>hval j t v (by simpa using hj) (by simpa using hv)) hA
 obtain ⟨d,Hc,hd⟩:=hev pvs h1
 have hS:=evC_sound hX hO hm d Unit I0 noY .nilFunc I0_HI I0_Yd f pvs [] () _ Hc () hd Γ noΦ W args rfl (bare_HR (fun _=>rfl) (fun _ h=>h)) hG (fun _ h=>h) (fun b g h=>by cases h)
  ⟨by rw [←Array.length_toList];exact h2,fun j hj=>by obtain ⟨U,e,k⟩:=h4 j hj;exact ⟨U,by simpa using e,k⟩⟩ (by rw [h1.nms];simp)
 refine (upon_calls (callFunc_enter hfn hb hname) hS).mono ?_
 rintro e W' ⟨V,rfl,Γ',Φ',hs,hH,hv,_⟩
 have hV:=hv.inv_bool
 subst hV
 have hbel:Below W.heap.size W W':=⟨hs.os,hs.tape,hs.output,hs.size,fun k hk=>hs.frame k hk (fun b=>by simp [Γ]) (fun x=>x)⟩
 simp only [List.append_nil] at hW'
 refine ⟨_,rfl,?_⟩
 have hsp:=hspec ds h3
 have hlt:=hW'.lt
 refine post_of_below (pa:=p) (pv:=[]) hW' (fun b sp hd=>?_) (fun sp hsp'=>?_) (fun sp _=>?_) (by simp) hbel ?_
 ·rw [List.append_nil,hsp,hres]
  exact trodAll_cons_mk (shut_bool hbool _) trodAll_mk0
 ·rw [List.append_nil,hsp]
  exact again_args hl (w:=W) (ts:=fn.params.toList) (vs:=args.toList) (ds:=ds) (ps:=p) (fun t ht=>(hp t ht).1) hA (fun x hx=>hbel.same (hlt x hx)) sp hsp'
 ·rw [List.append_nil,hsp,hvars]
  rfl
 ·exact ok_one hres rfl (okWide_bool_mk hbool _)
end Go.Proofs.YtcfingekgbbclaaGreatDoor.E
