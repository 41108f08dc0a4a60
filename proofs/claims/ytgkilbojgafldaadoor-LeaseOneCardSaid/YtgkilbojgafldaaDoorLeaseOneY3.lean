/-
  Words and walks for LeaseOne. No condition.
-/
import Derived.Test.YtgkilbojgafldaaDoorRows
import Derived.Test.YtgkilbojgafldaaDoorLeaseOneX2
set_option linter.unusedSectionVars false
set_option linter.unnecessarySimpa false
set_option linter.unusedSimpArgs false
set_option linter.unusedVariables false
set_option maxRecDepth 100000
namespace Go.RX.L
open Go Go.RX Go.Proofs
def gl_four:List Int:= [0,498536548,997073096,651767980,1994146192,1802195444,1303535960,1342533948,3988292384,4027552580,3604390888,3412177804,2607071920,2262029012,2685067896,3183342108]
noncomputable def E:E7:=⟨Tryd.prog,fun f=>⟨f==6 || f==8 || f==9 || f==10 || f==11 || f==15 || f==17 || f==22 || f==23 || f==24 || f==30 || f==31 || f==32 || f==41 || f==50 || f==61 || f==62 || f==72 || f==74 || f==76 || f==77 || f==83 || f==84,f==8 || f==9 || f==10 || f==11 || f==16 || f==17 || f==18 || f==19 || f==22 || f==23 || f==24 || f==29 || f==30 || f==31 || f==32 || f==38 || f==39 || f==40 || f==41 || f==42 || f==50 || f==51 || f==53 || f==61 || f==62 || f==66 || f==76 || f==77 || f==84,f==65,f==8 || f==32 || f==38 || f==39 || f==40 || f==42⟩,fun g=>bif g==0 then .iptr 1 (List.map (d7 .u32) gl_four) 0 0 else .undef⟩
theorem hm:E.P.follows .mixedOrders=true:=Tryd.checked.mixed
instance:Mix E:=⟨hm⟩
structure q6 where
 A_:Int
 Who:Int
 What:Int
 To:Int
def q6.enc (x:q6):List D:= [D.int .u8 x.A_,D.int .i64 x.Who,D.int .i64 x.What,D.int .i64 x.To]
def q6.l (x:q6) (r:List D):List D:=D.int .u8 x.A_::D.int .i64 x.Who::D.int .i64 x.What::D.int .i64 x.To::r
def q6.Ok (x:q6):Prop:=n9 .u8 x.A_∧n9 .i64 x.Who∧n9 .i64 x.What∧n9 .i64 x.To
structure f0 where
 F_:Int
 Deciders:Int
 Targets:Int
 Routers:Int
 Observers:Int
 Tiers:List Int
 Every:Int
 Wait:Int
 Rise:Int
 Fall:Int
 Fresh:Int
 L_:Int
 M_:Int
 Dwell:Int
 D_:Int
 W_:Int
 B_:Int
 Hit:Int
 Suppress:Int
 Reuse:Int
 Half:Int
 First:Int
 Step:Int
 StepTime:Int
 S_:Int
 Cap:Int
 Span:Int
 Room:Int
 Tries:Int
 Retry:Int
def f0.enc (x:f0):List D:= [D.int .i64 x.F_,D.int .i64 x.Deciders,D.int .i64 x.Targets,D.int .i64 x.Routers,D.int .i64 x.Observers,D.sl false 1 (List.map (d7 .i64) x.Tiers),D.int .i64 x.Every,D.int .i64 x.Wait,D.int .i64 x.Rise,D.int .i64 x.Fall,D.int .i64 x.Fresh,D.int .i64 x.L_,D.int .i64 x.M_,D.int .i64 x.Dwell,D.int .i64 x.D_,D.int .i64 x.W_,D.int .i64 x.B_,D.int .i64 x.Hit,D.int .i64 x.Suppress,D.int .i64 x.Reuse,D.int .i64 x.Half,D.int .i64 x.First,D.int .i64 x.Step,D.int .i64 x.StepTime,D.int .i64 x.S_,D.int .i64 x.Cap,D.int .i64 x.Span,D.int .i64 x.Room,D.int .i64 x.Tries,D.int .i64 x.Retry]
def f0.encL (x:f0) (r:List D):List D:=D.int .i64 x.F_::D.int .i64 x.Deciders::D.int .i64 x.Targets::D.int .i64 x.Routers::D.int .i64 x.Observers::D.sl false 1 (List.map (d7 .i64) x.Tiers)::D.int .i64 x.Every::D.int .i64 x.Wait::D.int .i64 x.Rise::D.int .i64 x.Fall::D.int .i64 x.Fresh::D.int .i64 x.L_::D.int .i64 x.M_::D.int .i64 x.Dwell::D.int .i64 x.D_::D.int .i64 x.W_::D.int .i64 x.B_::D.int .i64 x.Hit::D.int .i64 x.Suppress::D.int .i64 x.Reuse::D.int .i64 x.Half::D.int .i64 x.First::D.int .i64 x.Step::D.int .i64 x.StepTime::D.int .i64 x.S_::D.int .i64 x.Cap::D.int .i64 x.Span::D.int .i64 x.Room::D.int .i64 x.Tries::D.int .i64 x.Retry::r
def i9 (n:Nat) (l:List (List D)):D:=.msl n 0 l.length l.length false
def f0.l (x:f0) (r:List D):List D:=D.int .i64 x.F_::D.int .i64 x.Deciders::D.int .i64 x.Targets::D.int .i64 x.Routers::D.int .i64 x.Observers::D.sl false 1 (List.map (d7 .i64) x.Tiers)::D.int .i64 x.Every::D.int .i64 x.Wait::D.int .i64 x.Rise::D.int .i64 x.Fall::D.int .i64 x.Fresh::D.int .i64 x.L_::D.int .i64 x.M_::D.int .i64 x.Dwell::D.int .i64 x.D_::D.int .i64 x.W_::D.int .i64 x.B_::D.int .i64 x.Hit::D.int .i64 x.Suppress::D.int .i64 x.Reuse::D.int .i64 x.Half::D.int .i64 x.First::D.int .i64 x.Step::D.int .i64 x.StepTime::D.int .i64 x.S_::D.int .i64 x.Cap::D.int .i64 x.Span::D.int .i64 x.Room::D.int .i64 x.Tries::D.int .i64 x.Retry::r
def f0.Ok (x:f0):Prop:=n9 .i64 x.F_∧n9 .i64 x.Deciders∧n9 .i64 x.Targets∧n9 .i64 x.Routers∧n9 .i64 x.Observers∧(x.Tiers.length*8≤reachBytes∧∀y∈x.Tiers,n9 .i64 y)∧n9 .i64 x.Every∧n9 .i64 x.Wait∧n9 .i64 x.Rise∧n9 .i64 x.Fall∧n9 .i64 x.Fresh∧n9 .i64 x.L_∧n9 .i64 x.M_∧n9 .i64 x.Dwell∧n9 .i64 x.D_∧n9 .i64 x.W_∧n9 .i64 x.B_∧n9 .i64 x.Hit∧n9 .i64 x.Suppress∧n9 .i64 x.Reuse∧n9 .i64 x.Half∧n9 .i64 x.First∧n9 .i64 x.Step∧n9 .i64 x.StepTime∧n9 .i64 x.S_∧n9 .i64 x.Cap∧n9 .i64 x.Span∧n9 .i64 x.Room∧n9 .i64 x.Tries∧n9 .i64 x.Retry
structure l6 where
 Epoch:Int
 Nonce:Int
 Grants:Int
 Until:Int
def l6.enc (x:l6):List D:= [D.int .i64 x.Epoch,D.int .i64 x.Nonce,D.int .u64 x.Grants,D.int .i64 x.Until]
def l6.l (x:l6) (r:List D):List D:=D.int .i64 x.Epoch::D.int .i64 x.Nonce::D.int .u64 x.Grants::D.int .i64 x.Until::r
def l6.Ok (x:l6):Prop:=n9 .i64 x.Epoch∧n9 .i64 x.Nonce∧n9 .u64 x.Grants∧n9 .i64 x.Until
structure Plan where
 Epoch:Int
 Target:Int
 Prev:Int
 Spill:Int
 Percent:Int
 Stamp:Int
 Since:Int
 Ramped:Int
 Up:Int
 Sup:Int
 Pen:List Int
 Changes:List Int
def Plan.enc (x:Plan):List D:= [D.int .i64 x.Epoch,D.int .i64 x.Target,D.int .i64 x.Prev,D.int .i64 x.Spill,D.int .i64 x.Percent,D.int .i64 x.Stamp,D.int .i64 x.Since,D.int .i64 x.Ramped,D.int .u64 x.Up,D.int .u64 x.Sup,D.sl false 1 (List.map (d7 .i64) x.Pen),D.sl false 1 (List.map (d7 .i64) x.Changes)]
def Plan.encL (x:Plan) (r:List D):List D:=D.int .i64 x.Epoch::D.int .i64 x.Target::D.int .i64 x.Prev::D.int .i64 x.Spill::D.int .i64 x.Percent::D.int .i64 x.Stamp::D.int .i64 x.Since::D.int .i64 x.Ramped::D.int .u64 x.Up::D.int .u64 x.Sup::D.sl false 1 (List.map (d7 .i64) x.Pen)::D.sl false 1 (List.map (d7 .i64) x.Changes)::r
def Plan.l (x:Plan) (r:List D):List D:=D.int .i64 x.Epoch::D.int .i64 x.Target::D.int .i64 x.Prev::D.int .i64 x.Spill::D.int .i64 x.Percent::D.int .i64 x.Stamp::D.int .i64 x.Since::D.int .i64 x.Ramped::D.int .u64 x.Up::D.int .u64 x.Sup::D.sl false 1 (List.map (d7 .i64) x.Pen)::D.sl false 1 (List.map (d7 .i64) x.Changes)::r
def Plan.Ok (x:Plan):Prop:=n9 .i64 x.Epoch∧n9 .i64 x.Target∧n9 .i64 x.Prev∧n9 .i64 x.Spill∧n9 .i64 x.Percent∧n9 .i64 x.Stamp∧n9 .i64 x.Since∧n9 .i64 x.Ramped∧n9 .u64 x.Up∧n9 .u64 x.Sup∧(x.Pen.length*8≤reachBytes∧∀y∈x.Pen,n9 .i64 y)∧(x.Changes.length*8≤reachBytes∧∀y∈x.Changes,n9 .i64 y)
structure i5 where
 Kind:Int
 From:Int
 To:Int
 Epoch:Int
 Ballot:Int
 Accepted:Int
 Nonce:Int
 Time:Int
 Up:Int
 Code:Int
 HasPlan:Bool
 Plan:Plan
 ID:List Int
 Session:List Int
 Payload:List Int
def i5.enc (x:i5):List D:= [D.int .i64 x.Kind,D.int .i64 x.From,D.int .i64 x.To,D.int .i64 x.Epoch,D.int .i64 x.Ballot,D.int .i64 x.Accepted,D.int .i64 x.Nonce,D.int .i64 x.Time,D.int .u64 x.Up,D.int .i64 x.Code,D.bool x.HasPlan,D.int .i64 x.Plan.Epoch,D.int .i64 x.Plan.Target,D.int .i64 x.Plan.Prev,D.int .i64 x.Plan.Spill,D.int .i64 x.Plan.Percent,D.int .i64 x.Plan.Stamp,D.int .i64 x.Plan.Since,D.int .i64 x.Plan.Ramped,D.int .u64 x.Plan.Up,D.int .u64 x.Plan.Sup,D.sl false 1 (List.map (d7 .i64) x.Plan.Pen),D.sl false 1 (List.map (d7 .i64) x.Plan.Changes),D.sl false 1 (List.map (d7 .i64) x.ID),D.sl false 1 (List.map (d7 .u8) x.Session),D.sl false 1 (List.map (d7 .u8) x.Payload)]
def i5.l (x:i5) (r:List D):List D:=D.int .i64 x.Kind::D.int .i64 x.From::D.int .i64 x.To::D.int .i64 x.Epoch::D.int .i64 x.Ballot::D.int .i64 x.Accepted::D.int .i64 x.Nonce::D.int .i64 x.Time::D.int .u64 x.Up::D.int .i64 x.Code::D.bool x.HasPlan::D.int .i64 x.Plan.Epoch::D.int .i64 x.Plan.Target::D.int .i64 x.Plan.Prev::D.int .i64 x.Plan.Spill::D.int .i64 x.Plan.Percent::D.int .i64 x.Plan.Stamp::D.int .i64 x.Plan.Since::D.int .i64 x.Plan.Ramped::D.int .u64 x.Plan.Up::D.int .u64 x.Plan.Sup::D.sl false 1 (List.map (d7 .i64) x.Plan.Pen)::D.sl false 1 (List.map (d7 .i64) x.Plan.Changes)::D.sl false 1 (List.map (d7 .i64) x.ID)::D.sl false 1 (List.map (d7 .u8) x.Session)::D.sl false 1 (List.map (d7 .u8) x.Payload)::r
def i5.Ok (x:i5):Prop:=n9 .i64 x.Kind∧n9 .i64 x.From∧n9 .i64 x.To∧n9 .i64 x.Epoch∧n9 .i64 x.Ballot∧n9 .i64 x.Accepted∧n9 .i64 x.Nonce∧n9 .i64 x.Time∧n9 .u64 x.Up∧n9 .i64 x.Code∧True∧x.Plan.Ok∧(x.ID.length*8≤reachBytes∧∀y∈x.ID,n9 .i64 y)∧(x.Session.length*1≤reachBytes∧∀y∈x.Session,n9 .u8 y)∧(x.Payload.length*1≤reachBytes∧∀y∈x.Payload,n9 .u8 y)
structure o6 where
 low:Int
 high:Int
 at_:Int
def o6.enc (x:o6):List D:= [D.int .i64 x.low,D.int .i64 x.high,D.int .i64 x.at_]
def o6.l (x:o6) (r:List D):List D:=D.int .i64 x.low::D.int .i64 x.high::D.int .i64 x.at_::r
def o6.Ok (x:o6):Prop:=n9 .i64 x.low∧n9 .i64 x.high∧n9 .i64 x.at_
structure q7 where
 is_:Bool
 who:Int
 at_:Int
def q7.enc (x:q7):List D:= [D.bool x.is_,D.int .i64 x.who,D.int .i64 x.at_]
def q7.l (x:q7) (r:List D):List D:=D.bool x.is_::D.int .i64 x.who::D.int .i64 x.at_::r
def q7.Ok (x:q7):Prop:=True∧n9 .i64 x.who∧n9 .i64 x.at_
structure i0 where
 epoch:Int
 known:Plan
 promised:Int
 accepted:Int
 plan:Plan
 writes:o6
 wish:Int
 wishAt:Int
 lead:q7
def i0.enc (x:i0):List D:= [D.int .i64 x.epoch,D.int .i64 x.known.Epoch,D.int .i64 x.known.Target,D.int .i64 x.known.Prev,D.int .i64 x.known.Spill,D.int .i64 x.known.Percent,D.int .i64 x.known.Stamp,D.int .i64 x.known.Since,D.int .i64 x.known.Ramped,D.int .u64 x.known.Up,D.int .u64 x.known.Sup,D.sl false 1 (List.map (d7 .i64) x.known.Pen),D.sl false 1 (List.map (d7 .i64) x.known.Changes),D.int .i64 x.promised,D.int .i64 x.accepted,D.int .i64 x.plan.Epoch,D.int .i64 x.plan.Target,D.int .i64 x.plan.Prev,D.int .i64 x.plan.Spill,D.int .i64 x.plan.Percent,D.int .i64 x.plan.Stamp,D.int .i64 x.plan.Since,D.int .i64 x.plan.Ramped,D.int .u64 x.plan.Up,D.int .u64 x.plan.Sup,D.sl false 1 (List.map (d7 .i64) x.plan.Pen),D.sl false 1 (List.map (d7 .i64) x.plan.Changes),D.int .i64 x.writes.low,D.int .i64 x.writes.high,D.int .i64 x.writes.at_,D.int .i64 x.wish,D.int .i64 x.wishAt,D.bool x.lead.is_,D.int .i64 x.lead.who,D.int .i64 x.lead.at_]
def i0.l (x:i0) (r:List D):List D:=D.int .i64 x.epoch::D.int .i64 x.known.Epoch::D.int .i64 x.known.Target::D.int .i64 x.known.Prev::D.int .i64 x.known.Spill::D.int .i64 x.known.Percent::D.int .i64 x.known.Stamp::D.int .i64 x.known.Since::D.int .i64 x.known.Ramped::D.int .u64 x.known.Up::D.int .u64 x.known.Sup::D.sl false 1 (List.map (d7 .i64) x.known.Pen)::D.sl false 1 (List.map (d7 .i64) x.known.Changes)::D.int .i64 x.promised::D.int .i64 x.accepted::D.int .i64 x.plan.Epoch::D.int .i64 x.plan.Target::D.int .i64 x.plan.Prev::D.int .i64 x.plan.Spill::D.int .i64 x.plan.Percent::D.int .i64 x.plan.Stamp::D.int .i64 x.plan.Since::D.int .i64 x.plan.Ramped::D.int .u64 x.plan.Up::D.int .u64 x.plan.Sup::D.sl false 1 (List.map (d7 .i64) x.plan.Pen)::D.sl false 1 (List.map (d7 .i64) x.plan.Changes)::D.int .i64 x.writes.low::D.int .i64 x.writes.high::D.int .i64 x.writes.at_::D.int .i64 x.wish::D.int .i64 x.wishAt::D.bool x.lead.is_::D.int .i64 x.lead.who::D.int .i64 x.lead.at_::r
def i0.Ok (x:i0):Prop:=n9 .i64 x.epoch∧x.known.Ok∧n9 .i64 x.promised∧n9 .i64 x.accepted∧x.plan.Ok∧x.writes.Ok∧n9 .i64 x.wish∧n9 .i64 x.wishAt∧x.lead.Ok
structure W5 where
 kind:Int
 body:List Int
def W5.enc (x:W5):List D:= [D.int .u8 x.kind,D.sl false 1 (List.map (d7 .u8) x.body)]
def W5.Ok (x:W5):Prop:=n9 .u8 x.kind∧(x.body.length*1≤reachBytes∧∀y∈x.body,n9 .u8 y)
structure aI3 where
 at_:Int
 e:Int
def aI3.enc (x:aI3):List D:= [D.int .i64 x.at_,D.int .i64 x.e]
def aI3.Ok (x:aI3):Prop:=n9 .i64 x.at_∧n9 .i64 x.e
structure n5 where
 place:aI3
 b:List Int
def n5.enc (x:n5):List D:= [D.int .i64 x.place.at_,D.int .i64 x.place.e,D.sl false 1 (List.map (d7 .u8) x.b)]
def n5.l (x:n5) (r:List D):List D:=D.int .i64 x.place.at_::D.int .i64 x.place.e::D.sl false 1 (List.map (d7 .u8) x.b)::r
def n5.Ok (x:n5):Prop:=x.place.Ok∧(x.b.length*1≤reachBytes∧∀y∈x.b,n9 .u8 y)
structure q9 where
 synced:List Int
 tail:List Int
 fuse:Int
 down:Bool
def q9.enc (x:q9):List D:= [D.sl false 1 (List.map (d7 .u8) x.synced),D.sl false 1 (List.map (d7 .u8) x.tail),D.int .i64 x.fuse,D.bool x.down]
def q9.l (x:q9) (r:List D):List D:=D.sl false 1 (List.map (d7 .u8) x.synced)::D.sl false 1 (List.map (d7 .u8) x.tail)::D.int .i64 x.fuse::D.bool x.down::r
def q9.Ok (x:q9):Prop:=(x.synced.length*1≤reachBytes∧∀y∈x.synced,n9 .u8 y)∧(x.tail.length*1≤reachBytes∧∀y∈x.tail,n9 .u8 y)∧n9 .i64 x.fuse∧True
end Go.RX.L

set_option maxHeartbeats 4000000
namespace Go.RX.L
open Go Go.RX Go.Proofs
attribute [local irreducible] i6
noncomputable def G1:=r4 (r9 Tryd.f81)
noncomputable def bH8 (y:Int×Int×Int):D×i4:=(.tup [.int .i64 y.1,.int .i64 y.2.1,.int .i64 y.2.2],[])
inductive ab8 where
 | s0 (b:List Int) (at_:Int)
 | s1 (b:List Int) (at_:Int) (T1:Bool)
 | s2 (at_ u ah5:Int) (T2:List Int) (N7 F2:Int)
 | s4 (at_ u:Int) (ah5 i c:Int) (T2:List Int) (N7 F2:Int) (R9:Bool)
 | s3 (at_ u:Int) (ah5 i c:Int) (T2:List Int) (N7 F2:Int) (R9:Bool)
noncomputable def bH6:ab8→M
 | .s0 b at_=>J0 Tryd.f81 [.sl false 1 (List.map (d7 .u8) b),.int .i64 at_] []
 | .s1 b at_ T1=>⟨[.code (G1 [1,0,0,1]),.code (G1 [1,0,1]),.sc],[(0,.sl false 1 (List.map (d7 .u8) b)),(1,.int .i64 at_),(19,.bool T1)],[]⟩
 | .s2 at_ u ah5 T2 N7 F2=>⟨[.lpc (G1 [1,0,1,1,1,1,0,1,0,0]) 29361026,.blk 0,.code (G1 [1,0,1,1,1,1,1]),.sc],[(1,.int .i64 at_),(7,.int .i64 11),(8,.int .u64 u),(9,.int .i64 ah5),(22,.sl false 1 (List.map (d7 .u8) T2)),(23,.int .i64 N7),(24,.int .i64 F2)],[]⟩
 | .s4 at_ u ah5 i c T2 N7 F2 R9=>⟨[.code (G1 [1,0,1,1,1,1,0,1,0,0,1,1,0,0,1,1,0,0,0,1]),.code (G1 [1,0,1,1,1,1,0,1,0,0,1,1,0,0,1,1,0,0,1]),.blk 2,.code (G1 [1,0,1,1,1,1,0,1,0,0,1,1,0,0,1,1,1]),.blk 1,.code (G1 [1,0,1,1,1,1,0,1,0,0,1,1,1]),.lp (G1 [1,0,1,1,1,1,0,1,0,0]) 29361026,.blk 0,.code (G1 [1,0,1,1,1,1,1]),.sc],[(1,.int .i64 at_),(7,.int .i64 11),(8,.int .u64 u),(9,.int .i64 ah5),(10,.int .i64 i),(11,.int .u8 c),(22,.sl false 1 (List.map (d7 .u8) T2)),(23,.int .i64 N7),(24,.int .i64 F2),(36,.bool R9)],[]⟩
 | .s3 at_ u ah5 i c T2 N7 F2 R9=>⟨[.code (G1 [1,0,1,1,1,1,0,1,0,0,1,1,0,0,1,1,0,0,1]),.blk 2,.code (G1 [1,0,1,1,1,1,0,1,0,0,1,1,0,0,1,1,1]),.blk 1,.code (G1 [1,0,1,1,1,1,0,1,0,0,1,1,1]),.lp (G1 [1,0,1,1,1,1,0,1,0,0]) 29361026,.blk 0,.code (G1 [1,0,1,1,1,1,1]),.sc],[(1,.int .i64 at_),(7,.int .i64 11),(8,.int .u64 u),(9,.int .i64 ah5),(10,.int .i64 i),(11,.int .u8 c),(22,.sl false 1 (List.map (d7 .u8) T2)),(23,.int .i64 N7),(24,.int .i64 F2),(36,.bool R9)],[]⟩
abbrev az7:=SOk E (Cx.of Tryd.f81 false 0) bH8 bH6
noncomputable def aN1 (b:List Int) (at_:Int):Option (ab8⊕(Int×Int×Int)):=(bif (decide (at_<0)) then (some (.inl (.s1 b at_ true))) else (some (.inl (.s1 b at_ (decide (at_>(((List.map (d7 .u8) b).length:Nat):Int)))))))
noncomputable def aL5 (b:List Int) (at_:Int) (T1:Bool):Option (ab8⊕(Int×Int×Int)):=(bif T1 then (some (.inr (0,0,1))) else (bif ((decide (((0:Nat):Int)≤at_))&&(decide (at_≤(((List.map (d7 .u8) b).length:Nat):Int)))) then (some (.inl (.s2 at_ 0 0 (List.drop at_.toNat (List.take ((List.map (d7 .u8) b).length) b)) (((List.map (d7 .u8) (List.drop at_.toNat (List.take ((List.map (d7 .u8) b).length) b))).length:Nat):Int) 0))) else none))
noncomputable def ay7 (at_ u ah5:Int) (T2:List Int) (N7 F2:Int):Option (ab8⊕(Int×Int×Int)):=(bif (decide (F2<N7)) then (bif ((decide ((0:Int)≤F2))&&(decide (F2<(((List.map (d7 .u8) T2).length:Nat):Int)))) then (((T2)[F2.toNat]?).bind fun y3=>(bif (!decide (ah5<0)) then (bif (ah5==63) then (some (.inl (.s4 at_ (orI .u64 u (Y7 .u64 (IntKind.u64.wrap ((k9 .u8 y3 127))) ah5)) ah5 F2 y3 T2 N7 F2 (decide (y3>1))))) else (some (.inl (.s4 at_ (orI .u64 u (Y7 .u64 (IntKind.u64.wrap ((k9 .u8 y3 127))) ah5)) ah5 F2 y3 T2 N7 F2 false)))) else none)) else none) else (some (.inr (0,0,11))))
noncomputable def aj5 (at_ u:Int) (ah5 i c:Int) (T2:List Int) (N7 F2:Int) (R9:Bool):Option (ab8⊕(Int×Int×Int)):=(bif R9 then (some (.inl (.s3 at_ u ah5 i c T2 N7 F2 R9))) else (bif (c==0) then (some (.inl (.s3 at_ u ah5 i c T2 N7 F2 (decide (i>0))))) else (some (.inl (.s3 at_ u ah5 i c T2 N7 F2 false)))))
noncomputable def aq5 (at_ u:Int) (ah5 i c:Int) (T2:List Int) (N7 F2:Int) (R9:Bool):Option (ab8⊕(Int×Int×Int)):=(bif R9 then (some (.inr (0,0,12))) else (bif (decide (c<128)) then (some (.inr ((L0 .i64 (IntKind.i64.wrap ((n6 .u64 u 1))) (IntKind.i64.wrap ((0:Int)-(IntKind.i64.wrap ((k9 .u64 u 1)))))),(IntKind.i64.wrap ((IntKind.i64.wrap (at_+i))+1)),0))) else (some (.inl (.s2 at_ u (IntKind.i64.wrap (ah5+7)) T2 N7 (IntKind.i64.wrap (F2+1)))))))
noncomputable def B5:ab8→Option (ab8⊕(Int×Int×Int))
 | .s0 b at_=>aN1 b at_
 | .s1 b at_ T1=>aL5 b at_ T1
 | .s2 at_ u ah5 T2 N7 F2=>ay7 at_ u ah5 T2 N7 F2
 | .s4 at_ u ah5 i c T2 N7 F2 R9=>aj5 at_ u ah5 i c T2 N7 F2 R9
 | .s3 at_ u ah5 i c T2 N7 F2 R9=>aq5 at_ u ah5 i c T2 N7 F2 R9
theorem bV6 {b at_}:az7 (.s0 b at_) (aN1 b at_):=by
 intro r x h ha;unfold aN1 at h
 refine zs 14 h (fun h=> ?_) fun h=> ?_
 ·
  exact zk 9 h ha
 exact zk 9 h ha
theorem bX7 {b at_ T1}:az7 (.s1 b at_ T1) (aL5 b at_ T1):=by
 intro r x h ha;unfold aL5 at h
 refine zs 1 h (fun h=> ?_) fun h=> ?_
 ·
  exact zt 7 h ha
 refine zn 18 h fun h=> ?_
 refine zw 0 (a:=(List.drop at_.toNat (List.take ((List.map (d7 .u8) b).length) (List.map (d7 .u8) b)))) (b:=(List.map (d7 .u8) (List.drop at_.toNat (List.take ((List.map (d7 .u8) b).length) b)))) (bA9 _ _ _ _) ?_
 exact zj 6 h ha
theorem bX2 {at_ u ah5 T2 N7 F2}:az7 (.s2 at_ u ah5 T2 N7 F2) (ay7 at_ u ah5 T2 N7 F2):=by
 intro r x h ha;unfold ay7 at h
 refine zs 7 h (fun h=> ?_) fun h=> ?_
 ·
  refine zn 7 h fun h=> ?_
  refine zr 1 (d7 .u8) h fun y3 h=> ?_
  refine zn 11 h fun h=> ?_
  refine zs 12 h (fun h=> ?_) fun h=> ?_
  ·
   exact zk 6 h ha
  exact zk 6 h ha
 exact zt 9 h ha
theorem bW4 {at_ u ah5 i c T2 N7 F2 R9}:az7 (.s4 at_ u ah5 i c T2 N7 F2 R9) (aj5 at_ u ah5 i c T2 N7 F2 R9):=by
 intro r x h ha;unfold aj5 at h
 refine zs 1 h (fun h=> ?_) fun h=> ?_
 ·
  exact zk 1 h ha
 refine zs 5 h (fun h=> ?_) fun h=> ?_
 ·
  exact zk 6 h ha
 exact zk 6 h ha
theorem bW1 {at_ u ah5 i c T2 N7 F2 R9}:az7 (.s3 at_ u ah5 i c T2 N7 F2 R9) (aq5 at_ u ah5 i c T2 N7 F2 R9):=by
 intro r x h ha;unfold aq5 at h
 refine zs 1 h (fun h=> ?_) fun h=> ?_
 ·
  exact zt 13 h ha
 refine zs 7 h (fun h=> ?_) fun h=> ?_
 ·
  exact zt 20 h ha
 exact zj 13 h ha
noncomputable def bg2 (b:List Int) (at_:Int):Option (Int×Int×Int):=evf B5 (.s0 b at_)
theorem bx8 {b:List Int}{at_:Int}{r:Int×Int×Int} (h:bg2 b at_=some r):l4 E 81 [.sl false 1 (List.map (d7 .u8) b),.int .i64 at_] [] (Rs bH8 r):=sc (fn:=Tryd.f81) (k:=false) (m:=0) (I6:=bH6) h fun s=>by
 cases s with
 | s0=>exact bV6
 | s1=>exact bX7
 | s2=>exact bX2
 | s4=>exact bW4
 | s3=>exact bW1
noncomputable def bo0:=r4 (r9 Tryd.f80)
noncomputable def bl1 (y:Int×Int×Int):D×i4:=(.tup [.int .i64 y.1,.int .i64 y.2.1,.int .i64 y.2.2],[])
abbrev cg5:=AOk E (Cx.of Tryd.f80 false 0) bl1
noncomputable def bV2 (n next:Int) (N7:Bool):M:=⟨[.code (bo0 [1,1,0,0,1,1,1]),.blk 0,.code (bo0 [1,1,1])],[(9,.int .i64 n),(10,.int .i64 next),(23,.bool N7)],[]⟩
noncomputable def J4 (n next:Int) (N7:Bool):Option (Int×Int×Int):=(bif N7 then (some (0,0,2)) else (some (n,next,0)))
theorem aU3 {n next N7}:cg5 (bV2 n next N7) (J4 n next N7):=by
 intro r h;unfold J4 at h
 refine zs 1 h (fun h=> ?_) fun h=> ?_
 ·
  exact zu 7 h
 exact zu 11 h
noncomputable def G5 (b:List Int) (at_ cs8:Int):Option (Int×Int×Int):=((bg2 b at_).bind fun y1=>(bif ((y1.2.2:Int) !=0) then (some (0,0,y1.2.2)) else (bif (decide ((y1.1:Int)<0)) then (J4 y1.1 y1.2.1 (decide ((y1.1:Int)<0))) else (J4 y1.1 y1.2.1 (decide ((y1.1:Int)>cs8))))))
theorem bi6 {b:List Int}{at_ cs8:Int}{r:Int×Int×Int} (h:G5 b at_ cs8=some r):l4 E 80 [.sl false 1 (List.map (d7 .u8) b),.int .i64 at_,.int .i64 cs8] [] (Rs bl1 r):=so (fn:=Tryd.f80) (k:=false) (m:=0) h<| by
 intro r h;unfold G5 at h
 refine zc 11 [] h (fun _=>bx8) fun y1 h=> ?_
 refine zs 17 h (fun h=> ?_) fun h=> ?_
 ·
  exact zu 8 h
 refine zs 8 h (fun h=> ?_) fun h=> ?_
 ·
  exact zg 1 (aU3 h)
 exact zg 6 (aU3 h)
noncomputable def ad0:=r4 (r9 Tryd.f67)
noncomputable def bw1 (y:(List Int)×Int×Int):D×i4:=(.tup [.sl false 1 (List.map (d7 .i64) y.1),.int .i64 y.2.1,.int .i64 y.2.2],[])
inductive ak8 where
 | s0 (b:List Int) (at_:Int)
 | s1 (b:List Int) (next e:Int) (T1 t20:Int) (m9:List Int)
 | s2 (next e:Int) (m9:List Int)
noncomputable def by1:ak8→M
 | .s0 b at_=>J0 Tryd.f67 [.sl false 1 (List.map (d7 .u8) b),.int .i64 at_] []
 | .s1 b next e T1 t20 m9=>⟨[.lpc (ad0 [1,1,1,0,1,0,0]) 1574657,.blk 0,.code (ad0 [1,1,1,1])],[(0,.sl false 1 (List.map (d7 .u8) b)),(8,.int .i64 next),(9,.int .i64 e),(10,(i9 0 (List.map (d7 .i64) m9))),(19,.int .i64 T1),(20,.int .i64 t20)],[some ⟨1,false,(List.map (d7 .i64) m9)⟩]⟩
 | .s2 next e m9=>⟨[.code (ad0 [1,1,1,1])],[(8,.int .i64 next),(9,.int .i64 e),(10,(i9 0 (List.map (d7 .i64) m9)))],[some ⟨1,false,(List.map (d7 .i64) m9)⟩]⟩
abbrev aX0:=SOk E (Cx.of Tryd.f67 false 0) bw1 by1
noncomputable def aF6 (b:List Int) (at_:Int):Option (ak8⊕((List Int)×Int×Int)):=((G5 b at_ 64).bind fun y1=>(some (.inl (.s1 b y1.2.1 y1.2.2 y1.1 0 ([])))))
noncomputable def ad5 (b:List Int) (next e:Int) (T1 t20:Int) (m9:List Int):Option (ak8⊕((List Int)×Int×Int)):=(bif (decide (t20<T1)) then ((bg2 b next).bind fun y2=>(bif ((y2.2.2:Int) !=0) then (some (.inl (.s2 y2.2.1 y2.2.2 m9))) else (bif (decide (((List.map (d7 .i64) m9).length+1)*8≤n4)) then (some (.inl (.s1 b y2.2.1 y2.2.2 T1 (IntKind.i64.wrap (t20+1)) (m9++ [y2.1])))) else none))) else (some (.inl (.s2 next e m9))))
noncomputable def ak5 (next e:Int) (m9:List Int):Option (ak8⊕((List Int)×Int×Int)):=(bif (e !=0) then (some (.inr ([],0,e))) else (some (.inr (m9,next,0))))
noncomputable def F5:ak8→Option (ak8⊕((List Int)×Int×Int))
 | .s0 b at_=>aF6 b at_
 | .s1 b next e T1 t20 m9=>ad5 b next e T1 t20 m9
 | .s2 next e m9=>ak5 next e m9
theorem bO8 {b at_}:aX0 (.s0 b at_) (aF6 b at_):=by
 intro r x h ha;unfold aF6 at h
 refine zc 11 [] h (fun _=>bi6) fun y1 h=> ?_
 refine o7 hm 21 _ ?_
 obtain rfl:=Option.some.inj h
 refine aL8 1574657 [.mat 10 1] (m' :=⟨[.lpc (ad0 [1,1,1,0,1,0,0]) 1574657,.blk 0,.code (ad0 [1,1,1,1])],[(0,.sl false 1 (List.map (d7 .u8) b)),(8,.int .i64 y1.2.1),(9,.int .i64 y1.2.2),(10,.msl 0 0 0 0 false),(19,.int .i64 y1.1),(20,.int .i64 0)],[some ⟨1,false,[]⟩]⟩) (by kernel_rfl) ?_
 refine aB1 (n1:=0) (n2:=(List.map (d7 .i64) ([])).length) (fun n_len=> .go ⟨[.lpc (ad0 [1,1,1,0,1,0,0]) 1574657,.blk 0,.code (ad0 [1,1,1,1])],[(0,.sl false 1 (List.map (d7 .u8) b)),(8,.int .i64 y1.2.1),(9,.int .i64 y1.2.2),(10,.msl 0 0 n_len n_len false),(19,.int .i64 y1.1),(20,.int .i64 0)],[some ⟨1,false,[]⟩]⟩) (by simp) ?_
 exact ha
theorem bN7 {b next e T1 t20 m9}:aX0 (.s1 b next e T1 t20 m9) (ad5 b next e T1 t20 m9):=by
 intro r x h ha;unfold ad5 at h
 refine zs 7 h (fun h=> ?_) fun h=> ?_
 ·
  refine zc 13 [] h (fun _=>bx8) fun y2 h=> ?_
  refine zs 14 h (fun h=> ?_) fun h=> ?_
  ·
   exact zk 1 h ha
  refine zn 7 h fun h=> ?_
  refine za 0 (d7 .i64) m9 ([y2.1]) ?_
  exact zj 8 h ha
 exact zk 1 h ha
theorem bP4 {next e m9}:aX0 (.s2 next e m9) (ak5 next e m9):=by
 intro r x h ha;unfold ak5 at h
 refine zs 7 h (fun h=> ?_) fun h=> ?_
 ·
  exact zt 8 h ha [.slot 0 [some 1]]
 refine zm 10 (b:=(Nat.ble (0+(List.map (d7 .i64) m9).length) ((List.map (d7 .i64) m9).length))) (C8 _) ?_
 obtain rfl:=Option.some.inj h
 have hv:=ha
 simp only[aG6] at hv
 subst hv
 exact aB5 [] (d1:=.tup [.sl false 1 (List.take ((List.map (d7 .i64) m9).length) (List.drop 0 (List.map (d7 .i64) m9))),.int .i64 next,.int .i64 0]) (d:=.tup [.sl false 1 (List.map (d7 .i64) m9),.int .i64 next,.int .i64 0]) (s1:= []) (s:= []) (by kernel_rfl) ⟨by simp[f0.enc,f0.l,l6.enc,l6.l,q9.enc,q9.l,i5.enc,i5.l,Plan.enc,Plan.l,q6.enc,q6.l,i0.enc,i0.l,q7.enc,q7.l,n5.enc,n5.l,o6.enc,o6.l,List.take_of_length_le,List.map_take,List.map_drop],rfl⟩ ⟨rfl,rfl⟩ Cx.fin_of
noncomputable def aw9 (b:List Int) (at_:Int):Option ((List Int)×Int×Int):=evf F5 (.s0 b at_)
theorem bo7 {b:List Int}{at_:Int}{r:(List Int)×Int×Int} (h:aw9 b at_=some r):l4 E 67 [.sl false 1 (List.map (d7 .u8) b),.int .i64 at_] [] (Rs bw1 r):=sc (fn:=Tryd.f67) (k:=false) (m:=0) (I6:=by1) h fun s=>by
 cases s with
 | s0=>exact bO8
 | s1=>exact bN7
 | s2=>exact bP4
noncomputable def bu7 (y:(List Int)×n5):D×i4:=(.sl false 1 (List.map (d7 .i64) y.1),[some ⟨3,false,[(n5.enc y.2)]⟩])
noncomputable def S6 (b0:n5):Option ((List Int)×n5):=(bif (b0.place.e !=0) then (some ([],b0)) else ((aw9 b0.b b0.place.at_).bind fun y2=>(some (y2.1,(⟨(⟨y2.2.1,y2.2.2⟩:aI3),b0.b⟩:n5)))))
theorem aH4 {b0:n5}{r:(List Int)×n5} (h:S6 b0=some r):l4 E 51 [.ptr 0 0 0] [some ⟨3,false,[(n5.enc b0)]⟩] (Rs bu7 r):=so (fn:=Tryd.f51) (k:=false) (m:=1) h<| by
 intro r h;unfold S6 at h
 refine zs 16 h (fun h=> ?_) fun h=> ?_
 ·
  exact zu 5 h [.slot 0 [some 1]]
 refine zd 9 [] h (fun _=>bo7) fun y2 h=> ?_
 exact zu 10 h
noncomputable def cj7 (y:(List Int)×Int×Int):D×i4:=(.tup [.sl false 1 (List.map (d7 .u8) y.1),.int .i64 y.2.1,.int .i64 y.2.2],[])
noncomputable def ab6 (b:List Int) (at_:Int):Option ((List Int)×Int×Int):=((G5 b at_ 4096).bind fun y1=>(bif ((y1.2.2:Int) !=0) then (some ([],0,y1.2.2)) else (bif (decide ((y1.1:Int)>(IntKind.i64.wrap ((((List.map (d7 .u8) b).length:Nat):Int)-y1.2.1)))) then (some ([],0,11)) else (bif ((decide (((0:Nat):Int)≤(IntKind.i64.wrap (y1.2.1+y1.1))))&&(decide (((IntKind.i64.wrap (y1.2.1+y1.1)):Int)≤(((List.map (d7 .u8) b).length:Nat):Int)))) then (bif ((decide (((0:Nat):Int)≤y1.2.1))&&(decide ((y1.2.1:Int)≤(((IntKind.i64.wrap (y1.2.1+y1.1)).toNat:Nat):Int)))) then (bif (decide (((List.map (d7 .u8) (List.drop y1.2.1.toNat (List.take ((IntKind.i64.wrap (y1.2.1+y1.1)).toNat) b))).length)*1≤n4)) then (some ((List.drop y1.2.1.toNat (List.take ((IntKind.i64.wrap (y1.2.1+y1.1)).toNat) b)),(IntKind.i64.wrap (y1.2.1+y1.1)),0)) else none) else none) else none))))
theorem cg9 {b:List Int}{at_:Int}{r:(List Int)×Int×Int} (h:ab6 b at_=some r):l4 E 68 [.sl false 1 (List.map (d7 .u8) b),.int .i64 at_] [] (Rs cj7 r):=so (fn:=Tryd.f68) (k:=false) (m:=0) h<| by
 intro r h;unfold ab6 at h
 refine zc 11 [] h (fun _=>bi6) fun y1 h=> ?_
 refine zs 17 h (fun h=> ?_) fun h=> ?_
 ·
  exact zu 8 h [.slot 0 [some 1]]
 refine zs 11 h (fun h=> ?_) fun h=> ?_
 ·
  exact zu 7 h [.slot 0 [some 1]]
 refine zn 10 h fun h=> ?_
 refine zn 0 h fun h=> ?_
 refine zw 0 (a:=(List.drop y1.2.1.toNat (List.take ((IntKind.i64.wrap (y1.2.1+y1.1)).toNat) (List.map (d7 .u8) b)))) (b:=(List.map (d7 .u8) (List.drop y1.2.1.toNat (List.take ((IntKind.i64.wrap (y1.2.1+y1.1)).toNat) b)))) (bA9 _ _ _ _) ?_
 refine zn 1 h fun h=> ?_
 refine zm 9 (b:=(Nat.ble (0+(List.map (d7 .u8) (List.drop y1.2.1.toNat (List.take ((IntKind.i64.wrap (y1.2.1+y1.1)).toNat) b))).length) ((List.map (d7 .u8) (List.drop y1.2.1.toNat (List.take ((IntKind.i64.wrap (y1.2.1+y1.1)).toNat) b))).length))) (C8 _) ?_
 obtain rfl:=Option.some.inj h
 exact aB5 [] (d1:=.tup [.sl false 1 (List.take ((List.map (d7 .u8) (List.drop y1.2.1.toNat (List.take ((IntKind.i64.wrap (y1.2.1+y1.1)).toNat) b))).length) (List.drop 0 (List.map (d7 .u8) (List.drop y1.2.1.toNat (List.take ((IntKind.i64.wrap (y1.2.1+y1.1)).toNat) b))))),.int .i64 (IntKind.i64.wrap (y1.2.1+y1.1)),.int .i64 0]) (d:=.tup [.sl false 1 (List.map (d7 .u8) (List.drop y1.2.1.toNat (List.take ((IntKind.i64.wrap (y1.2.1+y1.1)).toNat) b))),.int .i64 (IntKind.i64.wrap (y1.2.1+y1.1)),.int .i64 0]) (s1:= []) (s:= []) (by kernel_rfl) ⟨by simp[f0.enc,f0.l,l6.enc,l6.l,q9.enc,q9.l,i5.enc,i5.l,Plan.enc,Plan.l,q6.enc,q6.l,i0.enc,i0.l,q7.enc,q7.l,n5.enc,n5.l,o6.enc,o6.l,List.take_of_length_le,List.map_take,List.map_drop],rfl⟩ ⟨rfl,rfl⟩ Cx.fin_of
noncomputable def bu2 (y:(List Int)×n5):D×i4:=(.sl false 1 (List.map (d7 .u8) y.1),[some ⟨3,false,[(n5.enc y.2)]⟩])
noncomputable def F8 (b0:n5):Option ((List Int)×n5):=(bif (b0.place.e !=0) then (some ([],b0)) else ((ab6 b0.b b0.place.at_).bind fun y2=>(some (y2.1,(⟨(⟨y2.2.1,y2.2.2⟩:aI3),b0.b⟩:n5)))))
theorem an6 {b0:n5}{r:(List Int)×n5} (h:F8 b0=some r):l4 E 53 [.ptr 0 0 0] [some ⟨3,false,[(n5.enc b0)]⟩] (Rs bu2 r):=so (fn:=Tryd.f53) (k:=false) (m:=1) h<| by
 intro r h;unfold F8 at h
 refine zs 16 h (fun h=> ?_) fun h=> ?_
 ·
  exact zu 5 h [.slot 0 [some 1]]
 refine zd 9 [] h (fun _=>cg9) fun y2 h=> ?_
 exact zu 10 h
noncomputable def cb2 (y:Bool):D×i4:=(.bool y,[])
noncomputable def as2 (n t t2:Int):Option Bool:=(bif (decide (n<t)) then (some true) else (some (decide (n>t2))))
theorem bV9 {n t t2:Int}{r:Bool} (h:as2 n t t2=some r):l4 E 70 [.int .i64 n,.iptr 1 [[.int .i64 t]] 0 0,.iptr 1 [[.int .i64 t2]] 0 0] [] (Rs cb2 r):=so (fn:=Tryd.f70) (k:=false) (m:=0) h<| by
 intro r h;unfold as2 at h
 refine zs 12 h (fun h=> ?_) fun h=> ?_
 ·
  exact zu 9 h
 exact zu 10 h
noncomputable def am4:=r4 (r9 Tryd.f64)
noncomputable def am8 (y:Int):D×i4:=(.int .i64 y,[])
inductive I5 where
 | s0 (s_:List Int) (f f2:Int)
 | s1 (s_:List Int) (f f2:Int) (t7 t8:Int)
noncomputable def am1:I5→M
 | .s0 s_ f f2=>J0 Tryd.f64 [.sl false 1 (List.map (d7 .i64) s_),.fn 70 [] [.iptr 1 [[.int .i64 f]] 0 0,.iptr 1 [[.int .i64 f2]] 0 0]] []
 | .s1 s_ f f2 t7 t8=>⟨[.lpc (am4 [1,0,1,0,0]) 387,.blk 0,.code (am4 [1,1])],[(0,.sl false 1 (List.map (d7 .i64) s_)),(1,.fn 70 [] [.iptr 1 [[.int .i64 f]] 0 0,.iptr 1 [[.int .i64 f2]] 0 0]),(7,.int .i64 t7),(8,.int .i64 t8)],[]⟩
abbrev am0:=SOk E (Cx.of Tryd.f64 false 0) am8 am1
noncomputable def N4 (s_:List Int) (f f2:Int):Option (I5⊕Int):=(some (.inl (.s1 s_ f f2 (((List.map (d7 .i64) s_).length:Nat):Int) 0)))
noncomputable def E2 (s_:List Int) (f f2:Int) (t7 t8:Int):Option (I5⊕Int):=(bif (decide (t8<t7)) then (bif ((decide ((0:Int)≤t8))&&(decide (t8<(((List.map (d7 .i64) s_).length:Nat):Int)))) then (((s_)[t8.toNat]?).bind fun y3=>((as2 y3 f f2).bind fun y5=>(bif y5 then (some (.inr t8)) else (some (.inl (.s1 s_ f f2 t7 (IntKind.i64.wrap (t8+1)))))))) else none) else (some (.inr (-1))))
noncomputable def B3:I5→Option (I5⊕Int)
 | .s0 s_ f f2=>N4 s_ f f2
 | .s1 s_ f f2 t7 t8=>E2 s_ f f2 t7 t8
theorem aE4 {s_ f f2}:am0 (.s0 s_ f f2) (N4 s_ f f2):=by
 intro r x h ha;unfold N4 at h
 exact zj 14 h ha
theorem aE3 {s_ f f2 t7 t8}:am0 (.s1 s_ f f2 t7 t8) (E2 s_ f f2 t7 t8):=by
 intro r x h ha;unfold E2 at h
 refine zs 7 h (fun h=> ?_) fun h=> ?_
 ·
  refine zn 14 h fun h=> ?_
  refine zr 1 (d7 .i64) h fun y3 h=> ?_
  refine zc 1 [] h (fun _=>bV9) fun y5 h=> ?_
  refine zs 2 h (fun h=> ?_) fun h=> ?_
  ·
   exact zt 6 h ha
  exact zj 7 h ha
 exact zt 6 h ha
noncomputable def aa1 (s_:List Int) (f f2:Int):Option Int:=evf B3 (.s0 s_ f f2)
theorem aJ4 {s_:List Int}{f f2 r:Int} (h:aa1 s_ f f2=some r):l4 E 64 [.sl false 1 (List.map (d7 .i64) s_),.fn 70 [] [.iptr 1 [[.int .i64 f]] 0 0,.iptr 1 [[.int .i64 f2]] 0 0]] [] (Rs am8 r):=sc (fn:=Tryd.f64) (k:=false) (m:=0) (I6:=am1) h fun s=>by
 cases s with
 | s0=>exact aE4
 | s1=>exact aE3
noncomputable def aE9 (y:Bool):D×i4:=(.bool y,[])
noncomputable def M2 (s_:List Int) (f f2:Int):Option Bool:=((aa1 s_ f f2).bind fun y1=>(some (decide (y1≥0))))
theorem aB8 {s_:List Int}{f f2:Int}{r:Bool} (h:M2 s_ f f2=some r):l4 E 48 [.sl false 1 (List.map (d7 .i64) s_),.fn 70 [] [.iptr 1 [[.int .i64 f]] 0 0,.iptr 1 [[.int .i64 f2]] 0 0]] [] (Rs aE9 r):=so (fn:=Tryd.f48) (k:=false) (m:=0) h<| by
 intro r h;unfold M2 at h
 refine zc 9 [] h (fun _=>aJ4) fun y1 h=> ?_
 exact zu 4 h
noncomputable def cp4 (y:Bool):D×i4:=(.bool y,[])
noncomputable def aj4 (low ax1:Int) (l_:List Int):Option Bool:=((M2 l_ low ax1).bind fun y1=>(some (!y1)))
theorem at5 {low ax1:Int}{l_:List Int}{r:Bool} (h:aj4 low ax1 l_=some r):l4 E 55 [.int .i64 low,.int .i64 ax1,.sl false 1 (List.map (d7 .i64) l_)] [] (Rs cp4 r):=so (fn:=Tryd.f55) (k:=false) (m:=0) h<| by
 intro r h;unfold aj4 at h
 refine zc 11 [] h (fun _=>aB8) fun y1 h=> ?_
 exact zu 4 h
noncomputable def bJ6 (y:Bool):D×i4:=(.bool y,[])
noncomputable def aa3 (n t t2:Int):Option Bool:=(bif (decide (n<t)) then (some true) else (some (decide (n>t2))))
theorem bC4 {n t t2:Int}{r:Bool} (h:aa3 n t t2=some r):l4 E 69 [.int .i64 n,.iptr 1 [[.int .i64 t]] 0 0,.iptr 1 [[.int .i64 t2]] 0 0] [] (Rs bJ6 r):=so (fn:=Tryd.f69) (k:=false) (m:=0) h<| by
 intro r h;unfold aa3 at h
 refine zs 12 h (fun h=> ?_) fun h=> ?_
 ·
  exact zu 9 h
 exact zu 10 h
noncomputable def ag1:=r4 (r9 Tryd.f63)
noncomputable def ae4 (y:Int):D×i4:=(.int .i64 y,[])
inductive F6 where
 | s0 (s_:List Int) (f f2:Int)
 | s1 (s_:List Int) (f f2:Int) (t7 t8:Int)
noncomputable def ae9:F6→M
 | .s0 s_ f f2=>J0 Tryd.f63 [.sl false 1 (List.map (d7 .i64) s_),.fn 69 [] [.iptr 1 [[.int .i64 f]] 0 0,.iptr 1 [[.int .i64 f2]] 0 0]] []
 | .s1 s_ f f2 t7 t8=>⟨[.lpc (ag1 [1,0,1,0,0]) 387,.blk 0,.code (ag1 [1,1])],[(0,.sl false 1 (List.map (d7 .i64) s_)),(1,.fn 69 [] [.iptr 1 [[.int .i64 f]] 0 0,.iptr 1 [[.int .i64 f2]] 0 0]),(7,.int .i64 t7),(8,.int .i64 t8)],[]⟩
abbrev af1:=SOk E (Cx.of Tryd.f63 false 0) ae4 ae9
noncomputable def K3 (s_:List Int) (f f2:Int):Option (F6⊕Int):=(some (.inl (.s1 s_ f f2 (((List.map (d7 .i64) s_).length:Nat):Int) 0)))
noncomputable def A9 (s_:List Int) (f f2:Int) (t7 t8:Int):Option (F6⊕Int):=(bif (decide (t8<t7)) then (bif ((decide ((0:Int)≤t8))&&(decide (t8<(((List.map (d7 .i64) s_).length:Nat):Int)))) then (((s_)[t8.toNat]?).bind fun y3=>((aa3 y3 f f2).bind fun y5=>(bif y5 then (some (.inr t8)) else (some (.inl (.s1 s_ f f2 t7 (IntKind.i64.wrap (t8+1)))))))) else none) else (some (.inr (-1))))
noncomputable def x8:F6→Option (F6⊕Int)
 | .s0 s_ f f2=>K3 s_ f f2
 | .s1 s_ f f2 t7 t8=>A9 s_ f f2 t7 t8
theorem ax8 {s_ f f2}:af1 (.s0 s_ f f2) (K3 s_ f f2):=by
 intro r x h ha;unfold K3 at h
 exact zj 14 h ha
theorem ay0 {s_ f f2 t7 t8}:af1 (.s1 s_ f f2 t7 t8) (A9 s_ f f2 t7 t8):=by
 intro r x h ha;unfold A9 at h
 refine zs 7 h (fun h=> ?_) fun h=> ?_
 ·
  refine zn 14 h fun h=> ?_
  refine zr 1 (d7 .i64) h fun y3 h=> ?_
  refine zc 1 [] h (fun _=>bC4) fun y5 h=> ?_
  refine zs 2 h (fun h=> ?_) fun h=> ?_
  ·
   exact zt 6 h ha
  exact zj 7 h ha
 exact zt 6 h ha
noncomputable def T6 (s_:List Int) (f f2:Int):Option Int:=evf x8 (.s0 s_ f f2)
theorem aB9 {s_:List Int}{f f2 r:Int} (h:T6 s_ f f2=some r):l4 E 63 [.sl false 1 (List.map (d7 .i64) s_),.fn 69 [] [.iptr 1 [[.int .i64 f]] 0 0,.iptr 1 [[.int .i64 f2]] 0 0]] [] (Rs ae4 r):=sc (fn:=Tryd.f63) (k:=false) (m:=0) (I6:=ae9) h fun s=>by
 cases s with
 | s0=>exact ax8
 | s1=>exact ay0
noncomputable def ax9 (y:Bool):D×i4:=(.bool y,[])
noncomputable def I8 (s_:List Int) (f f2:Int):Option Bool:=((T6 s_ f f2).bind fun y1=>(some (decide (y1≥0))))
theorem av8 {s_:List Int}{f f2:Int}{r:Bool} (h:I8 s_ f f2=some r):l4 E 46 [.sl false 1 (List.map (d7 .i64) s_),.fn 69 [] [.iptr 1 [[.int .i64 f]] 0 0,.iptr 1 [[.int .i64 f2]] 0 0]] [] (Rs ax9 r):=so (fn:=Tryd.f46) (k:=false) (m:=0) h<| by
 intro r h;unfold I8 at h
 refine zc 9 [] h (fun _=>aB9) fun y1 h=> ?_
 exact zu 4 h
noncomputable def bW7 (y:Bool):D×i4:=(.bool y,[])
noncomputable def ad2 (low ax1:Int) (l_:List Int):Option Bool:=((I8 l_ low ax1).bind fun y1=>(some (!y1)))
theorem aC8 {low ax1:Int}{l_:List Int}{r:Bool} (h:ad2 low ax1 l_=some r):l4 E 54 [.int .i64 low,.int .i64 ax1,.sl false 1 (List.map (d7 .i64) l_)] [] (Rs bW7 r):=so (fn:=Tryd.f54) (k:=false) (m:=0) h<| by
 intro r h;unfold ad2 at h
 refine zc 11 [] h (fun _=>av8) fun y1 h=> ?_
 exact zu 4 h
noncomputable def cl6 (y:Bool):D×i4:=(.bool y,[])
noncomputable def aH3 (x_:Int):Option Bool:=(some (x_ !=x_))
theorem bk5 {x_:Int}{r:Bool} (h:aH3 x_=some r):l4 E 82 [.int .i64 x_] [] (Rs cl6 r):=so (fn:=Tryd.f82) (k:=false) (m:=0) h<| by
 intro r h;unfold aH3 at h
 exact zu 12 h
noncomputable def cq0 (y:Bool):D×i4:=(.bool y,[])
noncomputable def aR3 (x_ y_:Int):Option Bool:=((aH3 x_).bind fun y1=>(bif y1 then ((aH3 y_).bind fun y3=>(bif (!y3) then (some true) else (some (decide (x_<y_))))) else (some (decide (x_<y_)))))
theorem ck3 {x_ y_:Int}{r:Bool} (h:aR3 x_ y_=some r):l4 E 71 [.int .i64 x_,.int .i64 y_] [] (Rs cq0 r):=so (fn:=Tryd.f71) (k:=false) (m:=0) h<| by
 intro r h;unfold aR3 at h
 refine zc 8 [] h (fun _=>bk5) fun y1 h=> ?_
 refine zs 2 h (fun h=> ?_) fun h=> ?_
 ·
  refine zc 2 [] h (fun _=>bk5) fun y3 h=> ?_
  refine zs 6 h (fun h=> ?_) fun h=> ?_
  ·
   exact zu 9 h
  exact zu 9 h
 exact zu 18 h
noncomputable def aJ9:=r4 (r9 Tryd.f56)
noncomputable def aL1 (y:Bool):D×i4:=(.bool y,[])
inductive V4 where
 | s0 (x_:List Int)
 | s1 (x_:List Int) (i:Int)
noncomputable def aK2:V4→M
 | .s0 x_=>J0 Tryd.f56 [.sl false 1 (List.map (d7 .i64) x_)] []
 | .s1 x_ i=>⟨[.lpc (aJ9 [1,0,1,0,0]) 9,.blk 0,.code (aJ9 [1,1])],[(0,.sl false 1 (List.map (d7 .i64) x_)),(3,.int .i64 i)],[]⟩
abbrev aK8:=SOk E (Cx.of Tryd.f56 false 0) aL1 aK2
noncomputable def V5 (x_:List Int):Option (V4⊕Bool):=(some (.inl (.s1 x_ (IntKind.i64.wrap ((((List.map (d7 .i64) x_).length:Nat):Int)-1)))))
noncomputable def L4 (x_:List Int) (i:Int):Option (V4⊕Bool):=(bif (decide (i>0)) then (bif ((decide ((0:Int)≤i))&&(decide (i<(((List.map (d7 .i64) x_).length:Nat):Int)))) then (((x_)[i.toNat]?).bind fun y3=>(bif ((decide ((0:Int)≤(IntKind.i64.wrap (i-1))))&&(decide (((IntKind.i64.wrap (i-1)):Int)<(((List.map (d7 .i64) x_).length:Nat):Int)))) then (((x_)[(IntKind.i64.wrap (i-1)).toNat]?).bind fun y6=>((aR3 y3 y6).bind fun y8=>(bif y8 then (some (.inr false)) else (some (.inl (.s1 x_ (IntKind.i64.wrap (i-1)))))))) else none)) else none) else (some (.inr true)))
noncomputable def D9:V4→Option (V4⊕Bool)
 | .s0 x_=>V5 x_
 | .s1 x_ i=>L4 x_ i
theorem be9 {x_}:aK8 (.s0 x_) (V5 x_):=by
 intro r x h ha;unfold V5 at h
 exact zj 15 h ha
theorem bh0 {x_ i}:aK8 (.s1 x_ i) (L4 x_ i):=by
 intro r x h ha;unfold L4 at h
 refine zs 8 h (fun h=> ?_) fun h=> ?_
 ·
  refine zn 5 h fun h=> ?_
  refine zr 0 (d7 .i64) h fun y3 h=> ?_
  refine zn 0 h fun h=> ?_
  refine zr 0 (d7 .i64) h fun y6 h=> ?_
  refine zd 0 [] h (fun _=>ck3) fun y8 h=> ?_
  refine zs 1 h (fun h=> ?_) fun h=> ?_
  ·
   exact zt 5 h ha
  exact zj 8 h ha
 exact zt 6 h ha
noncomputable def aB3 (x_:List Int):Option Bool:=evf D9 (.s0 x_)
theorem bn5 {x_:List Int}{r:Bool} (h:aB3 x_=some r):l4 E 56 [.sl false 1 (List.map (d7 .i64) x_)] [] (Rs aL1 r):=sc (fn:=Tryd.f56) (k:=false) (m:=0) (I6:=aK2) h fun s=>by
 cases s with
 | s0=>exact be9
 | s1=>exact bh0
noncomputable def af9:=r4 (r9 Tryd.f36)
noncomputable def bq3 (y:Bool):D×i4:=(.bool y,[])
abbrev aQ6:=AOk E (Cx.of Tryd.f36 false 0) bq3
noncomputable def bX0 (t37:Bool) (p_:Plan):M:=⟨[.code (af9 [1,0,0,1,1,1,1,1]),.blk 0,.code (af9 [1,1])],[(1,.ptr 0 0 0),(37,.bool t37)],[some ⟨12,false,[(Plan.enc p_)]⟩]⟩
noncomputable def af7 (t37:Bool) (p_:Plan):Option Bool:=(bif t37 then (some false) else ((ad2 0 1000000 p_.Pen).bind fun y2=>(bif y2 then ((aj4 0 1099511627776 p_.Changes).bind fun y4=>(bif y4 then ((aB3 p_.Changes).bind fun y6=>(some y6)) else (some false))) else (some false))))
theorem aU2 {t37 p_}:aQ6 (bX0 t37 p_) (af7 t37 p_):=by
 intro r h;unfold af7 at h
 refine zs 1 h (fun h=> ?_) fun h=> ?_
 ·
  exact zu 5 h
 refine zc 8 [] h (fun _=>aC8) fun y2 h=> ?_
 refine zs 2 h (fun h=> ?_) fun h=> ?_
 ·
  refine zc 5 [] h (fun _=>at5) fun y4 h=> ?_
  refine zs 4 h (fun h=> ?_) fun h=> ?_
  ·
   refine zc 5 [] h (fun _=>bn5) fun y6 h=> ?_
   exact zu 5 h
  exact zu 9 h
 exact zu 18 h
noncomputable def bW6 (t21:Bool) (p_:Plan):M:=⟨[.code (af9 [1,0,0,1,1,1]),.blk 0,.code (af9 [1,1])],[(1,.ptr 0 0 0),(21,.bool t21)],[some ⟨12,false,[(Plan.enc p_)]⟩]⟩
noncomputable def ag8 (t21:Bool) (p_:Plan):Option Bool:=(bif t21 then (some false) else (bif (decide (((((List.map (d7 .i64) p_.Pen).length:Nat):Int):Int)>16)) then (af7 (decide (((((List.map (d7 .i64) p_.Pen).length:Nat):Int):Int)>16)) p_) else (af7 (decide (((((List.map (d7 .i64) p_.Changes).length:Nat):Int):Int)>8)) p_)))
theorem aU7 {t21 p_}:aQ6 (bW6 t21 p_) (ag8 t21 p_):=by
 intro r h;unfold ag8 at h
 refine zs 1 h (fun h=> ?_) fun h=> ?_
 ·
  exact zu 5 h
 refine zs 11 h (fun h=> ?_) fun h=> ?_
 ·
  exact zg 1 (aU2 h)
 exact zg 8 (aU2 h)
noncomputable def bX8 (t3:Bool) (p_:Plan):M:=⟨[.code (af9 [1,0,0,1]),.blk 0,.code (af9 [1,1])],[(1,.ptr 0 0 0),(3,.bool t3)],[some ⟨12,false,[(Plan.enc p_)]⟩]⟩
noncomputable def Z7 (t3:Bool) (p_:Plan):Option Bool:=(bif t3 then (some false) else ((aj4 0 1099511627776 ([p_.Stamp,p_.Since,p_.Ramped])).bind fun y2=>(bif (!y2) then (ag8 (!y2) p_) else (ag8 (decide (((C9 p_.Up p_.Sup):Int)≥65536)) p_))))
theorem aA4 {t3 p_}:aQ6 (bX8 t3 p_) (Z7 t3 p_):=by
 intro r h;unfold Z7 at h
 refine zs 1 h (fun h=> ?_) fun h=> ?_
 ·
  exact zu 5 h
 refine zc 15 [] h (fun _=>at5) fun y2 h=> ?_
 refine zs 4 h (fun h=> ?_) fun h=> ?_
 ·
  exact zg 1 (aU7 h)
 exact zg 11 (aU7 h)
noncomputable def ai2 (p_:Plan):Option Bool:=(bif (decide (p_.Epoch<0)) then (Z7 (decide (p_.Epoch<0)) p_) else ((ad2 (-1) 15 ([p_.Target,p_.Prev,p_.Spill])).bind fun y2=>(bif (!y2) then (Z7 (!y2) p_) else ((ad2 0 100 ([p_.Percent])).bind fun y4=>(Z7 (!y4) p_)))))
theorem aJ5 {p_:Plan}{r:Bool} (h:ai2 p_=some r):l4 E 36 [.agg (Plan.enc p_)] [] (Rs bq3 r):=so (fn:=Tryd.f36) (k:=false) (m:=0) h<| by
 intro r h;unfold ai2 at h
 refine zs 17 h (fun h=> ?_) fun h=> ?_
 ·
  exact zg 1 (aA4 h)
 refine zc 14 [] h (fun _=>aC8) fun y2 h=> ?_
 refine zs 4 h (fun h=> ?_) fun h=> ?_
 ·
  exact zg 1 (aA4 h)
 refine zc 7 [] h (fun _=>aC8) fun y4 h=> ?_
 exact zg 3 (aA4 h)
noncomputable def bK4 (y:Int×Int×Int×Int×Int×Int×Int×Int×Int×Int):D×i4:=(.agg [.int .i64 y.1,.int .i64 y.2.1,.int .i64 y.2.2.1,.int .i64 y.2.2.2.1,.int .i64 y.2.2.2.2.1,.int .i64 y.2.2.2.2.2.1,.int .i64 y.2.2.2.2.2.2.1,.int .i64 y.2.2.2.2.2.2.2.1,.int .i64 y.2.2.2.2.2.2.2.2.1,.int .i64 y.2.2.2.2.2.2.2.2.2],[])
noncomputable def Y6 (p_:Plan):Option (Int×Int×Int×Int×Int×Int×Int×Int×Int×Int):=(some (p_.Epoch,p_.Target,p_.Prev,p_.Spill,p_.Percent,p_.Stamp,p_.Since,p_.Ramped,(IntKind.i64.wrap (p_.Up)),(IntKind.i64.wrap (p_.Sup))))
theorem aA3 {p_:Plan}{r:Int×Int×Int×Int×Int×Int×Int×Int×Int×Int} (h:Y6 p_=some r):l4 E 57 [.agg (Plan.enc p_)] [] (Rs bK4 r):=so (fn:=Tryd.f57) (k:=false) (m:=0) h<| by
 intro r h;unfold Y6 at h
 exact zu 47 h
noncomputable def aY4:=r4 (r9 Tryd.f58)
noncomputable def aY0 (y:Bool):D×i4:=(.bool y,[])
inductive af8 where
 | s0 (s1 s2:List Int)
 | s1 (s1 s2:List Int) (y0 G7:Int)
noncomputable def ba2:af8→M
 | .s0 s1 s2=>J0 Tryd.f58 [.sl false 1 (List.map (d7 .i64) s1),.sl false 1 (List.map (d7 .i64) s2)] []
 | .s1 s1 s2 y0 G7=>⟨[.lpc (aY4 [1,1,0,1,0,0]) 12291,.blk 0,.code (aY4 [1,1,1])],[(0,.sl false 1 (List.map (d7 .i64) s1)),(1,.sl false 1 (List.map (d7 .i64) s2)),(12,.int .i64 y0),(13,.int .i64 G7)],[]⟩
abbrev aZ8:=SOk E (Cx.of Tryd.f58 false 0) aY0 ba2
noncomputable def ae5 (s1 s2:List Int):Option (af8⊕Bool):=(bif (((((List.map (d7 .i64) s1).length:Nat):Int):Int) !=(((List.map (d7 .i64) s2).length:Nat):Int)) then (some (.inr false)) else (some (.inl (.s1 s1 s2 (((List.map (d7 .i64) s1).length:Nat):Int) 0))))
noncomputable def X1 (s1 s2:List Int) (y0 G7:Int):Option (af8⊕Bool):=(bif (decide (G7<y0)) then (bif ((decide ((0:Int)≤G7))&&(decide (G7<(((List.map (d7 .i64) s1).length:Nat):Int)))) then (((s1)[G7.toNat]?).bind fun y3=>(bif ((decide ((0:Int)≤G7))&&(decide (G7<(((List.map (d7 .i64) s2).length:Nat):Int)))) then (((s2)[G7.toNat]?).bind fun y6=>(bif (y3 !=y6) then (some (.inr false)) else (some (.inl (.s1 s1 s2 y0 (IntKind.i64.wrap (G7+1))))))) else none)) else none) else (some (.inr true)))
noncomputable def L1:af8→Option (af8⊕Bool)
 | .s0 s1 s2=>ae5 s1 s2
 | .s1 s1 s2 y0 G7=>X1 s1 s2 y0 G7
theorem bt8 {s1 s2}:aZ8 (.s0 s1 s2) (ae5 s1 s2):=by
 intro r x h ha;unfold ae5 at h
 refine zs 14 h (fun h=> ?_) fun h=> ?_
 ·
  exact zt 5 h ha
 exact zj 11 h ha
theorem bu5 {s1 s2 y0 G7}:aZ8 (.s1 s1 s2 y0 G7) (X1 s1 s2 y0 G7):=by
 intro r x h ha;unfold X1 at h
 refine zs 7 h (fun h=> ?_) fun h=> ?_
 ·
  refine zn 10 h fun h=> ?_
  refine zr 0 (d7 .i64) h fun y3 h=> ?_
  refine zn 0 h fun h=> ?_
  refine zr 0 (d7 .i64) h fun y6 h=> ?_
  refine zs 1 h (fun h=> ?_) fun h=> ?_
  ·
   exact zt 5 h ha
  exact zj 7 h ha
 exact zt 6 h ha
noncomputable def aS1 (s1 s2:List Int):Option Bool:=evf L1 (.s0 s1 s2)
theorem bF2 {s1 s2:List Int}{r:Bool} (h:aS1 s1 s2=some r):l4 E 58 [.sl false 1 (List.map (d7 .i64) s1),.sl false 1 (List.map (d7 .i64) s2)] [] (Rs aY0 r):=sc (fn:=Tryd.f58) (k:=false) (m:=0) (I6:=ba2) h fun s=>by
 cases s with
 | s0=>exact bt8
 | s1=>exact bu5
noncomputable def aJ7:=r4 (r9 Tryd.f59)
noncomputable def aL0 (y:Bool):D×i4:=(.bool y,[])
inductive U9 where
 | s0 (s1 s2:List Int)
 | s1 (s1 s2:List Int) (y0 G7:Int)
noncomputable def aJ8:U9→M
 | .s0 s1 s2=>J0 Tryd.f59 [.sl false 1 (List.map (d7 .i64) s1),.sl false 1 (List.map (d7 .i64) s2)] []
 | .s1 s1 s2 y0 G7=>⟨[.lpc (aJ7 [1,1,0,1,0,0]) 12291,.blk 0,.code (aJ7 [1,1,1])],[(0,.sl false 1 (List.map (d7 .i64) s1)),(1,.sl false 1 (List.map (d7 .i64) s2)),(12,.int .i64 y0),(13,.int .i64 G7)],[]⟩
abbrev aK5:=SOk E (Cx.of Tryd.f59 false 0) aL0 aJ8
noncomputable def V2 (s1 s2:List Int):Option (U9⊕Bool):=(bif (((((List.map (d7 .i64) s1).length:Nat):Int):Int) !=(((List.map (d7 .i64) s2).length:Nat):Int)) then (some (.inr false)) else (some (.inl (.s1 s1 s2 (((List.map (d7 .i64) s1).length:Nat):Int) 0))))
noncomputable def O9 (s1 s2:List Int) (y0 G7:Int):Option (U9⊕Bool):=(bif (decide (G7<y0)) then (bif ((decide ((0:Int)≤G7))&&(decide (G7<(((List.map (d7 .i64) s1).length:Nat):Int)))) then (((s1)[G7.toNat]?).bind fun y3=>(bif ((decide ((0:Int)≤G7))&&(decide (G7<(((List.map (d7 .i64) s2).length:Nat):Int)))) then (((s2)[G7.toNat]?).bind fun y6=>(bif (y3 !=y6) then (some (.inr false)) else (some (.inl (.s1 s1 s2 y0 (IntKind.i64.wrap (G7+1))))))) else none)) else none) else (some (.inr true)))
noncomputable def G4:U9→Option (U9⊕Bool)
 | .s0 s1 s2=>V2 s1 s2
 | .s1 s1 s2 y0 G7=>O9 s1 s2 y0 G7
theorem bf7 {s1 s2}:aK5 (.s0 s1 s2) (V2 s1 s2):=by
 intro r x h ha;unfold V2 at h
 refine zs 14 h (fun h=> ?_) fun h=> ?_
 ·
  exact zt 5 h ha
 exact zj 11 h ha
theorem bg3 {s1 s2 y0 G7}:aK5 (.s1 s1 s2 y0 G7) (O9 s1 s2 y0 G7):=by
 intro r x h ha;unfold O9 at h
 refine zs 7 h (fun h=> ?_) fun h=> ?_
 ·
  refine zn 10 h fun h=> ?_
  refine zr 0 (d7 .i64) h fun y3 h=> ?_
  refine zn 0 h fun h=> ?_
  refine zr 0 (d7 .i64) h fun y6 h=> ?_
  refine zs 1 h (fun h=> ?_) fun h=> ?_
  ·
   exact zt 5 h ha
  exact zj 7 h ha
 exact zt 6 h ha
noncomputable def ay9 (s1 s2:List Int):Option Bool:=evf G4 (.s0 s1 s2)
theorem bn2 {s1 s2:List Int}{r:Bool} (h:ay9 s1 s2=some r):l4 E 59 [.sl false 1 (List.map (d7 .i64) s1),.sl false 1 (List.map (d7 .i64) s2)] [] (Rs aL0 r):=sc (fn:=Tryd.f59) (k:=false) (m:=0) (I6:=aJ8) h fun s=>by
 cases s with
 | s0=>exact bf7
 | s1=>exact bg3
noncomputable def cl2 (y:Bool):D×i4:=(.bool y,[])
noncomputable def ax0 (a b:Plan):Option Bool:=((Y6 a).bind fun y1=>((Y6 b).bind fun y2=>(bif (((y1.1:Int)==y2.1)&&(((y1.2.1:Int)==y2.2.1)&&(((y1.2.2.1:Int)==y2.2.2.1)&&(((y1.2.2.2.1:Int)==y2.2.2.2.1)&&(((y1.2.2.2.2.1:Int)==y2.2.2.2.2.1)&&(((y1.2.2.2.2.2.1:Int)==y2.2.2.2.2.2.1)&&(((y1.2.2.2.2.2.2.1:Int)==y2.2.2.2.2.2.2.1)&&(((y1.2.2.2.2.2.2.2.1:Int)==y2.2.2.2.2.2.2.2.1)&&(((y1.2.2.2.2.2.2.2.2.1:Int)==y2.2.2.2.2.2.2.2.2.1)&&(((y1.2.2.2.2.2.2.2.2.2:Int)==y2.2.2.2.2.2.2.2.2.2)&&true)))))))))) then ((aS1 a.Pen b.Pen).bind fun y4=>(bif y4 then ((ay9 a.Changes b.Changes).bind fun y6=>(some y6)) else (some false))) else (some false))))
theorem cg4 {a b:Plan}{r:Bool} (h:ax0 a b=some r):l4 E 37 [.agg (Plan.enc a),.agg (Plan.enc b)] [] (Rs cl2 r):=so (fn:=Tryd.f37) (k:=false) (m:=0) h<| by
 intro r h;unfold ax0 at h
 refine zd 9 [] h (fun _=>aA3) fun y1 h=> ?_
 refine zd 1 [] h (fun _=>aA3) fun y2 h=> ?_
 refine zs 0 h (fun h=> ?_) fun h=> ?_
 ·
  refine zd 6 [] h (fun _=>bF2) fun y4 h=> ?_
  refine zs 1 h (fun h=> ?_) fun h=> ?_
  ·
   refine zd 6 [] h (fun _=>bn2) fun y6 h=> ?_
   exact zu 2 h
  exact zu 6 h
 exact zu 12 h
noncomputable def ad3:=r4 (r9 Tryd.f20)
noncomputable def bx9 (y:Bool):D×i4:=(.bool y,[])
abbrev aW4:=AOk E (Cx.of Tryd.f20 false 0) bx9
noncomputable def ch3 (t30:Bool) (m:i5):M:=⟨[.code (ad3 [1,0,0,1,1,1]),.blk 0,.code (ad3 [1,1])],[(1,.ptr 0 0 0),(30,.bool t30)],[some ⟨26,false,[(i5.enc m)]⟩]⟩
noncomputable def W8 (t30:Bool) (m:i5):Option Bool:=(bif t30 then (some false) else (bif m.HasPlan then ((ai2 m.Plan).bind fun y3=>(some y3)) else ((ax0 m.Plan (⟨0,0,0,0,0,0,0,0,0,0,[],[]⟩:Plan)).bind fun y4=>(some y4))))
theorem aE7 {t30 m}:aW4 (ch3 t30 m) (W8 t30 m):=by
 intro r h;unfold W8 at h
 refine zs 1 h (fun h=> ?_) fun h=> ?_
 ·
  exact zu 5 h
 refine zs 8 h (fun h=> ?_) fun h=> ?_
 ·
  refine zc 6 [] h (fun _=>aJ5) fun y3 h=> ?_
  exact zu 3 h
 refine zc 9 [some 1,some 1] h (fun _=>cg4) fun y4 h=> ?_
 exact zu 3 h
noncomputable def ci3 (t30:Bool) (m:i5):M:=⟨[.code (ad3 [1,0,0,1,1,0,1]),.code (ad3 [1,0,0,1,1,1]),.blk 0,.code (ad3 [1,1])],[(1,.ptr 0 0 0),(30,.bool t30)],[some ⟨26,false,[(i5.enc m)]⟩]⟩
noncomputable def ac7 (t30:Bool) (m:i5):Option Bool:=(bif t30 then (W8 t30 m) else (bif (decide (((((List.map (d7 .u8) m.Session).length:Nat):Int):Int)>64)) then (W8 (decide (((((List.map (d7 .u8) m.Session).length:Nat):Int):Int)>64)) m) else (W8 (decide (((((List.map (d7 .u8) m.Payload).length:Nat):Int):Int)>1024)) m)))
theorem aY5 {t30 m}:aW4 (ci3 t30 m) (ac7 t30 m):=by
 intro r h;unfold ac7 at h
 refine zs 1 h (fun h=> ?_) fun h=> ?_
 ·
  exact zg 1 (aE7 h)
 refine zs 10 h (fun h=> ?_) fun h=> ?_
 ·
  exact zg 1 (aE7 h)
 exact zg 8 (aE7 h)
noncomputable def cf2 (t3:Bool) (m:i5):M:=⟨[.code (ad3 [1,0,0,1]),.blk 0,.code (ad3 [1,1])],[(1,.ptr 0 0 0),(3,.bool t3)],[some ⟨26,false,[(i5.enc m)]⟩]⟩
noncomputable def L7 (t3:Bool) (m:i5):Option Bool:=(bif t3 then (some false) else (bif (decide (((((List.map (d7 .i64) m.ID).length:Nat):Int):Int)>0)) then (ac7 (((((List.map (d7 .i64) m.ID).length:Nat):Int):Int) !=3) m) else (ac7 false m)))
theorem X6 {t3 m}:aW4 (cf2 t3 m) (L7 t3 m):=by
 intro r h;unfold L7 at h
 refine zs 1 h (fun h=> ?_) fun h=> ?_
 ·
  exact zu 5 h
 refine zs 10 h (fun h=> ?_) fun h=> ?_
 ·
  exact zg 11 (aY5 h)
 exact zg 10 (aY5 h)
noncomputable def ac0 (m:i5):Option Bool:=(bif (decide (m.Kind<1)) then (L7 (decide (m.Kind<1)) m) else (bif (decide (m.Kind>19)) then (L7 (decide (m.Kind>19)) m) else (bif (decide (((z0 (z0 m.From m.To) m.Code):Int)<0)) then (L7 (decide (((z0 (z0 m.From m.To) m.Code):Int)<0)) m) else (bif (decide (((C9 m.From m.To):Int)>255)) then (L7 (decide (((C9 m.From m.To):Int)>255)) m) else (bif (decide (m.Code>1000)) then (L7 (decide (m.Code>1000)) m) else (L7 (decide (m.Up≥65536)) m))))))
theorem aP5 {m:i5}{r:Bool} (h:ac0 m=some r):l4 E 20 [.agg (i5.enc m)] [] (Rs bx9 r):=so (fn:=Tryd.f20) (k:=false) (m:=0) h<| by
 intro r h;unfold ac0 at h
 refine zs 17 h (fun h=> ?_) fun h=> ?_
 ·
  exact zg 1 (X6 h)
 refine zs 9 h (fun h=> ?_) fun h=> ?_
 ·
  exact zg 1 (X6 h)
 refine zs 16 h (fun h=> ?_) fun h=> ?_
 ·
  exact zg 1 (X6 h)
 refine zs 13 h (fun h=> ?_) fun h=> ?_
 ·
  exact zg 1 (X6 h)
 refine zs 9 h (fun h=> ?_) fun h=> ?_
 ·
  exact zg 1 (X6 h)
 exact zg 7 (X6 h)
noncomputable def R0:=r4 (r9 Tryd.f52)
noncomputable def bE9 (y:Plan×Int):D×i4:=(.tup [.agg (Plan.enc y.1),.int .i64 y.2],[])
inductive ai8 where
 | s0 (b:List Int)
 | s1 (b:List Int) (at_ y0:Int) (b0:Plan) (H4:List (List Int))
 | s2 (l_:List Int) (t67:Bool) (b0:Plan) (H4:List (List Int))
 | s3 (aQ9:List Int) (aW9 aD9:Int) (b0:Plan) (ab3 R6:Int) (am6 ac1:Int) (O2 ac4:Int) (ac2 R7:Int) (Up_ aA7:Int) (O7 b2:List Int)
noncomputable def bI4:ai8→M
 | .s0 b=>J0 Tryd.f52 [.sl false 1 (List.map (d7 .u8) b)] []
 | .s1 b at_ y0 b0 H4=>⟨[.lpc (R0 [1,1,1,0,1,0,0]) 4149,.blk 0,.code (R0 [1,1,1,1])],[(0,.sl false 1 (List.map (d7 .u8) b)),(2,.ptr 0 0 0),(4,.ptr 1 0 0),(5,.int .i64 at_),(12,.int .i64 y0)],[some ⟨12,false,[(Plan.enc b0)]⟩,some ⟨1,false,(List.map (D1 1 (d7 .i64)) H4)⟩]⟩
 | .s2 l_ t67 b0 H4=>⟨[.code (R0 [1,1,1,1,1,0,1]),.code (R0 [1,1,1,1,1,1])],[(2,.ptr 0 0 0),(4,.ptr 1 0 0),(8,.sl false 1 (List.map (d7 .i64) l_)),(67,.bool t67)],[some ⟨12,false,[(Plan.enc b0)]⟩,some ⟨1,false,(List.map (D1 1 (d7 .i64)) H4)⟩]⟩
 | .s3 aQ9 aW9 aD9 b0 ab3 R6 am6 ac1 O2 ac4 ac2 R7 Up_ aA7 O7 b2=>⟨[.lpc (R0 [1,1,1,1,1,1,1,0,1,0,0]) 283953734451123385935261518004740,.blk 2,.code (R0 [1,1,1,1,1,1,1,1])],[(2,.ptr 0 0 0),(9,.ptr 1 0 0),(105,.sl false 1 (List.map (d7 .i64) aQ9)),(106,.int .i64 aW9),(107,.int .i64 aD9)],[some ⟨12,false,[(Plan.enc b0)]⟩,some ⟨12,true,[[.int .i64 ab3,.int .i64 R6,.int .i64 am6,.int .i64 ac1,.int .i64 O2,.int .i64 ac4,.int .i64 ac2,.int .i64 R7,.int .u64 Up_,.int .u64 aA7,(i9 2 (List.map (d7 .i64) b2)),.sl false 1 (List.map (d7 .i64) O7)]]⟩,some ⟨1,false,(List.map (d7 .i64) b2)⟩]⟩
abbrev aO4:=SOk E (Cx.of Tryd.f52 false 0) bE9 bI4
noncomputable def bf2 (b:List Int):Option (ai8⊕(Plan×Int)):=(some (.inl (.s1 b 0 0 (⟨0,0,0,0,0,0,0,0,0,0,[],[]⟩:Plan) ([[],[],[]]))))
noncomputable def M4 (b:List Int) (at_ y0:Int) (b0:Plan) (H4:List (List Int)):Option (ai8⊕(Plan×Int)):=(bif (decide (y0<3)) then ((aw9 b at_).bind fun y2=>(bif ((decide ((0:Int)≤y0))&&(decide (y0<((3:Nat):Int)))) then (((H4)[(0+y0.toNat)]?).bind fun y4=>(bif ((y2.2.2:Int) !=0) then (some (.inr ((⟨0,0,0,0,0,0,0,0,0,0,[],[]⟩:Plan),41))) else (some (.inl (.s1 b y2.2.1 (IntKind.i64.wrap (y0+1)) b0 (List.set H4 (0+y0.toNat) y2.1)))))) else none)) else (((H4)[0]?).bind fun y7=>(bif (at_ !=(((List.map (d7 .u8) b).length:Nat):Int)) then (some (.inl (.s2 y7 true b0 H4))) else (bif (((((List.map (d7 .i64) y7).length:Nat):Int):Int) !=10) then (some (.inl (.s2 y7 true b0 H4))) else (bif (decide ((1:Int)<(((List.map (d7 .i64) y7).length:Nat):Int))) then (((y7)[1]?).bind fun y12=>(bif (decide ((2:Int)<(((List.map (d7 .i64) y7).length:Nat):Int))) then (((y7)[2]?).bind fun y15=>(bif (decide ((3:Int)<(((List.map (d7 .i64) y7).length:Nat):Int))) then (((y7)[3]?).bind fun y18=>(bif (decide ((4:Int)<(((List.map (d7 .i64) y7).length:Nat):Int))) then (((y7)[4]?).bind fun y21=>((aj4 (-1) 1048576 ([y12,y15,y18,y21])).bind fun y23=>(bif (!y23) then (some (.inl (.s2 y7 true b0 H4))) else (bif (decide ((8:Int)≤(((List.map (d7 .i64) y7).length:Nat):Int))) then ((aj4 0 1048576 (List.drop 8 (List.take ((List.map (d7 .i64) y7).length) y7))).bind fun y26=>(bif (!y26) then (some (.inl (.s2 y7 true b0 H4))) else (((H4)[1]?).bind fun y28=>((aj4 0 1000000 y28).bind fun y30=>(some (.inl (.s2 y7 (!y30) b0 H4))))))) else none)))) else none)) else none)) else none)) else none)))))
noncomputable def aN3 (l_:List Int) (t67:Bool) (b0:Plan) (H4:List (List Int)):Option (ai8⊕(Plan×Int)):=(bif t67 then (some (.inr ((⟨0,0,0,0,0,0,0,0,0,0,[],[]⟩:Plan),41))) else (bif (decide ((0:Int)<(((List.map (d7 .i64) l_).length:Nat):Int))) then (((l_)[0]?).bind fun y3=>(bif (decide ((1:Int)<(((List.map (d7 .i64) l_).length:Nat):Int))) then (((l_)[1]?).bind fun y6=>(bif (decide ((2:Int)<(((List.map (d7 .i64) l_).length:Nat):Int))) then (((l_)[2]?).bind fun y9=>(bif (decide ((3:Int)<(((List.map (d7 .i64) l_).length:Nat):Int))) then (((l_)[3]?).bind fun y12=>(bif (decide ((4:Int)<(((List.map (d7 .i64) l_).length:Nat):Int))) then (((l_)[4]?).bind fun y15=>(bif (decide ((5:Int)<(((List.map (d7 .i64) l_).length:Nat):Int))) then (((l_)[5]?).bind fun y18=>(bif (decide ((6:Int)<(((List.map (d7 .i64) l_).length:Nat):Int))) then (((l_)[6]?).bind fun y21=>(bif (decide ((7:Int)<(((List.map (d7 .i64) l_).length:Nat):Int))) then (((l_)[7]?).bind fun y24=>(bif (decide ((8:Int)<(((List.map (d7 .i64) l_).length:Nat):Int))) then (((l_)[8]?).bind fun y27=>(bif (decide ((9:Int)<(((List.map (d7 .i64) l_).length:Nat):Int))) then (((l_)[9]?).bind fun y30=>(((H4)[2]?).bind fun y32=>(((H4)[1]?).bind fun y34=>(some (.inl (.s3 y34 (((List.map (d7 .i64) y34).length:Nat):Int) 0 b0 y3 y6 y9 y12 y15 y18 y21 y24 (IntKind.u64.wrap (y27)) (IntKind.u64.wrap (y30)) y32 ([]))))))) else none)) else none)) else none)) else none)) else none)) else none)) else none)) else none)) else none)) else none))
noncomputable def ay2 (aQ9:List Int) (aW9 aD9:Int) (b0:Plan) (ab3 R6:Int) (am6 ac1:Int) (O2 ac4:Int) (ac2 R7:Int) (Up_ aA7:Int) (O7 b2:List Int):Option (ai8⊕(Plan×Int)):=(bif (decide (aD9<aW9)) then (bif ((decide ((0:Int)≤aD9))&&(decide (aD9<(((List.map (d7 .i64) aQ9).length:Nat):Int)))) then (((aQ9)[aD9.toNat]?).bind fun y3=>(bif (decide (((List.map (d7 .i64) b2).length+1)*8≤n4)) then (some (.inl (.s3 aQ9 aW9 (IntKind.i64.wrap (aD9+1)) b0 ab3 R6 am6 ac1 O2 ac4 ac2 R7 Up_ aA7 O7 (b2++ [y3])))) else none)) else none) else ((ai2 (⟨ab3,R6,am6,ac1,O2,ac4,ac2,R7,Up_,aA7,b2,O7⟩:Plan)).bind fun y6=>(bif (!y6) then (some (.inr ((⟨0,0,0,0,0,0,0,0,0,0,[],[]⟩:Plan),41))) else (some (.inr ((⟨ab3,R6,am6,ac1,O2,ac4,ac2,R7,Up_,aA7,b2,O7⟩:Plan),0))))))
noncomputable def u7:ai8→Option (ai8⊕(Plan×Int))
 | .s0 b=>bf2 b
 | .s1 b at_ y0 b0 H4=>M4 b at_ y0 b0 H4
 | .s2 l_ t67 b0 H4=>aN3 l_ t67 b0 H4
 | .s3 aQ9 aW9 aD9 b0 ab3 R6 am6 ac1 O2 ac4 ac2 R7 Up_ aA7 O7 b2=>ay2 aQ9 aW9 aD9 b0 ab3 R6 am6 ac1 O2 ac4 ac2 R7 Up_ aA7 O7 b2
theorem bY1 {b}:aO4 (.s0 b) (bf2 b):=by
 intro r x h ha;unfold bf2 at h
 exact zk 21 h ha [.blk 0 [some 1,some 1],.blk 1 [some 1,some 1,some 1]]
theorem bX5 {b at_ y0 b0 H4}:aO4 (.s1 b at_ y0 b0 H4) (M4 b at_ y0 b0 H4):=by
 intro r x h ha;unfold M4 at h
 refine zs 7 h (fun h=> ?_) fun h=> ?_
 ·
  refine zc 18 [] h (fun _=>bo7) fun y2 h=> ?_
  refine zn 5 h fun h=> ?_
  refine zr 1 (D1 1 (d7 .i64)) h fun y4 h=> ?_
  refine zw 0 (a:=(List.set (List.map (D1 1 (d7 .i64)) H4) (0+y0.toNat) ((D1 1 (d7 .i64)) y2.1))) (b:=(List.map (D1 1 (d7 .i64)) (List.set H4 (0+y0.toNat) y2.1))) (bz7 _ _ _ _) ?_
  refine zs 9 h (fun h=> ?_) fun h=> ?_
  ·
   exact zt 10 h ha [.slot 0 [some 1,some 1]]
  exact zj 7 h ha
 refine zr 6 (D1 1 (d7 .i64)) h fun y7 h=> ?_
 refine zs 5 h (fun h=> ?_) fun h=> ?_
 ·
  exact zk 29 h ha
 refine zs 3 h (fun h=> ?_) fun h=> ?_
 ·
  exact zk 25 h ha
 refine zn 1 h fun h=> ?_
 refine zr 1 (d7 .i64) h fun y12 h=> ?_
 refine zn 2 h fun h=> ?_
 refine zr 1 (d7 .i64) h fun y15 h=> ?_
 refine zn 2 h fun h=> ?_
 refine zr 1 (d7 .i64) h fun y18 h=> ?_
 refine zn 2 h fun h=> ?_
 refine zr 1 (d7 .i64) h fun y21 h=> ?_
 refine zd 3 [] h (fun _=>at5) fun y23 h=> ?_
 refine zs 2 h (fun h=> ?_) fun h=> ?_
 ·
  exact zk 9 h ha
 refine zn 1 h fun h=> ?_
 refine zw 0 (a:=(List.drop 8 (List.take ((List.map (d7 .i64) y7).length) (List.map (d7 .i64) y7)))) (b:=(List.map (d7 .i64) (List.drop 8 (List.take ((List.map (d7 .i64) y7).length) y7)))) (bA9 _ _ _ _) ?_
 refine zd 1 [] h (fun _=>at5) fun y26 h=> ?_
 refine zs 2 h (fun h=> ?_) fun h=> ?_
 ·
  exact zk 4 h ha
 refine zr 2 (D1 1 (d7 .i64)) h fun y28 h=> ?_
 refine zd 1 [] h (fun _=>at5) fun y30 h=> ?_
 exact zk 2 h ha
theorem bV5 {l_ t67 b0 H4}:aO4 (.s2 l_ t67 b0 H4) (aN3 l_ t67 b0 H4):=by
 intro r x h ha;unfold aN3 at h
 refine zs 1 h (fun h=> ?_) fun h=> ?_
 ·
  exact zt 10 h ha [.slot 0 [some 1,some 1]]
 refine zn 3 h fun h=> ?_
 refine zr 0 (d7 .i64) h fun y3 h=> ?_
 refine zn 0 h fun h=> ?_
 refine zr 0 (d7 .i64) h fun y6 h=> ?_
 refine zn 0 h fun h=> ?_
 refine zr 0 (d7 .i64) h fun y9 h=> ?_
 refine zn 0 h fun h=> ?_
 refine zr 0 (d7 .i64) h fun y12 h=> ?_
 refine zn 0 h fun h=> ?_
 refine zr 0 (d7 .i64) h fun y15 h=> ?_
 refine zn 0 h fun h=> ?_
 refine zr 0 (d7 .i64) h fun y18 h=> ?_
 refine zn 0 h fun h=> ?_
 refine zr 0 (d7 .i64) h fun y21 h=> ?_
 refine zn 0 h fun h=> ?_
 refine zr 0 (d7 .i64) h fun y24 h=> ?_
 refine zn 0 h fun h=> ?_
 refine zr 0 (d7 .i64) h fun y27 h=> ?_
 refine zn 0 h fun h=> ?_
 refine zr 0 (d7 .i64) h fun y30 h=> ?_
 refine zr 1 (D1 1 (d7 .i64)) h fun y32 h=> ?_
 refine zr 8 (D1 1 (d7 .i64)) h fun y34 h=> ?_
 refine o7 hm 6 _ ?_
 obtain rfl:=Option.some.inj h
 refine aL8 283953734451123385935261518004740 [.matc 1 0 10 1] (m' :=⟨[.lpc (R0 [1,1,1,1,1,1,1,0,1,0,0]) 283953734451123385935261518004740,.blk 2,.code (R0 [1,1,1,1,1,1,1,1])],[(2,.ptr 0 0 0),(9,.ptr 1 0 0),(105,.sl false 1 (List.map (d7 .i64) y34)),(106,.int .i64 (((List.map (d7 .i64) y34).length:Nat):Int)),(107,.int .i64 0)],[some ⟨12,false,[(Plan.enc b0)]⟩,some ⟨12,true,[[.int .i64 y3,.int .i64 y6,.int .i64 y9,.int .i64 y12,.int .i64 y15,.int .i64 y18,.int .i64 y21,.int .i64 y24,.int .u64 (IntKind.u64.wrap (y27)),.int .u64 (IntKind.u64.wrap (y30)),.msl 2 0 0 0 false,.sl false 1 (List.map (d7 .i64) y32)]]⟩,some ⟨1,false,[]⟩]⟩) (by kernel_rfl) ?_
 refine aB1 (n1:=0) (n2:=(List.map (d7 .i64) ([])).length) (fun n_len=> .go ⟨[.lpc (R0 [1,1,1,1,1,1,1,0,1,0,0]) 283953734451123385935261518004740,.blk 2,.code (R0 [1,1,1,1,1,1,1,1])],[(2,.ptr 0 0 0),(9,.ptr 1 0 0),(105,.sl false 1 (List.map (d7 .i64) y34)),(106,.int .i64 (((List.map (d7 .i64) y34).length:Nat):Int)),(107,.int .i64 0)],[some ⟨12,false,[(Plan.enc b0)]⟩,some ⟨12,true,[[.int .i64 y3,.int .i64 y6,.int .i64 y9,.int .i64 y12,.int .i64 y15,.int .i64 y18,.int .i64 y21,.int .i64 y24,.int .u64 (IntKind.u64.wrap (y27)),.int .u64 (IntKind.u64.wrap (y30)),.msl 2 0 n_len n_len false,.sl false 1 (List.map (d7 .i64) y32)]]⟩,some ⟨1,false,[]⟩]⟩) (by simp) ?_
 exact ha
theorem bV4 {aQ9 aW9 aD9 b0 ab3 R6 am6 ac1 O2 ac4 ac2 R7 Up_ aA7 O7 b2}:aO4 (.s3 aQ9 aW9 aD9 b0 ab3 R6 am6 ac1 O2 ac4 ac2 R7 Up_ aA7 O7 b2) (ay2 aQ9 aW9 aD9 b0 ab3 R6 am6 ac1 O2 ac4 ac2 R7 Up_ aA7 O7 b2):=by
 intro r x h ha;unfold ay2 at h
 refine zs 7 h (fun h=> ?_) fun h=> ?_
 ·
  refine zn 6 h fun h=> ?_
  refine zr 1 (d7 .i64) h fun y3 h=> ?_
  refine zn 10 h fun h=> ?_
  refine za 0 (d7 .i64) b2 ([y3]) ?_
  exact zj 11 h ha
 refine zm 7 (b:=(Nat.ble (0+(List.map (d7 .i64) b2).length) ((List.map (d7 .i64) b2).length))) (C8 _) ?_
 refine zcE 0 [] (args1:= [.agg [.int .i64 ab3,.int .i64 R6,.int .i64 am6,.int .i64 ac1,.int .i64 O2,.int .i64 ac4,.int .i64 ac2,.int .i64 R7,.int .u64 Up_,.int .u64 aA7,.sl false 1 (List.take ((List.map (d7 .i64) b2).length) (List.drop 0 (List.map (d7 .i64) b2))),.sl false 1 (List.map (d7 .i64) O7)]]) h (fun _=>aJ5) ⟨by simp[f0.enc,f0.l,l6.enc,l6.l,q9.enc,q9.l,i5.enc,i5.l,Plan.enc,Plan.l,q6.enc,q6.l,i0.enc,i0.l,q7.enc,q7.l,n5.enc,n5.l,o6.enc,o6.l,List.take_of_length_le,List.map_take,List.map_drop],rfl⟩ fun y6 h=> ?_
 refine zs 3 h (fun h=> ?_) fun h=> ?_
 ·
  exact zt 10 h ha [.slot 0 [some 1,some 1]]
 refine zm 12 (b:=(Nat.ble (0+(List.map (d7 .i64) b2).length) ((List.map (d7 .i64) b2).length))) (C8 _) ?_
 obtain rfl:=Option.some.inj h
 have hv:=ha
 simp only[aG6] at hv
 subst hv
 exact aB5 [] (d1:=.tup [.agg [.int .i64 ab3,.int .i64 R6,.int .i64 am6,.int .i64 ac1,.int .i64 O2,.int .i64 ac4,.int .i64 ac2,.int .i64 R7,.int .u64 Up_,.int .u64 aA7,.sl false 1 (List.take ((List.map (d7 .i64) b2).length) (List.drop 0 (List.map (d7 .i64) b2))),.sl false 1 (List.map (d7 .i64) O7)],.int .i64 0]) (d:=.tup [.agg [.int .i64 ab3,.int .i64 R6,.int .i64 am6,.int .i64 ac1,.int .i64 O2,.int .i64 ac4,.int .i64 ac2,.int .i64 R7,.int .u64 Up_,.int .u64 aA7,.sl false 1 (List.map (d7 .i64) b2),.sl false 1 (List.map (d7 .i64) O7)],.int .i64 0]) (s1:= []) (s:= []) (by kernel_rfl) ⟨by simp[f0.enc,f0.l,l6.enc,l6.l,q9.enc,q9.l,i5.enc,i5.l,Plan.enc,Plan.l,q6.enc,q6.l,i0.enc,i0.l,q7.enc,q7.l,n5.enc,n5.l,o6.enc,o6.l,List.take_of_length_le,List.map_take,List.map_drop],rfl⟩ ⟨rfl,rfl⟩ Cx.fin_of
noncomputable def bd5 (b:List Int):Option (Plan×Int):=evf u7 (.s0 b)
theorem cl0 {b:List Int}{r:Plan×Int} (h:bd5 b=some r):l4 E 52 [.sl false 1 (List.map (d7 .u8) b)] [] (Rs bE9 r):=sc (fn:=Tryd.f52) (k:=false) (m:=0) (I6:=bI4) h fun s=>by
 cases s with
 | s0=>exact bY1
 | s1=>exact bX5
 | s2=>exact bV5
 | s3=>exact bV4
noncomputable def aQ4:=r4 (r9 Tryd.f33)
noncomputable def ce8 (y:i5×Int):D×i4:=(.tup [.agg (i5.enc y.1),.int .i64 y.2],[])
abbrev bB2:=AOk E (Cx.of Tryd.f33 false 0) ce8
noncomputable def cA8 (bM6:Bool) (b0 m:i5):M:=⟨[.code (aQ4 [1,1,1,1,1,1,1,1,1,0,1]),.code (aQ4 [1,1,1,1,1,1,1,1,1,1])],[(4,.ptr 0 0 0),(8,.ptr 1 0 0),(149,.bool bM6)],[some ⟨26,false,[(i5.enc b0)]⟩,some ⟨26,false,[(i5.enc m)]⟩]⟩
noncomputable def aw3 (bM6:Bool) (b0 m:i5):Option (i5×Int):=(bif bM6 then (some ((⟨0,0,0,0,0,0,0,0,0,0,false,(⟨0,0,0,0,0,0,0,0,0,0,[],[]⟩:Plan),[],[],[]⟩:i5),51)) else (some (m,0)))
theorem aV9 {bM6 b0 m}:bB2 (cA8 bM6 b0 m) (aw3 bM6 b0 m):=by
 intro r h;unfold aw3 at h
 refine zs 1 h (fun h=> ?_) fun h=> ?_
 ·
  exact zu 10 h [.slot 0 [some 1,some 1,some 1,some 1,some 1]]
 exact zu 12 h
noncomputable def cC7 (ag9:List Int) (b0:i5) (r_:n5) (m:i5):M:=⟨[.code (aQ4 [1,1,1,1,1,1])],[(1,.sl false 1 (List.map (d7 .u8) ag9)),(4,.ptr 0 0 0),(6,.ptr 1 0 0),(8,.ptr 2 0 0)],[some ⟨26,false,[(i5.enc b0)]⟩,some ⟨3,false,[(n5.enc r_)]⟩,some ⟨26,false,[(i5.enc m)]⟩]⟩
noncomputable def an0 (ag9:List Int) (b0:i5) (r_:n5) (m:i5):Option (i5×Int):=((S6 r_).bind fun y1=>((F8 y1.2).bind fun y2=>((F8 y2.2).bind fun y3=>(bif ((y3.2.place.e:Int) !=0) then (aw3 true b0 (⟨m.Kind,m.From,m.To,m.Epoch,m.Ballot,m.Accepted,m.Nonce,m.Time,m.Up,m.Code,m.HasPlan,m.Plan,y1.1,y2.1,y3.1⟩:i5)) else (bif ((y3.2.place.at_:Int) !=(((List.map (d7 .u8) ag9).length:Nat):Int)) then (aw3 true b0 (⟨m.Kind,m.From,m.To,m.Epoch,m.Ballot,m.Accepted,m.Nonce,m.Time,m.Up,m.Code,m.HasPlan,m.Plan,y1.1,y2.1,y3.1⟩:i5)) else ((ac0 (⟨m.Kind,m.From,m.To,m.Epoch,m.Ballot,m.Accepted,m.Nonce,m.Time,m.Up,m.Code,m.HasPlan,m.Plan,y1.1,y2.1,y3.1⟩:i5)).bind fun y6=>(aw3 (!y6) b0 (⟨m.Kind,m.From,m.To,m.Epoch,m.Ballot,m.Accepted,m.Nonce,m.Time,m.Up,m.Code,m.HasPlan,m.Plan,y1.1,y2.1,y3.1⟩:i5))))))))
theorem bw6 {ag9 b0 r_ m}:bB2 (cC7 ag9 b0 r_ m) (an0 ag9 b0 r_ m):=by
 intro r h;unfold an0 at h
 refine zc 4 [] h (fun _=>aH4) fun y1 h=> ?_
 refine zc 9 [] h (fun _=>an6) fun y2 h=> ?_
 refine zc 9 [] h (fun _=>an6) fun y3 h=> ?_
 refine zs 17 h (fun h=> ?_) fun h=> ?_
 ·
  exact zg 26 (aV9 h)
 refine zs 19 h (fun h=> ?_) fun h=> ?_
 ·
  exact zg 7 (aV9 h)
 refine zc 3 [] h (fun _=>aP5) fun y6 h=> ?_
 exact zg 5 (aV9 h)
noncomputable def cC2 (ah8:Int) (ag9 l_:List Int) (t70:Bool) (b0:i5) (r_:n5):M:=⟨[.code (aQ4 [1,1,1,0,1]),.code (aQ4 [1,1,1,1])],[(0,.int .u8 ah8),(1,.sl false 1 (List.map (d7 .u8) ag9)),(4,.ptr 0 0 0),(6,.ptr 1 0 0),(7,.sl false 1 (List.map (d7 .i64) l_)),(70,.bool t70)],[some ⟨26,false,[(i5.enc b0)]⟩,some ⟨3,false,[(n5.enc r_)]⟩]⟩
noncomputable def K8 (ah8:Int) (ag9 l_:List Int) (t70:Bool) (b0:i5) (r_:n5):Option (i5×Int):=(bif t70 then (some ((⟨0,0,0,0,0,0,0,0,0,0,false,(⟨0,0,0,0,0,0,0,0,0,0,[],[]⟩:Plan),[],[],[]⟩:i5),51)) else (bif (decide ((0:Int)<(((List.map (d7 .i64) l_).length:Nat):Int))) then (((l_)[0]?).bind fun y3=>(bif (decide ((1:Int)<(((List.map (d7 .i64) l_).length:Nat):Int))) then (((l_)[1]?).bind fun y6=>(bif (decide ((2:Int)<(((List.map (d7 .i64) l_).length:Nat):Int))) then (((l_)[2]?).bind fun y9=>(bif (decide ((3:Int)<(((List.map (d7 .i64) l_).length:Nat):Int))) then (((l_)[3]?).bind fun y12=>(bif (decide ((4:Int)<(((List.map (d7 .i64) l_).length:Nat):Int))) then (((l_)[4]?).bind fun y15=>(bif (decide ((5:Int)<(((List.map (d7 .i64) l_).length:Nat):Int))) then (((l_)[5]?).bind fun y18=>(bif (decide ((6:Int)<(((List.map (d7 .i64) l_).length:Nat):Int))) then (((l_)[6]?).bind fun y21=>(bif (decide ((7:Int)<(((List.map (d7 .i64) l_).length:Nat):Int))) then (((l_)[7]?).bind fun y24=>(bif (decide ((8:Int)<(((List.map (d7 .i64) l_).length:Nat):Int))) then (((l_)[8]?).bind fun y27=>(bif (decide ((9:Int)<(((List.map (d7 .i64) l_).length:Nat):Int))) then (((l_)[9]?).bind fun y30=>(bif (y30==1) then ((F8 r_).bind fun y33=>((bd5 y33.1).bind fun y34=>(bif ((y34.2:Int) !=0) then (some ((⟨0,0,0,0,0,0,0,0,0,0,false,(⟨0,0,0,0,0,0,0,0,0,0,[],[]⟩:Plan),[],[],[]⟩:i5),51)) else (an0 ag9 b0 y33.2 (⟨(IntKind.i64.wrap (ah8)),y3,y6,y9,y12,y15,y18,y21,(IntKind.u64.wrap (y24)),y27,(y30==1),y34.1,[],[],[]⟩:i5))))) else (an0 ag9 b0 r_ (⟨(IntKind.i64.wrap (ah8)),y3,y6,y9,y12,y15,y18,y21,(IntKind.u64.wrap (y24)),y27,(y30==1),(⟨0,0,0,0,0,0,0,0,0,0,[],[]⟩:Plan),[],[],[]⟩:i5)))) else none)) else none)) else none)) else none)) else none)) else none)) else none)) else none)) else none)) else none))
theorem ak9 {ah8 ag9 l_ t70 b0 r_}:bB2 (cC2 ah8 ag9 l_ t70 b0 r_) (K8 ah8 ag9 l_ t70 b0 r_):=by
 intro r h;unfold K8 at h
 refine zs 1 h (fun h=> ?_) fun h=> ?_
 ·
  exact zu 10 h [.slot 0 [some 1,some 1,some 1,some 1,some 1]]
 refine zn 3 h fun h=> ?_
 refine zr 0 (d7 .i64) h fun y3 h=> ?_
 refine zn 0 h fun h=> ?_
 refine zr 0 (d7 .i64) h fun y6 h=> ?_
 refine zn 0 h fun h=> ?_
 refine zr 0 (d7 .i64) h fun y9 h=> ?_
 refine zn 0 h fun h=> ?_
 refine zr 0 (d7 .i64) h fun y12 h=> ?_
 refine zn 0 h fun h=> ?_
 refine zr 0 (d7 .i64) h fun y15 h=> ?_
 refine zn 0 h fun h=> ?_
 refine zr 0 (d7 .i64) h fun y18 h=> ?_
 refine zn 0 h fun h=> ?_
 refine zr 0 (d7 .i64) h fun y21 h=> ?_
 refine zn 0 h fun h=> ?_
 refine zr 0 (d7 .i64) h fun y24 h=> ?_
 refine zn 0 h fun h=> ?_
 refine zr 0 (d7 .i64) h fun y27 h=> ?_
 refine zn 7 h fun h=> ?_
 refine zr 1 (d7 .i64) h fun y30 h=> ?_
 refine zs 13 h (fun h=> ?_) fun h=> ?_
 ·
  refine zc 8 [] h (fun _=>an6) fun y33 h=> ?_
  refine zc 1 [] h (fun _=>cl0) fun y34 h=> ?_
  refine zs 15 h (fun h=> ?_) fun h=> ?_
  ·
   exact zu 10 h [.slot 0 [some 1,some 1,some 1,some 1,some 1]]
  exact zg 1 (bw6 h) [.blk 2 [some 1,some 1,some 1]]
 exact zg 1 (bw6 h) [.blk 2 [some 1,some 1,some 1,some 1,some 1]]
noncomputable def aQ7 (ah8:Int) (ag9:List Int):Option (i5×Int):=((S6 (⟨(⟨0,0⟩:aI3),ag9⟩:n5)).bind fun y1=>(bif ((y1.2.place.e:Int) !=0) then (K8 ah8 ag9 y1.1 true (⟨0,0,0,0,0,0,0,0,0,0,false,(⟨0,0,0,0,0,0,0,0,0,0,[],[]⟩:Plan),[],[],[]⟩:i5) y1.2) else (bif (((((List.map (d7 .i64) y1.1).length:Nat):Int):Int) !=10) then (K8 ah8 ag9 y1.1 true (⟨0,0,0,0,0,0,0,0,0,0,false,(⟨0,0,0,0,0,0,0,0,0,0,[],[]⟩:Plan),[],[],[]⟩:i5) y1.2) else (bif (decide ((0:Int)<(((List.map (d7 .i64) y1.1).length:Nat):Int))) then (((y1.1)[0]?).bind fun y5=>(bif (decide ((1:Int)<(((List.map (d7 .i64) y1.1).length:Nat):Int))) then (((y1.1)[1]?).bind fun y8=>(bif (decide ((7:Int)<(((List.map (d7 .i64) y1.1).length:Nat):Int))) then (((y1.1)[7]?).bind fun y11=>(bif (decide ((8:Int)<(((List.map (d7 .i64) y1.1).length:Nat):Int))) then (((y1.1)[8]?).bind fun y14=>(bif (decide ((9:Int)<(((List.map (d7 .i64) y1.1).length:Nat):Int))) then (((y1.1)[9]?).bind fun y17=>(bif (decide (((z0 (z0 (z0 (z0 y5 y8) y11) y14) y17):Int)<0)) then (K8 ah8 ag9 y1.1 true (⟨0,0,0,0,0,0,0,0,0,0,false,(⟨0,0,0,0,0,0,0,0,0,0,[],[]⟩:Plan),[],[],[]⟩:i5) y1.2) else (bif (decide ((0:Int)<(((List.map (d7 .i64) y1.1).length:Nat):Int))) then (((y1.1)[0]?).bind fun y21=>(bif (decide ((1:Int)<(((List.map (d7 .i64) y1.1).length:Nat):Int))) then (((y1.1)[1]?).bind fun y24=>(bif (decide (((C9 y21 y24):Int)>255)) then (K8 ah8 ag9 y1.1 true (⟨0,0,0,0,0,0,0,0,0,0,false,(⟨0,0,0,0,0,0,0,0,0,0,[],[]⟩:Plan),[],[],[]⟩:i5) y1.2) else (bif (decide ((7:Int)<(((List.map (d7 .i64) y1.1).length:Nat):Int))) then (((y1.1)[7]?).bind fun y28=>(bif (decide ((8:Int)<(((List.map (d7 .i64) y1.1).length:Nat):Int))) then (((y1.1)[8]?).bind fun y31=>(bif (decide (((C9 y28 y31):Int)≥65536)) then (K8 ah8 ag9 y1.1 true (⟨0,0,0,0,0,0,0,0,0,0,false,(⟨0,0,0,0,0,0,0,0,0,0,[],[]⟩:Plan),[],[],[]⟩:i5) y1.2) else (bif (decide ((9:Int)<(((List.map (d7 .i64) y1.1).length:Nat):Int))) then (((y1.1)[9]?).bind fun y35=>(K8 ah8 ag9 y1.1 (decide (y35>1)) (⟨0,0,0,0,0,0,0,0,0,0,false,(⟨0,0,0,0,0,0,0,0,0,0,[],[]⟩:Plan),[],[],[]⟩:i5) y1.2)) else none))) else none)) else none))) else none)) else none))) else none)) else none)) else none)) else none)) else none))))
theorem cD7 {ah8:Int}{ag9:List Int}{r:i5×Int} (h:aQ7 ah8 ag9=some r):l4 E 33 [.int .u8 ah8,.sl false 1 (List.map (d7 .u8) ag9)] [] (Rs ce8 r):=so (fn:=Tryd.f33) (k:=false) (m:=0) h<| by
 intro r h;unfold aQ7 at h
 refine zc 16 [] h (fun _=>aH4) fun y1 h=> ?_
 refine zs 6 h (fun h=> ?_) fun h=> ?_
 ·
  exact zg 44 (ak9 h) [.blk 0 [some 1,some 1,some 1,some 1,some 1]]
 refine zs 3 h (fun h=> ?_) fun h=> ?_
 ·
  exact zg 40 (ak9 h) [.blk 0 [some 1,some 1,some 1,some 1,some 1]]
 refine zn 1 h fun h=> ?_
 refine zr 1 (d7 .i64) h fun y5 h=> ?_
 refine zn 2 h fun h=> ?_
 refine zr 1 (d7 .i64) h fun y8 h=> ?_
 refine zn 2 h fun h=> ?_
 refine zr 1 (d7 .i64) h fun y11 h=> ?_
 refine zn 2 h fun h=> ?_
 refine zr 1 (d7 .i64) h fun y14 h=> ?_
 refine zn 2 h fun h=> ?_
 refine zr 1 (d7 .i64) h fun y17 h=> ?_
 refine zs 3 h (fun h=> ?_) fun h=> ?_
 ·
  exact zg 22 (ak9 h) [.blk 0 [some 1,some 1,some 1,some 1,some 1]]
 refine zn 1 h fun h=> ?_
 refine zr 1 (d7 .i64) h fun y21 h=> ?_
 refine zn 2 h fun h=> ?_
 refine zr 1 (d7 .i64) h fun y24 h=> ?_
 refine zs 3 h (fun h=> ?_) fun h=> ?_
 ·
  exact zg 13 (ak9 h) [.blk 0 [some 1,some 1,some 1,some 1,some 1]]
 refine zn 1 h fun h=> ?_
 refine zr 1 (d7 .i64) h fun y28 h=> ?_
 refine zn 2 h fun h=> ?_
 refine zr 1 (d7 .i64) h fun y31 h=> ?_
 refine zs 3 h (fun h=> ?_) fun h=> ?_
 ·
  exact zg 4 (ak9 h) [.blk 0 [some 1,some 1,some 1,some 1,some 1]]
 refine zn 1 h fun h=> ?_
 refine zr 1 (d7 .i64) h fun y35 h=> ?_
 exact zg 2 (ak9 h) [.blk 0 [some 1,some 1,some 1,some 1,some 1]]
noncomputable def bV8 (y:Int):D×i4:=(.fn 87 [] [.iptr 1 [[.int .i64 y]] 0 0],[])
noncomputable def ak7 (n:Int):Option Int:=(some n)
theorem aZ6 {n r:Int} (h:ak7 n=some r):l4 E 86 [.int .i64 n] [] (Rs bV8 r):=so (fn:=Tryd.f86) (k:=false) (m:=0) h<| by
 intro r h;unfold ak7 at h
 exact zu 11 h
noncomputable def aT8:=r4 (r9 Tryd.f87)
def w7 (y:Int):List D:= [D.int .u8 y]
inductive L5 where
 | s0 (t:Int)
 | s1 (u:Int)
noncomputable def O5 (l:Nat):L5→M
 | .s0 t=>⟨[.code (r9 Tryd.f87)],[(0,D.yld l),(1,D.iptr 1 [[D.int .i64 t]] 0 0)],[]⟩
 | .s1 u=>⟨[.lpc (aT8 [1,0,0,0]) 9,.blk 0,.code (aT8 [1,1])],[(0,D.yld l),(3,D.int .u64 u)],[]⟩
noncomputable def aA5 (t:Int):Option (List Int×Option L5):=(some ([],some (.s1 (L0 .u64 (IntKind.u64.wrap ((Y7 .i64 t 1))) (IntKind.u64.wrap ((n6 .i64 t 63)))))))
noncomputable def aa9 (u:Int):Option (List Int×Option L5):=(bif (decide (u>127)) then (Option.map (fun p=>((orI .u8 (IntKind.u8.wrap (u)) 128)::p.1,p.2)) (some ([],some (.s1 (n6 .u64 u 7))))) else (Option.map (fun p=>((IntKind.u8.wrap (u))::p.1,p.2)) (some ([],none))))
noncomputable def Z0:L5→i4
 | .s0 t=> []
 | .s1 u=> []
noncomputable def R2:L5→Option (List Int×Option L5)
 | .s0 t=>aA5 t
 | .s1 u=>aa9 u
theorem bn3 {l:Nat}{ln:i4}{φ0:o8}{J:Option (List (List D))→World→(Nat→Prop)→(Nat→Prop)→Prop}{t:Int}{x:List Int×Option L5}{Y:List (List D)} (hl:Z0 (.s0 t)=ln) (h:aA5 t=some x) (ha:az6 E ln (Cx.seq Tryd.f87 0 ln l φ0 J) w7 (O5 l) Z0 x Y):i6 E (Cx.seq Tryd.f87 0 ln l φ0 J (some Y)) (fun _ s=>U6 ln s) (.go (O5 l (.s0 t))):=by
 subst hl
 unfold aA5 at h
 refine o7 hm 19 _ ?_
 obtain rfl:=Option.some.inj h
 exact ch5 (q' :=.go (O5 l (.s1 (L0 .u64 (IntKind.u64.wrap ((Y7 .i64 t 1))) (IntKind.u64.wrap ((n6 .i64 t 63))))))) (by kernel_rfl) (aF5 (by kernel_rfl) ha)
theorem bm9 {l:Nat}{ln:i4}{φ0:o8}{J:Option (List (List D))→World→(Nat→Prop)→(Nat→Prop)→Prop}{u:Int}{x:List Int×Option L5}{Y:List (List D)} (hl:Z0 (.s1 u)=ln) (h:aa9 u=some x) (ha:az6 E ln (Cx.seq Tryd.f87 0 ln l φ0 J) w7 (O5 l) Z0 x Y):i6 E (Cx.seq Tryd.f87 0 ln l φ0 J (some Y)) (fun _ s=>U6 ln s) (.go (O5 l (.s1 u))):=by
 subst hl
 unfold aa9 at h
 refine zs 8 h (fun h=> ?_) fun h=> ?_
 ·
  refine o7 hm 10 _ ?_
  refine cs6 (x:=(orI .u8 (IntKind.u8.wrap (u)) 128)) (s:= []) h ha (by kernel_rfl) (by kernel_rfl) ?_ (fun p Y h ha=> ?_)
  · --it is stopped
    refine o7 hm 5 _ ?_
    exact cc7 (d:=D.tup []) (s:= []) (by kernel_rfl) (by kernel_rfl)
  · --it goes on
    refine o7 hm 13 _ ?_
    obtain rfl:=Option.some.inj h
    exact ch5 (q' :=.go (O5 l (.s1 (n6 .u64 u 7)))) (by kernel_rfl) (aF5 (by kernel_rfl) ha)
 refine o7 hm 6 _ ?_
 refine cs6 (x:=(IntKind.u8.wrap (u))) (s:= []) h ha (by kernel_rfl) (by kernel_rfl) ?_ (fun p Y h ha=> ?_)
 · --it is stopped
   refine o7 hm 2 _ ?_
   exact cc7 (d:=D.tup []) (s:= []) (by kernel_rfl) (by kernel_rfl)
 · --it goes on
   refine o7 hm 2 _ ?_
   obtain rfl:=Option.some.inj h
   exact cC4 (d:=D.tup []) (s:= []) (by kernel_rfl) (by kernel_rfl) ha
noncomputable def aa4 (t:Int):Option (List Int):=evl R2 (.s0 t)
theorem aQ5 {t:Int}{r:List Int} (h:aa4 t=some r):av1 E 87 [D.iptr 1 [[D.int .i64 t]] 0 0] [] [] (List.map w7 r):=
 cw5 (m:=fun l=>O5 l (.s0 t)) (fn:=Tryd.f87) (by kernel_rfl) (fun l=>by kernel_rfl) (show List.take _ _=_ by kernel_rfl) (show C6 _ _=_ by kernel_rfl) (fun l φ0 J=>cm3 (step:=R2) (lnS:=Z0) (fun s x Y hl hs ha=>by
  cases s with
  | s0=>exact bn3 hl hs ha
  | s1=>exact bm9 hl hs ha) (by kernel_rfl) (cy3 h))
noncomputable def D4:=r4 (r9 Tryd.f84)
noncomputable def J8 (y:List Int):D×i4:=((i9 1 (List.map (d7 .u8) y)),[none,some ⟨1,false,(List.map (d7 .u8) y)⟩])
inductive B4 where
 | s0 (n:Int) (b0:List Int)
 | s1 (t7:Int) (b2:List Int)
 | s2 (t7:Int) (b2 Y:List Int)
noncomputable def ak2:B4→M
 | .s0 n b0=>J0 Tryd.f84 [(i9 0 (List.map (d7 .u8) b0)),.int .i64 n] [some ⟨1,false,(List.map (d7 .u8) b0)⟩]
 | .s1 t7 b2=>⟨[.code (D4 [1,0,1,0]),.blk 0,.code (D4 [1,1])],[(2,.ptr 1 0 0),(7,.fn 87 [] [.iptr 1 [[.int .i64 t7]] 0 0])],[none,some ⟨1,true,[[(i9 2 (List.map (d7 .u8) b2))]]⟩,some ⟨1,false,(List.map (d7 .u8) b2)⟩]⟩
 | .s2 t7 b2 Y=>⟨[.blk 0,.code (D4 [1,1])],[(2,.ptr 1 0 0),(7,.fn 87 [] [.iptr 1 [[.int .i64 t7]] 0 0])],[none,some ⟨1,true,[[(i9 2 (List.map (d7 .u8) b2))]]⟩,some ⟨1,false,(List.map (d7 .u8) b2)⟩]⟩
noncomputable def X9:B4→(List Int)→Prop
 | .s0 n b0,r_=>i6 E (Cx.of Tryd.f84 true 1) (QW (Rs J8 r_)) (.go (ak2 (.s0 n b0)))
 | .s1 t7 b2,r_=>i6 E (Cx.of Tryd.f84 true 1) (QW (Rs J8 r_)) (.go (ak2 (.s1 t7 b2)))
 | .s2 t7 b2 Y,r_=>af0 E (Cx.of Tryd.f84 true 1) (QW (Rs J8 r_)) 2 (D4 [1,0,1,0]) [.blk 0,.code (D4 [1,1])] [(2,.ptr 1 0 0),(7,.fn 87 [] [.iptr 1 [[.int .i64 t7]] 0 0])] [] [] (List.map w7 Y) [none,some ⟨1,true,[[(i9 2 (List.map (d7 .u8) b2))]]⟩,some ⟨1,false,(List.map (d7 .u8) b2)⟩]
noncomputable def au7 (n:Int) (b0:List Int):Option (B4⊕(List Int)):=((ak7 n).bind fun y1=>(some (.inl (.s1 y1 b0))))
noncomputable def au4 (t7:Int) (b2:List Int):Option (B4⊕(List Int)):=((aa4 t7).bind fun y1=>(some (.inl (.s2 t7 b2 y1))))
noncomputable def as1 (t7:Int) (b2:List Int):Option (B4⊕(List Int)):=(some (.inr b2))
noncomputable def as0 (t7:Int) (b2:List Int) (y:Int) (Y:List Int):Option (B4⊕(List Int)):=(bif (decide (((List.map (d7 .u8) b2).length+1)*1≤n4)) then (some (.inl (.s2 t7 (b2++ [y]) Y))) else none)
noncomputable def au8 (t7:Int) (b2:List Int):List Int→Option (B4⊕(List Int))
 | []=>as1 t7 b2
 | y::Y=>as0 t7 b2 y Y
noncomputable def M7:B4→Option (B4⊕(List Int))
 | .s0 n b0=>au7 n b0
 | .s1 t7 b2=>au4 t7 b2
 | .s2 t7 b2 Y=>au8 t7 b2 Y
theorem bC6 {n:Int}{b0 r:List Int}{x:B4⊕(List Int)} (h:au7 n b0=some x) (ha:O6 X9 r x):i6 E (Cx.of Tryd.f84 true 1) (QW (Rs J8 r)) (.go (ak2 (.s0 n b0))):=by
 unfold au7 at h
 refine zc 10 [] h (fun _=>aZ6) fun y1 h=> ?_
 exact zkP 2 h ha id [.mv 0]
theorem bC2 {t7:Int}{b2 r:List Int}{x:B4⊕(List Int)} (h:au4 t7 b2=some x) (ha:O6 X9 r x):i6 E (Cx.of Tryd.f84 true 1) (QW (Rs J8 r)) (.go (ak2 (.s1 t7 b2))):=by
 unfold au4 at h
 refine o7 hm 1 _ ?_
 have ok1:=fun(y:List Int) (hy:aa4 t7=some y)=>aQ5 hy
 refine cL3 (m:=2) (c:=D4 [1,0,1,0]) (t:= [.blk 0,.code (D4 [1,1])]) (fr:= [(2,.ptr 1 0 0),(7,.fn 87 [] [.iptr 1 [[.int .i64 t7]] 0 0])]) (σ:= [none,some ⟨1,true,[[(i9 2 (List.map (d7 .u8) b2))]]⟩,some ⟨1,false,(List.map (d7 .u8) b2)⟩]) (caps1:= [.iptr 1 [[.int .i64 t7]] 0 0]) (caps:= [.iptr 1 [[.int .i64 t7]] 0 0]) (sub1:= []) (sub:= []) w7 h (by kernel_rfl) ⟨rfl,rfl⟩ (by kernel_rfl) (by kernel_rfl) ok1 (fun y1 h1 h=> ?_)
 obtain rfl:=Option.some.inj h
 exact ha
theorem bt4 {t7:Int}{b2 r:List Int}{x:B4⊕(List Int)} (h:as1 t7 b2=some x) (ha:O6 X9 r x):af0 E (Cx.of Tryd.f84 true 1) (QW (Rs J8 r)) 2 (D4 [1,0,1,0]) [.blk 0,.code (D4 [1,1])] [(2,.ptr 1 0 0),(7,.fn 87 [] [.iptr 1 [[.int .i64 t7]] 0 0])] [] [] ([]) [none,some ⟨1,true,[[(i9 2 (List.map (d7 .u8) b2))]]⟩,some ⟨1,false,(List.map (d7 .u8) b2)⟩]:=by
 unfold as1 at h
 refine bP3 ?_
 exact ztP 8 h ha
theorem bt0 {t7:Int}{b2:List Int}{y:Int}{Y r:List Int}{x:B4⊕(List Int)} (h:as0 t7 b2 y Y=some x) (ha:O6 X9 r x):af0 E (Cx.of Tryd.f84 true 1) (QW (Rs J8 r)) 2 (D4 [1,0,1,0]) [.blk 0,.code (D4 [1,1])] [(2,.ptr 1 0 0),(7,.fn 87 [] [.iptr 1 [[.int .i64 t7]] 0 0])] [] [] (w7 y::List.map w7 Y) [none,some ⟨1,true,[[(i9 2 (List.map (d7 .u8) b2))]]⟩,some ⟨1,false,(List.map (d7 .u8) b2)⟩]:=by
 unfold as0 at h
 refine bA4 ?_
 refine zn 8 h fun h=> ?_
 refine za 0 (d7 .u8) b2 ([y]) ?_
 refine o7 hm 6 _ ?_
 obtain rfl:=Option.some.inj h
 exact bM1 [] (s1:= [none,some ⟨1,true,[[.msl 2 0 ((List.map (d7 .u8) (b2++ [y])).length) ((List.map (d7 .u8) (b2++ [y])).length) false]]⟩,some ⟨1,false,(List.map (d7 .u8) (b2++ [y]))⟩]) (s:= [none,some ⟨1,true,[[.msl 2 0 ((List.map (d7 .u8) (b2++ [y])).length) ((List.map (d7 .u8) (b2++ [y])).length) false]]⟩,some ⟨1,false,(List.map (d7 .u8) (b2++ [y]))⟩]) (by kernel_rfl) (rfl) (by kernel_rfl) ha
theorem by5 {t7:Int}{b2 Y r:List Int}{x:B4⊕(List Int)} (h:au8 t7 b2 Y=some x) (ha:O6 X9 r x):af0 E (Cx.of Tryd.f84 true 1) (QW (Rs J8 r)) 2 (D4 [1,0,1,0]) [.blk 0,.code (D4 [1,1])] [(2,.ptr 1 0 0),(7,.fn 87 [] [.iptr 1 [[.int .i64 t7]] 0 0])] [] [] (List.map w7 Y) [none,some ⟨1,true,[[(i9 2 (List.map (d7 .u8) b2))]]⟩,some ⟨1,false,(List.map (d7 .u8) b2)⟩]:=by
 cases Y with
 | nil=>exact bt4 h ha
 | cons y Y=>exact bt0 h ha
noncomputable def aG8 (n:Int) (b0:List Int):Option (List Int):=evf M7 (.s0 n b0)
theorem bO1 {n:Int}{b0 r:List Int} (h:Ev M7 (.s0 n b0) r):l4 E 84 [(i9 0 (List.map (d7 .u8) b0)),.int .i64 n] [some ⟨1,false,(List.map (d7 .u8) b0)⟩] (Rs J8 r):=
 aI7 (m:=ak2 (.s0 n b0)) (fn:=Tryd.f84) (by kernel_rfl) (by kernel_rfl) (bM2 (Pd:=X9) (fun s x r hs ha=>by
  cases s with
  | s0=>exact bC6 hs ha
  | s1=>exact bC2 hs ha
  | s2=>exact by5 hs ha) h)
theorem bL2 {n:Int}{b0 r:List Int} (h:aG8 n b0=some r):l4 E 84 [(i9 0 (List.map (d7 .u8) b0)),.int .i64 n] [some ⟨1,false,(List.map (d7 .u8) b0)⟩] (Rs J8 r):=bO1 (bG0 h)
noncomputable def D6:=r4 (r9 Tryd.f84)
noncomputable def Q8 (y:List Int):D×i4:=((i9 0 (List.map (d7 .u8) y)),[some ⟨1,false,(List.map (d7 .u8) y)⟩])
inductive I0 where
 | s0 (n:Int)
 | s1 (t7:Int) (b1:List Int)
 | s2 (t7:Int) (b1 Y:List Int)
noncomputable def aB2:I0→M
 | .s0 n=>J0 Tryd.f84 [.sl true 0 [],.int .i64 n] []
 | .s1 t7 b1=>⟨[.code (D6 [1,0,1,0]),.blk 0,.code (D6 [1,1])],[(2,.ptr 0 0 0),(7,.fn 87 [] [.iptr 1 [[.int .i64 t7]] 0 0])],[some ⟨1,true,[[(i9 1 (List.map (d7 .u8) b1))]]⟩,some ⟨1,false,(List.map (d7 .u8) b1)⟩]⟩
 | .s2 t7 b1 Y=>⟨[.blk 0,.code (D6 [1,1])],[(2,.ptr 0 0 0),(7,.fn 87 [] [.iptr 1 [[.int .i64 t7]] 0 0])],[some ⟨1,true,[[(i9 1 (List.map (d7 .u8) b1))]]⟩,some ⟨1,false,(List.map (d7 .u8) b1)⟩]⟩
noncomputable def al1:I0→(List Int)→Prop
 | .s0 n,r_=>i6 E (Cx.of Tryd.f84 true 0) (QW (Rs Q8 r_)) (.go (aB2 (.s0 n)))
 | .s1 t7 b1,r_=>i6 E (Cx.of Tryd.f84 true 0) (QW (Rs Q8 r_)) (.go (aB2 (.s1 t7 b1)))
 | .s2 t7 b1 Y,r_=>af0 E (Cx.of Tryd.f84 true 0) (QW (Rs Q8 r_)) 1 (D6 [1,0,1,0]) [.blk 0,.code (D6 [1,1])] [(2,.ptr 0 0 0),(7,.fn 87 [] [.iptr 1 [[.int .i64 t7]] 0 0])] [] [] (List.map w7 Y) [some ⟨1,true,[[(i9 1 (List.map (d7 .u8) b1))]]⟩,some ⟨1,false,(List.map (d7 .u8) b1)⟩]
noncomputable def aN9 (n:Int):Option (I0⊕(List Int)):=((ak7 n).bind fun y1=>(some (.inl (.s1 y1 ([])))))
noncomputable def aO2 (t7:Int) (b1:List Int):Option (I0⊕(List Int)):=((aa4 t7).bind fun y1=>(some (.inl (.s2 t7 b1 y1))))
noncomputable def aF3 (t7:Int) (b1:List Int):Option (I0⊕(List Int)):=(some (.inr b1))
noncomputable def aG7 (t7:Int) (b1:List Int) (y:Int) (Y:List Int):Option (I0⊕(List Int)):=(bif (decide (((List.map (d7 .u8) b1).length+1)*1≤n4)) then (some (.inl (.s2 t7 (b1++ [y]) Y))) else none)
noncomputable def aL9 (t7:Int) (b1:List Int):List Int→Option (I0⊕(List Int))
 | []=>aF3 t7 b1
 | y::Y=>aG7 t7 b1 y Y
noncomputable def U1:I0→Option (I0⊕(List Int))
 | .s0 n=>aN9 n
 | .s1 t7 b1=>aO2 t7 b1
 | .s2 t7 b1 Y=>aL9 t7 b1 Y
theorem bV1 {n:Int}{r:List Int}{x:I0⊕(List Int)} (h:aN9 n=some x) (ha:O6 al1 r x):i6 E (Cx.of Tryd.f84 true 0) (QW (Rs Q8 r)) (.go (aB2 (.s0 n))):=by
 unfold aN9 at h
 refine zc 10 [] h (fun _=>aZ6) fun y1 h=> ?_
 refine o7 hm 2 _ ?_
 obtain rfl:=Option.some.inj h
 refine aL8 388 [.matc 0 0 0 1] (m' :=⟨[.code (D6 [1,0,1,0]),.blk 0,.code (D6 [1,1])],[(2,.ptr 0 0 0),(7,.fn 87 [] [.iptr 1 [[.int .i64 y1]] 0 0])],[some ⟨1,true,[[.msl 1 0 0 0 false]]⟩,some ⟨1,false,[]⟩]⟩) (by kernel_rfl) ?_
 refine aB1 (n1:=0) (n2:=(List.map (d7 .u8) ([])).length) (fun n_len=> .go ⟨[.code (D6 [1,0,1,0]),.blk 0,.code (D6 [1,1])],[(2,.ptr 0 0 0),(7,.fn 87 [] [.iptr 1 [[.int .i64 y1]] 0 0])],[some ⟨1,true,[[.msl 1 0 n_len n_len false]]⟩,some ⟨1,false,[]⟩]⟩) (by simp) ?_
 exact ha
theorem bX3 {t7:Int}{b1 r:List Int}{x:I0⊕(List Int)} (h:aO2 t7 b1=some x) (ha:O6 al1 r x):i6 E (Cx.of Tryd.f84 true 0) (QW (Rs Q8 r)) (.go (aB2 (.s1 t7 b1))):=by
 unfold aO2 at h
 refine o7 hm 1 _ ?_
 have ok1:=fun(y:List Int) (hy:aa4 t7=some y)=>aQ5 hy
 refine cL3 (m:=1) (c:=D6 [1,0,1,0]) (t:= [.blk 0,.code (D6 [1,1])]) (fr:= [(2,.ptr 0 0 0),(7,.fn 87 [] [.iptr 1 [[.int .i64 t7]] 0 0])]) (σ:= [some ⟨1,true,[[(i9 1 (List.map (d7 .u8) b1))]]⟩,some ⟨1,false,(List.map (d7 .u8) b1)⟩]) (caps1:= [.iptr 1 [[.int .i64 t7]] 0 0]) (caps:= [.iptr 1 [[.int .i64 t7]] 0 0]) (sub1:= []) (sub:= []) w7 h (by kernel_rfl) ⟨rfl,rfl⟩ (by kernel_rfl) (by kernel_rfl) ok1 (fun y1 h1 h=> ?_)
 obtain rfl:=Option.some.inj h
 exact ha
theorem bM8 {t7:Int}{b1 r:List Int}{x:I0⊕(List Int)} (h:aF3 t7 b1=some x) (ha:O6 al1 r x):af0 E (Cx.of Tryd.f84 true 0) (QW (Rs Q8 r)) 1 (D6 [1,0,1,0]) [.blk 0,.code (D6 [1,1])] [(2,.ptr 0 0 0),(7,.fn 87 [] [.iptr 1 [[.int .i64 t7]] 0 0])] [] [] ([]) [some ⟨1,true,[[(i9 1 (List.map (d7 .u8) b1))]]⟩,some ⟨1,false,(List.map (d7 .u8) b1)⟩]:=by
 unfold aF3 at h
 refine bP3 ?_
 exact ztP 8 h ha
theorem bK6 {t7:Int}{b1:List Int}{y:Int}{Y r:List Int}{x:I0⊕(List Int)} (h:aG7 t7 b1 y Y=some x) (ha:O6 al1 r x):af0 E (Cx.of Tryd.f84 true 0) (QW (Rs Q8 r)) 1 (D6 [1,0,1,0]) [.blk 0,.code (D6 [1,1])] [(2,.ptr 0 0 0),(7,.fn 87 [] [.iptr 1 [[.int .i64 t7]] 0 0])] [] [] (w7 y::List.map w7 Y) [some ⟨1,true,[[(i9 1 (List.map (d7 .u8) b1))]]⟩,some ⟨1,false,(List.map (d7 .u8) b1)⟩]:=by
 unfold aG7 at h
 refine bA4 ?_
 refine zn 8 h fun h=> ?_
 refine za 0 (d7 .u8) b1 ([y]) ?_
 refine o7 hm 6 _ ?_
 obtain rfl:=Option.some.inj h
 exact bM1 [] (s1:= [some ⟨1,true,[[.msl 1 0 ((List.map (d7 .u8) (b1++ [y])).length) ((List.map (d7 .u8) (b1++ [y])).length) false]]⟩,some ⟨1,false,(List.map (d7 .u8) (b1++ [y]))⟩]) (s:= [some ⟨1,true,[[.msl 1 0 ((List.map (d7 .u8) (b1++ [y])).length) ((List.map (d7 .u8) (b1++ [y])).length) false]]⟩,some ⟨1,false,(List.map (d7 .u8) (b1++ [y]))⟩]) (by kernel_rfl) (rfl) (by kernel_rfl) ha
theorem bU6 {t7:Int}{b1 Y r:List Int}{x:I0⊕(List Int)} (h:aL9 t7 b1 Y=some x) (ha:O6 al1 r x):af0 E (Cx.of Tryd.f84 true 0) (QW (Rs Q8 r)) 1 (D6 [1,0,1,0]) [.blk 0,.code (D6 [1,1])] [(2,.ptr 0 0 0),(7,.fn 87 [] [.iptr 1 [[.int .i64 t7]] 0 0])] [] [] (List.map w7 Y) [some ⟨1,true,[[(i9 1 (List.map (d7 .u8) b1))]]⟩,some ⟨1,false,(List.map (d7 .u8) b1)⟩]:=by
 cases Y with
 | nil=>exact bM8 h ha
 | cons y Y=>exact bK6 h ha
noncomputable def by7 (n:Int):Option (List Int):=evf U1 (.s0 n)
theorem ck8 {n:Int}{r:List Int} (h:Ev U1 (.s0 n) r):l4 E 84 [.sl true 0 [],.int .i64 n] [] (Rs Q8 r):=
 aI7 (m:=aB2 (.s0 n)) (fn:=Tryd.f84) (by kernel_rfl) (by kernel_rfl) (bM2 (Pd:=al1) (fun s x r hs ha=>by
  cases s with
  | s0=>exact bV1 hs ha
  | s1=>exact bX3 hs ha
  | s2=>exact bU6 hs ha) h)
theorem ck4 {n:Int}{r:List Int} (h:by7 n=some r):l4 E 84 [.sl true 0 [],.int .i64 n] [] (Rs Q8 r):=ck8 (bG0 h)
noncomputable def bW3 (y:List Int):D×i4:=((i9 0 (List.map (d7 .u8) y)),[some ⟨1,false,(List.map (d7 .u8) y)⟩])
noncomputable def ak6 (n:Int):Option (List Int):=((by7 n).bind fun y1=>(some y1))
theorem bc0 {n:Int}{r:List Int} (h:ak6 n=some r):l4 E 83 [.int .i64 n] [] (Rs bW3 r):=so (fn:=Tryd.f83) (k:=true) (m:=0) h<| by
 intro r h;unfold ak6 at h
 refine zc 8 [none] h (fun _=>ck4) fun y1 h=> ?_
 exact zu 3 h
noncomputable def aX5:=r4 (r9 Tryd.f72)
noncomputable def bb3 (y:Int×(List Int)):D×i4:=(.tup [(i9 0 (List.map (d7 .u8) y.2)),.int .i64 y.1],[some ⟨1,false,(List.map (d7 .u8) y.2)⟩])
inductive ae3 where
 | s0 (l_:List Int)
 | s1 (G7:List Int) (t14 t15:Int) (b:List Int)
noncomputable def aY1:ae3→M
 | .s0 l_=>J0 Tryd.f72 [.sl false 1 (List.map (d7 .i64) l_)] []
 | .s1 G7 t14 t15 b=>⟨[.lpc (aX5 [1,1,1,0,1,0,0]) 57360,.blk 0,.code (aX5 [1,1,1,1])],[(4,(i9 0 (List.map (d7 .u8) b))),(13,.sl false 1 (List.map (d7 .i64) G7)),(14,.int .i64 t14),(15,.int .i64 t15)],[some ⟨1,false,(List.map (d7 .u8) b)⟩]⟩
abbrev aY9:=SOk E (Cx.of Tryd.f72 true 0) bb3 aY1
noncomputable def ar5 (l_:List Int):Option (ae3⊕(Int×(List Int))):=(bif (decide (((((List.map (d7 .i64) l_).length:Nat):Int):Int)>64)) then (some (.inr (2,[]))) else ((ak6 (((List.map (d7 .i64) l_).length:Nat):Int)).bind fun y2=>(some (.inl (.s1 l_ (((List.map (d7 .i64) l_).length:Nat):Int) 0 y2)))))
noncomputable def ag3 (G7:List Int) (t14 t15:Int) (b:List Int):Option (ae3⊕(Int×(List Int))):=(bif (decide (t15<t14)) then (bif ((decide ((0:Int)≤t15))&&(decide (t15<(((List.map (d7 .i64) G7).length:Nat):Int)))) then (((G7)[t15.toNat]?).bind fun y3=>((aG8 y3 b).bind fun y5=>(some (.inl (.s1 G7 t14 (IntKind.i64.wrap (t15+1)) y5))))) else none) else (some (.inr (0,b))))
noncomputable def V1:ae3→Option (ae3⊕(Int×(List Int)))
 | .s0 l_=>ar5 l_
 | .s1 G7 t14 t15 b=>ag3 G7 t14 t15 b
theorem bt5 {l_}:aY9 (.s0 l_) (ar5 l_):=by
 intro r x h ha;unfold ar5 at h
 refine zs 13 h (fun h=> ?_) fun h=> ?_
 ·
  exact zt 6 h ha [.matt 0 0 1]
 refine zc 6 [] h (fun _=>bc0) fun y2 h=> ?_
 exact zj 12 h ha
theorem bv2 {G7 t14 t15 b}:aY9 (.s1 G7 t14 t15 b) (ag3 G7 t14 t15 b):=by
 intro r x h ha;unfold ag3 at h
 refine zs 7 h (fun h=> ?_) fun h=> ?_
 ·
  refine zn 6 h fun h=> ?_
  refine zr 1 (d7 .i64) h fun y3 h=> ?_
  refine zc 6 [] h (fun _=>bL2) fun y5 h=> ?_
  exact zj 8 h ha
 exact zt 8 h ha
noncomputable def ap2 (l_:List Int):Option (Int×(List Int)):=evf V1 (.s0 l_)
theorem aA2 {l_:List Int}{r:Int×(List Int)} (h:ap2 l_=some r):l4 E 72 [.sl false 1 (List.map (d7 .i64) l_)] [] (Rs bb3 r):=sc (fn:=Tryd.f72) (k:=true) (m:=0) (I6:=aY1) h fun s=>by
 cases s with
 | s0=>exact bt5
 | s1=>exact bv2
noncomputable def I4:=r4 (r9 Tryd.f73)
noncomputable def bH4 (y:(List Int)×Int):D×i4:=(.tup [.sl false 1 (List.map (d7 .u8) y.1),.int .i64 y.2],[])
inductive as5 where
 | s0 (p_:Plan)
 | s1 (t17:List Int) (t18 T1:Int) (p_:Plan) (pen:List Int)
 | s2 (R9:Int) (b:List Int) (b1:List (List Int))
noncomputable def bK1:as5→M
 | .s0 p_=>J0 Tryd.f73 [.agg (Plan.enc p_)] []
 | .s1 t17 t18 T1 p_ pen=>⟨[.lpc (I4 [1,1,1,0,1,0,0]) 917522,.blk 0,.code (I4 [1,1,1,1])],[(1,.ptr 0 0 0),(4,(i9 1 (List.map (d7 .i64) pen))),(17,.sl false 1 (List.map (d7 .i64) t17)),(18,.int .i64 t18),(19,.int .i64 T1)],[some ⟨12,false,[(Plan.enc p_)]⟩,some ⟨1,false,(List.map (d7 .i64) pen)⟩]⟩
 | .s2 R9 b b1=>⟨[.lpc (I4 [1,1,1,1,1,1,0,1,0,0]) 120259084544,.blk 2,.code (I4 [1,1,1,1,1,1,1])],[(8,(i9 0 (List.map (d7 .u8) b))),(34,.msl 1 0 ((List.map (D1 1 (d7 .i64)) b1).length) ((List.map (D1 1 (d7 .i64)) b1).length) true),(35,.int .i64 3),(36,.int .i64 R9)],[some ⟨1,false,(List.map (d7 .u8) b)⟩,some ⟨1,false,(List.map (D1 1 (d7 .i64)) b1)⟩]⟩
abbrev bd2:=SOk E (Cx.of Tryd.f73 false 0) bH4 bK1
noncomputable def aA6 (p_:Plan):Option (as5⊕((List Int)×Int)):=((ai2 p_).bind fun y1=>(bif (!y1) then (some (.inr ([],41))) else (some (.inl (.s1 p_.Pen (((List.map (d7 .i64) p_.Pen).length:Nat):Int) 0 p_ ([]))))))
noncomputable def ay6 (t17:List Int) (t18 T1:Int) (p_:Plan) (pen:List Int):Option (as5⊕((List Int)×Int)):=(bif (decide (T1<t18)) then (bif ((decide ((0:Int)≤T1))&&(decide (T1<(((List.map (d7 .i64) t17).length:Nat):Int)))) then (((t17)[T1.toNat]?).bind fun y3=>(bif (decide (((List.map (d7 .i64) pen).length+1)*8≤n4)) then (some (.inl (.s1 t17 t18 (IntKind.i64.wrap (T1+1)) p_ (pen++ [y3])))) else none)) else none) else ((Y6 p_).bind fun y6=>(some (.inl (.s2 0 ([]) ([[y6.1,y6.2.1,y6.2.2.1,y6.2.2.2.1,y6.2.2.2.2.1,y6.2.2.2.2.2.1,y6.2.2.2.2.2.2.1,y6.2.2.2.2.2.2.2.1,y6.2.2.2.2.2.2.2.2.1,y6.2.2.2.2.2.2.2.2.2],pen,p_.Changes]))))))
noncomputable def aq6 (R9:Int) (b:List Int) (b1:List (List Int)):Option (as5⊕((List Int)×Int)):=(bif (decide (R9<3)) then (bif ((decide ((0:Int)≤R9))&&(decide (R9<(((List.map (D1 1 (d7 .i64)) b1).length:Nat):Int)))) then (((b1)[(0+R9.toNat)]?).bind fun y3=>((ap2 y3).bind fun y5=>(bif (decide (((List.map (d7 .u8) b).length+(List.take ((List.map (d7 .u8) y5.2).length) (List.drop 0 (List.map (d7 .u8) y5.2))).length)*1≤n4)) then (some (.inl (.s2 (IntKind.i64.wrap (R9+1)) (b++y5.2) b1))) else none))) else none) else (some (.inr (b,0))))
noncomputable def K0:as5→Option (as5⊕((List Int)×Int))
 | .s0 p_=>aA6 p_
 | .s1 t17 t18 T1 p_ pen=>ay6 t17 t18 T1 p_ pen
 | .s2 R9 b b1=>aq6 R9 b b1
theorem bW5 {p_}:bd2 (.s0 p_) (aA6 p_):=by
 intro r x h ha;unfold aA6 at h
 refine zc 12 [] h (fun _=>aJ5) fun y1 h=> ?_
 refine zs 3 h (fun h=> ?_) fun h=> ?_
 ·
  exact zt 6 h ha [.slot 0 [some 1]]
 refine o7 hm 17 _ ?_
 obtain rfl:=Option.some.inj h
 refine aL8 917522 [.mat 4 1] (m' :=⟨[.lpc (I4 [1,1,1,0,1,0,0]) 917522,.blk 0,.code (I4 [1,1,1,1])],[(1,.ptr 0 0 0),(4,.msl 1 0 0 0 false),(17,.sl false 1 (List.map (d7 .i64) p_.Pen)),(18,.int .i64 (((List.map (d7 .i64) p_.Pen).length:Nat):Int)),(19,.int .i64 0)],[some ⟨12,false,[(Plan.enc p_)]⟩,some ⟨1,false,[]⟩]⟩) (by kernel_rfl) ?_
 refine aB1 (n1:=0) (n2:=(List.map (d7 .i64) ([])).length) (fun n_len=> .go ⟨[.lpc (I4 [1,1,1,0,1,0,0]) 917522,.blk 0,.code (I4 [1,1,1,1])],[(1,.ptr 0 0 0),(4,.msl 1 0 n_len n_len false),(17,.sl false 1 (List.map (d7 .i64) p_.Pen)),(18,.int .i64 (((List.map (d7 .i64) p_.Pen).length:Nat):Int)),(19,.int .i64 0)],[some ⟨12,false,[(Plan.enc p_)]⟩,some ⟨1,false,[]⟩]⟩) (by simp) ?_
 exact ha
theorem bX9 {t17 t18 T1 p_ pen}:bd2 (.s1 t17 t18 T1 p_ pen) (ay6 t17 t18 T1 p_ pen):=by
 intro r x h ha;unfold ay6 at h
 refine zs 7 h (fun h=> ?_) fun h=> ?_
 ·
  refine zn 6 h fun h=> ?_
  refine zr 1 (d7 .i64) h fun y3 h=> ?_
  refine zn 8 h fun h=> ?_
  refine za 0 (d7 .i64) pen ([y3]) ?_
  exact zj 8 h ha
 refine zc 6 [] h (fun _=>aA3) fun y6 h=> ?_
 refine o7 hm 16 _ ?_
 refine cK6 0 0 0 (n1:=10) (n2:=10) (raw:=([[.int .i64 y6.1],[.int .i64 y6.2.1],[.int .i64 y6.2.2.1],[.int .i64 y6.2.2.2.1],[.int .i64 y6.2.2.2.2.1],[.int .i64 y6.2.2.2.2.2.1],[.int .i64 y6.2.2.2.2.2.2.1],[.int .i64 y6.2.2.2.2.2.2.2.1],[.int .i64 y6.2.2.2.2.2.2.2.2.1],[.int .i64 y6.2.2.2.2.2.2.2.2.2]])) (rs:=([[.int .i64 y6.1],[.int .i64 y6.2.1],[.int .i64 y6.2.2.1],[.int .i64 y6.2.2.2.1],[.int .i64 y6.2.2.2.2.1],[.int .i64 y6.2.2.2.2.2.1],[.int .i64 y6.2.2.2.2.2.2.1],[.int .i64 y6.2.2.2.2.2.2.2.1],[.int .i64 y6.2.2.2.2.2.2.2.2.1],[.int .i64 y6.2.2.2.2.2.2.2.2.2]])) (by kernel_rfl) rfl rfl ?_
 refine cK6 0 1 0 (n1:=(0+(List.map (d7 .i64) pen).length)) (n2:=((List.map (d7 .i64) pen).length)) (raw:=(List.take ((List.map (d7 .i64) pen).length) (List.drop 0 (List.map (d7 .i64) pen)))) (rs:=(List.map (d7 .i64) pen)) (by kernel_rfl) (C8 _) (by simp only[F9,Q6,List.map_take,List.map_drop]) ?_
 obtain rfl:=Option.some.inj h
 refine aL8 120259084544 [.mat 8 1] (m' :=⟨[.lpc (I4 [1,1,1,1,1,1,0,1,0,0]) 120259084544,.blk 2,.code (I4 [1,1,1,1,1,1,1])],[(8,.msl 0 0 0 0 false),(34,.msl 1 0 3 3 true),(35,.int .i64 3),(36,.int .i64 0)],[some ⟨1,false,[]⟩,some ⟨1,false,[[.sl false 1 [[.int .i64 y6.1],[.int .i64 y6.2.1],[.int .i64 y6.2.2.1],[.int .i64 y6.2.2.2.1],[.int .i64 y6.2.2.2.2.1],[.int .i64 y6.2.2.2.2.2.1],[.int .i64 y6.2.2.2.2.2.2.1],[.int .i64 y6.2.2.2.2.2.2.2.1],[.int .i64 y6.2.2.2.2.2.2.2.2.1],[.int .i64 y6.2.2.2.2.2.2.2.2.2]]],[.sl false 1 (List.map (d7 .i64) pen)],[.sl false 1 (List.map (d7 .i64) p_.Changes)]]⟩]⟩) (by kernel_rfl) ?_
 refine aB1 (n1:=0) (n2:=(List.map (d7 .u8) ([])).length) (fun n_len=> .go ⟨[.lpc (I4 [1,1,1,1,1,1,0,1,0,0]) 120259084544,.blk 2,.code (I4 [1,1,1,1,1,1,1])],[(8,.msl 0 0 n_len n_len false),(34,.msl 1 0 3 3 true),(35,.int .i64 3),(36,.int .i64 0)],[some ⟨1,false,[]⟩,some ⟨1,false,[[.sl false 1 [[.int .i64 y6.1],[.int .i64 y6.2.1],[.int .i64 y6.2.2.1],[.int .i64 y6.2.2.2.1],[.int .i64 y6.2.2.2.2.1],[.int .i64 y6.2.2.2.2.2.1],[.int .i64 y6.2.2.2.2.2.2.1],[.int .i64 y6.2.2.2.2.2.2.2.1],[.int .i64 y6.2.2.2.2.2.2.2.2.1],[.int .i64 y6.2.2.2.2.2.2.2.2.2]]],[.sl false 1 (List.map (d7 .i64) pen)],[.sl false 1 (List.map (d7 .i64) p_.Changes)]]⟩]⟩) (by simp) ?_
 refine aB1 (n1:=3) (n2:=(List.map (D1 1 (d7 .i64)) ([[y6.1,y6.2.1,y6.2.2.1,y6.2.2.2.1,y6.2.2.2.2.1,y6.2.2.2.2.2.1,y6.2.2.2.2.2.2.1,y6.2.2.2.2.2.2.2.1,y6.2.2.2.2.2.2.2.2.1,y6.2.2.2.2.2.2.2.2.2],pen,p_.Changes])).length) (fun n_len=> .go ⟨[.lpc (I4 [1,1,1,1,1,1,0,1,0,0]) 120259084544,.blk 2,.code (I4 [1,1,1,1,1,1,1])],[(8,.msl 0 0 ((List.map (d7 .u8) ([])).length) ((List.map (d7 .u8) ([])).length) false),(34,.msl 1 0 n_len n_len true),(35,.int .i64 3),(36,.int .i64 0)],[some ⟨1,false,[]⟩,some ⟨1,false,[[.sl false 1 [[.int .i64 y6.1],[.int .i64 y6.2.1],[.int .i64 y6.2.2.1],[.int .i64 y6.2.2.2.1],[.int .i64 y6.2.2.2.2.1],[.int .i64 y6.2.2.2.2.2.1],[.int .i64 y6.2.2.2.2.2.2.1],[.int .i64 y6.2.2.2.2.2.2.2.1],[.int .i64 y6.2.2.2.2.2.2.2.2.1],[.int .i64 y6.2.2.2.2.2.2.2.2.2]]],[.sl false 1 (List.map (d7 .i64) pen)],[.sl false 1 (List.map (d7 .i64) p_.Changes)]]⟩]⟩) (by simp) ?_
 exact ha
theorem bW9 {R9 b b1}:bd2 (.s2 R9 b b1) (aq6 R9 b b1):=by
 intro r x h ha;unfold aq6 at h
 refine zs 7 h (fun h=> ?_) fun h=> ?_
 ·
  refine zn 6 h fun h=> ?_
  refine zr 1 (D1 1 (d7 .i64)) h fun y3 h=> ?_
  refine zc 6 [] h (fun _=>aA2) fun y5 h=> ?_
  refine zm 10 (b:=(Nat.beq ((List.take ((List.map (d7 .u8) y5.2).length) (List.drop 0 (List.map (d7 .u8) y5.2))).length) ((List.map (d7 .u8) y5.2).length))) (by simp) ?_
  refine zn 0 h fun h=> ?_
  refine zm 0 (b:=(Nat.ble (0+(List.map (d7 .u8) b).length) ((List.map (d7 .u8) b).length))) (C8 _) ?_
  refine zw 0 (a:=(List.take ((List.map (d7 .u8) b).length) (List.drop 0 (List.map (d7 .u8) b))++(List.take ((List.map (d7 .u8) y5.2).length) (List.drop 0 (List.map (d7 .u8) y5.2))))) (b:=(List.map (d7 .u8) (b++y5.2))) (by simp only[F9,Q6,List.map_append,List.map_take,List.map_drop]) ?_
  exact zj 8 h ha
 refine zm 8 (b:=(Nat.ble (0+(List.map (d7 .u8) b).length) ((List.map (d7 .u8) b).length))) (C8 _) ?_
 obtain rfl:=Option.some.inj h
 have hv:=ha
 simp only[aG6] at hv
 subst hv
 exact aB5 [] (d1:=.tup [.sl false 1 (List.take ((List.map (d7 .u8) b).length) (List.drop 0 (List.map (d7 .u8) b))),.int .i64 0]) (d:=.tup [.sl false 1 (List.map (d7 .u8) b),.int .i64 0]) (s1:= []) (s:= []) (by kernel_rfl) ⟨by simp[f0.enc,f0.l,l6.enc,l6.l,q9.enc,q9.l,i5.enc,i5.l,Plan.enc,Plan.l,q6.enc,q6.l,i0.enc,i0.l,q7.enc,q7.l,n5.enc,n5.l,o6.enc,o6.l,List.take_of_length_le,List.map_take,List.map_drop],rfl⟩ ⟨rfl,rfl⟩ Cx.fin_of
noncomputable def bd3 (p_:Plan):Option ((List Int)×Int):=evf K0 (.s0 p_)
theorem ck1 {p_:Plan}{r:(List Int)×Int} (h:bd3 p_=some r):l4 E 73 [.agg (Plan.enc p_)] [] (Rs bH4 r):=sc (fn:=Tryd.f73) (k:=false) (m:=0) (I6:=bK1) h fun s=>by
 cases s with
 | s0=>exact bW5
 | s1=>exact bX9
 | s2=>exact bW9
noncomputable def bL7 (y:Int×(List Int)):D×i4:=(.tup [(i9 0 (List.map (d7 .u8) y.2)),.int .i64 y.1],[some ⟨1,false,(List.map (d7 .u8) y.2)⟩])
noncomputable def R4 (s_:List Int):Option (Int×(List Int)):=(bif (decide (((((List.map (d7 .u8) s_).length:Nat):Int):Int)>4096)) then (some (2,[])) else ((ak6 (((List.map (d7 .u8) s_).length:Nat):Int)).bind fun y2=>(bif (decide (((List.map (d7 .u8) y2).length+(List.map (d7 .u8) s_).length)*1≤n4)) then (some (0,(y2++s_))) else none)))
theorem aV1 {s_:List Int}{r:Int×(List Int)} (h:R4 s_=some r):l4 E 74 [.sl false 1 (List.map (d7 .u8) s_)] [] (Rs bL7 r):=so (fn:=Tryd.f74) (k:=true) (m:=0) h<| by
 intro r h;unfold R4 at h
 refine zs 13 h (fun h=> ?_) fun h=> ?_
 ·
  exact zu 6 h [.matt 0 0 1]
 refine zc 6 [] h (fun _=>bc0) fun y2 h=> ?_
 refine zn 2 h fun h=> ?_
 refine za 0 (d7 .u8) y2 s_ ?_
 exact zu 4 h
noncomputable def M3:=r4 (r9 Tryd.f60)
noncomputable def bI9 (y:Int×(List Int)×Int):D×i4:=(.tup [.int .u8 y.1,.sl false 1 (List.map (d7 .u8) y.2.1),.int .i64 y.2.2],[])
inductive aj3 where
 | s0 (m:i5)
 | s3 (m:i5) (l_:List Int)
 | s2 (m:i5) (b:List Int)
 | s1 (t81:Int) (m:i5) (b:List Int) (b2:List (List Int))
noncomputable def bD2:aj3→M
 | .s0 m=>J0 Tryd.f60 [.agg (i5.enc m)] []
 | .s3 m l_=>⟨[.code (M3 [1,1,1,1])],[(1,.ptr 0 0 0),(5,.msl 1 0 ((List.map (d7 .i64) l_).length) ((List.map (d7 .i64) l_).length) true)],[some ⟨26,false,[(i5.enc m)]⟩,some ⟨1,false,(List.map (d7 .i64) l_)⟩]⟩
 | .s2 m b=>⟨[.code (M3 [1,1,1,1,1,1])],[(1,.ptr 0 0 0),(6,(i9 1 (List.map (d7 .u8) b)))],[some ⟨26,false,[(i5.enc m)]⟩,some ⟨1,false,(List.map (d7 .u8) b)⟩]⟩
 | .s1 t81 m b b2=>⟨[.lpc (M3 [1,1,1,1,1,1,1,1,0,1,0,0]) 4231240368651202111471682,.blk 0,.code (M3 [1,1,1,1,1,1,1,1,1])],[(1,.ptr 0 0 0),(6,(i9 1 (List.map (d7 .u8) b))),(79,.msl 2 0 ((List.map (D1 1 (d7 .u8)) b2).length) ((List.map (D1 1 (d7 .u8)) b2).length) true),(80,.int .i64 2),(81,.int .i64 t81)],[some ⟨26,false,[(i5.enc m)]⟩,some ⟨1,false,(List.map (d7 .u8) b)⟩,some ⟨1,false,(List.map (D1 1 (d7 .u8)) b2)⟩]⟩
abbrev aL6:=SOk E (Cx.of Tryd.f60 false 0) bI9 bD2
noncomputable def az9 (m:i5):Option (aj3⊕(Int×(List Int)×Int)):=((ac0 m).bind fun y1=>(bif (!y1) then (some (.inr (0,[],51))) else (bif m.HasPlan then (some (.inl (.s3 m ([m.From,m.To,m.Epoch,m.Ballot,m.Accepted,m.Nonce,m.Time,(IntKind.i64.wrap (m.Up)),m.Code,1])))) else (some (.inl (.s3 m ([m.From,m.To,m.Epoch,m.Ballot,m.Accepted,m.Nonce,m.Time,(IntKind.i64.wrap (m.Up)),m.Code,0])))))))
noncomputable def aM6 (m:i5) (l_:List Int):Option (aj3⊕(Int×(List Int)×Int)):=((ap2 l_).bind fun y1=>(bif m.HasPlan then ((bd3 m.Plan).bind fun y3=>((R4 y3.1).bind fun y4=>(bif (decide (((List.map (d7 .u8) y1.2).length+(List.take ((List.map (d7 .u8) y4.2).length) (List.drop 0 (List.map (d7 .u8) y4.2))).length)*1≤n4)) then (some (.inl (.s2 m (y1.2++y4.2)))) else none))) else (some (.inl (.s2 m y1.2)))))
noncomputable def aM7 (m:i5) (b:List Int):Option (aj3⊕(Int×(List Int)×Int)):=((ap2 m.ID).bind fun y1=>(bif (decide (((List.map (d7 .u8) b).length+(List.take ((List.map (d7 .u8) y1.2).length) (List.drop 0 (List.map (d7 .u8) y1.2))).length)*1≤n4)) then (some (.inl (.s1 0 m (b++y1.2) ([m.Session,m.Payload])))) else none))
noncomputable def ar3 (t81:Int) (m:i5) (b:List Int) (b2:List (List Int)):Option (aj3⊕(Int×(List Int)×Int)):=(bif (decide (t81<2)) then (bif ((decide ((0:Int)≤t81))&&(decide (t81<(((List.map (D1 1 (d7 .u8)) b2).length:Nat):Int)))) then (((b2)[(0+t81.toNat)]?).bind fun y3=>((R4 y3).bind fun y5=>(bif (decide (((List.map (d7 .u8) b).length+(List.take ((List.map (d7 .u8) y5.2).length) (List.drop 0 (List.map (d7 .u8) y5.2))).length)*1≤n4)) then (some (.inl (.s1 (IntKind.i64.wrap (t81+1)) m (b++y5.2) b2))) else none))) else none) else (some (.inr ((IntKind.u8.wrap (m.Kind)),b,0))))
noncomputable def J7:aj3→Option (aj3⊕(Int×(List Int)×Int))
 | .s0 m=>az9 m
 | .s3 m l_=>aM6 m l_
 | .s2 m b=>aM7 m b
 | .s1 t81 m b b2=>ar3 t81 m b b2
theorem bV3 {m}:aL6 (.s0 m) (az9 m):=by
 intro r x h ha;unfold az9 at h
 refine zc 13 [] h (fun _=>aP5) fun y1 h=> ?_
 refine zs 3 h (fun h=> ?_) fun h=> ?_
 ·
  exact zt 7 h ha [.slot 0 [some 1]]
 refine zs 42 h (fun h=> ?_) fun h=> ?_
 ·
  refine o7 hm 8 _ ?_
  obtain rfl:=Option.some.inj h
  refine aL8 34 [] (m' :=⟨[.code (M3 [1,1,1,1])],[(1,.ptr 0 0 0),(5,.msl 1 0 10 10 true)],[some ⟨26,false,[(i5.enc m)]⟩,some ⟨1,false,[[.int .i64 m.From],[.int .i64 m.To],[.int .i64 m.Epoch],[.int .i64 m.Ballot],[.int .i64 m.Accepted],[.int .i64 m.Nonce],[.int .i64 m.Time],[.int .i64 (IntKind.i64.wrap (m.Up))],[.int .i64 m.Code],[.int .i64 1]]⟩]⟩) (by kernel_rfl) ?_
  refine aB1 (n1:=10) (n2:=(List.map (d7 .i64) ([m.From,m.To,m.Epoch,m.Ballot,m.Accepted,m.Nonce,m.Time,(IntKind.i64.wrap (m.Up)),m.Code,1])).length) (fun n_len=> .go ⟨[.code (M3 [1,1,1,1])],[(1,.ptr 0 0 0),(5,.msl 1 0 n_len n_len true)],[some ⟨26,false,[(i5.enc m)]⟩,some ⟨1,false,[[.int .i64 m.From],[.int .i64 m.To],[.int .i64 m.Epoch],[.int .i64 m.Ballot],[.int .i64 m.Accepted],[.int .i64 m.Nonce],[.int .i64 m.Time],[.int .i64 (IntKind.i64.wrap (m.Up))],[.int .i64 m.Code],[.int .i64 1]]⟩]⟩) (by simp) ?_
  exact ha
 refine o7 hm 1 _ ?_
 obtain rfl:=Option.some.inj h
 refine aL8 34 [] (m' :=⟨[.code (M3 [1,1,1,1])],[(1,.ptr 0 0 0),(5,.msl 1 0 10 10 true)],[some ⟨26,false,[(i5.enc m)]⟩,some ⟨1,false,[[.int .i64 m.From],[.int .i64 m.To],[.int .i64 m.Epoch],[.int .i64 m.Ballot],[.int .i64 m.Accepted],[.int .i64 m.Nonce],[.int .i64 m.Time],[.int .i64 (IntKind.i64.wrap (m.Up))],[.int .i64 m.Code],[.int .i64 0]]⟩]⟩) (by kernel_rfl) ?_
 refine aB1 (n1:=10) (n2:=(List.map (d7 .i64) ([m.From,m.To,m.Epoch,m.Ballot,m.Accepted,m.Nonce,m.Time,(IntKind.i64.wrap (m.Up)),m.Code,0])).length) (fun n_len=> .go ⟨[.code (M3 [1,1,1,1])],[(1,.ptr 0 0 0),(5,.msl 1 0 n_len n_len true)],[some ⟨26,false,[(i5.enc m)]⟩,some ⟨1,false,[[.int .i64 m.From],[.int .i64 m.To],[.int .i64 m.Epoch],[.int .i64 m.Ballot],[.int .i64 m.Accepted],[.int .i64 m.Nonce],[.int .i64 m.Time],[.int .i64 (IntKind.i64.wrap (m.Up))],[.int .i64 m.Code],[.int .i64 0]]⟩]⟩) (by simp) ?_
 exact ha
theorem bY3 {m l_}:aL6 (.s3 m l_) (aM6 m l_):=by
 intro r x h ha;unfold aM6 at h
 refine zm 4 (b:=(Nat.ble (0+(List.map (d7 .i64) l_).length) ((List.map (d7 .i64) l_).length))) (C8 _) ?_
 refine zcE 0 [] (args1:= [.sl false 1 (List.take ((List.map (d7 .i64) l_).length) (List.drop 0 (List.map (d7 .i64) l_)))]) h (fun _=>aA2) ⟨by simp[f0.enc,f0.l,l6.enc,l6.l,q9.enc,q9.l,i5.enc,i5.l,Plan.enc,Plan.l,q6.enc,q6.l,i0.enc,i0.l,q7.enc,q7.l,n5.enc,n5.l,o6.enc,o6.l,List.take_of_length_le,List.map_take,List.map_drop],rfl⟩ fun y1 h=> ?_
 refine zs 14 h (fun h=> ?_) fun h=> ?_
 ·
  refine zc 6 [] h (fun _=>ck1) fun y3 h=> ?_
  refine zc 10 [] h (fun _=>aV1) fun y4 h=> ?_
  refine zm 10 (b:=(Nat.beq ((List.take ((List.map (d7 .u8) y4.2).length) (List.drop 0 (List.map (d7 .u8) y4.2))).length) ((List.map (d7 .u8) y4.2).length))) (by simp) ?_
  refine zn 0 h fun h=> ?_
  refine zm 0 (b:=(Nat.ble (0+(List.map (d7 .u8) y1.2).length) ((List.map (d7 .u8) y1.2).length))) (C8 _) ?_
  refine zw 0 (a:=(List.take ((List.map (d7 .u8) y1.2).length) (List.drop 0 (List.map (d7 .u8) y1.2))++(List.take ((List.map (d7 .u8) y4.2).length) (List.drop 0 (List.map (d7 .u8) y4.2))))) (b:=(List.map (d7 .u8) (y1.2++y4.2))) (by simp only[F9,Q6,List.map_append,List.map_take,List.map_drop]) ?_
  exact zk 2 h ha
 exact zk 1 h ha
theorem bU8 {m b}:aL6 (.s2 m b) (aM7 m b):=by
 intro r x h ha;unfold aM7 at h
 refine zc 6 [] h (fun _=>aA2) fun y1 h=> ?_
 refine zm 11 (b:=(Nat.beq ((List.take ((List.map (d7 .u8) y1.2).length) (List.drop 0 (List.map (d7 .u8) y1.2))).length) ((List.map (d7 .u8) y1.2).length))) (by simp) ?_
 refine zn 0 h fun h=> ?_
 refine zm 0 (b:=(Nat.ble (0+(List.map (d7 .u8) b).length) ((List.map (d7 .u8) b).length))) (C8 _) ?_
 refine zw 0 (a:=(List.take ((List.map (d7 .u8) b).length) (List.drop 0 (List.map (d7 .u8) b))++(List.take ((List.map (d7 .u8) y1.2).length) (List.drop 0 (List.map (d7 .u8) y1.2))))) (b:=(List.map (d7 .u8) (b++y1.2))) (by simp only[F9,Q6,List.map_append,List.map_take,List.map_drop]) ?_
 refine o7 hm 18 _ ?_
 obtain rfl:=Option.some.inj h
 refine ch5 (q' :=.go ⟨[.lpc (M3 [1,1,1,1,1,1,1,1,0,1,0,0]) 4231240368651202111471682,.blk 0,.code (M3 [1,1,1,1,1,1,1,1,1])],[(1,.ptr 0 0 0),(6,.msl 1 0 ((List.map (d7 .u8) (b++y1.2)).length) ((List.map (d7 .u8) (b++y1.2)).length) false),(79,.msl 2 0 2 2 true),(80,.int .i64 2),(81,.int .i64 0)],[some ⟨26,false,[(i5.enc m)]⟩,some ⟨1,false,(List.map (d7 .u8) (b++y1.2))⟩,some ⟨1,false,[[.sl false 1 (List.map (d7 .u8) m.Session)],[.sl false 1 (List.map (d7 .u8) m.Payload)]]⟩]⟩) (by kernel_rfl) ?_
 refine aB1 (n1:=2) (n2:=(List.map (D1 1 (d7 .u8)) ([m.Session,m.Payload])).length) (fun n_len=> .go ⟨[.lpc (M3 [1,1,1,1,1,1,1,1,0,1,0,0]) 4231240368651202111471682,.blk 0,.code (M3 [1,1,1,1,1,1,1,1,1])],[(1,.ptr 0 0 0),(6,.msl 1 0 ((List.map (d7 .u8) (b++y1.2)).length) ((List.map (d7 .u8) (b++y1.2)).length) false),(79,.msl 2 0 n_len n_len true),(80,.int .i64 2),(81,.int .i64 0)],[some ⟨26,false,[(i5.enc m)]⟩,some ⟨1,false,(List.map (d7 .u8) (b++y1.2))⟩,some ⟨1,false,[[.sl false 1 (List.map (d7 .u8) m.Session)],[.sl false 1 (List.map (d7 .u8) m.Payload)]]⟩]⟩) (by simp) ?_
 exact ha
theorem bV0 {t81 m b b2}:aL6 (.s1 t81 m b b2) (ar3 t81 m b b2):=by
 intro r x h ha;unfold ar3 at h
 refine zs 7 h (fun h=> ?_) fun h=> ?_
 ·
  refine zn 6 h fun h=> ?_
  refine zr 1 (D1 1 (d7 .u8)) h fun y3 h=> ?_
  refine zc 6 [] h (fun _=>aV1) fun y5 h=> ?_
  refine zm 10 (b:=(Nat.beq ((List.take ((List.map (d7 .u8) y5.2).length) (List.drop 0 (List.map (d7 .u8) y5.2))).length) ((List.map (d7 .u8) y5.2).length))) (by simp) ?_
  refine zn 0 h fun h=> ?_
  refine zm 0 (b:=(Nat.ble (0+(List.map (d7 .u8) b).length) ((List.map (d7 .u8) b).length))) (C8 _) ?_
  refine zw 0 (a:=(List.take ((List.map (d7 .u8) b).length) (List.drop 0 (List.map (d7 .u8) b))++(List.take ((List.map (d7 .u8) y5.2).length) (List.drop 0 (List.map (d7 .u8) y5.2))))) (b:=(List.map (d7 .u8) (b++y5.2))) (by simp only[F9,Q6,List.map_append,List.map_take,List.map_drop]) ?_
  exact zj 8 h ha
 refine zm 13 (b:=(Nat.ble (0+(List.map (d7 .u8) b).length) ((List.map (d7 .u8) b).length))) (C8 _) ?_
 obtain rfl:=Option.some.inj h
 have hv:=ha
 simp only[aG6] at hv
 subst hv
 exact aB5 [] (d1:=.tup [.int .u8 (IntKind.u8.wrap (m.Kind)),.sl false 1 (List.take ((List.map (d7 .u8) b).length) (List.drop 0 (List.map (d7 .u8) b))),.int .i64 0]) (d:=.tup [.int .u8 (IntKind.u8.wrap (m.Kind)),.sl false 1 (List.map (d7 .u8) b),.int .i64 0]) (s1:= []) (s:= []) (by kernel_rfl) ⟨by simp[f0.enc,f0.l,l6.enc,l6.l,q9.enc,q9.l,i5.enc,i5.l,Plan.enc,Plan.l,q6.enc,q6.l,i0.enc,i0.l,q7.enc,q7.l,n5.enc,n5.l,o6.enc,o6.l,List.take_of_length_le,List.map_take,List.map_drop],rfl⟩ ⟨rfl,rfl⟩ Cx.fin_of
noncomputable def bc4 (m:i5):Option (Int×(List Int)×Int):=evf J7 (.s0 m)
theorem ck7 {m:i5}{r:Int×(List Int)×Int} (h:bc4 m=some r):l4 E 60 [.agg (i5.enc m)] [] (Rs bI9 r):=sc (fn:=Tryd.f60) (k:=false) (m:=0) (I6:=bD2) h fun s=>by
 cases s with
 | s0=>exact bV3
 | s3=>exact bY3
 | s2=>exact bU8
 | s1=>exact bV0
noncomputable def bS7:=r4 (r9 Tryd.f85)
noncomputable def bQ8 (y:Int):D×i4:=(.int .u32 y,[])
inductive aH2 where
 | s0 (sum:Int) (b:List Int)
 | s1 (r_:Int) (t10:List Int) (t11 y0:Int)
noncomputable def bS2:aH2→M
 | .s0 sum b=>J0 Tryd.f85 [.int .u32 sum,.sl false 1 (List.map (d7 .u8) b)] []
 | .s1 r_ t10 t11 y0=>⟨[.lpc (bS7 [1,1,0,1,0,0]) 7200,.blk 0,.code (bS7 [1,1,1])],[(5,.int .u32 r_),(10,.sl false 1 (List.map (d7 .u8) t10)),(11,.int .i64 t11),(12,.int .i64 y0)],[]⟩
abbrev bS0:=SOk E (Cx.of Tryd.f85 false 0) bQ8 bS2
noncomputable def aT3 (sum:Int) (b:List Int):Option (aH2⊕Int):=(some (.inl (.s1 (L0 .u32 4294967295 sum) b (((List.map (d7 .u8) b).length:Nat):Int) 0)))
noncomputable def aI1 (r_:Int) (t10:List Int) (t11 y0:Int):Option (aH2⊕Int):=(bif (decide (y0<t11)) then (bif ((decide ((0:Int)≤y0))&&(decide (y0<(((List.map (d7 .u8) t10).length:Nat):Int)))) then (((t10)[y0.toNat]?).bind fun y3=>(bif ((decide ((0:Int)≤(k9 .u32 (L0 .u32 r_ (IntKind.u32.wrap (y3))) 15)))&&(decide (((k9 .u32 (L0 .u32 r_ (IntKind.u32.wrap (y3))) 15):Int)<((16:Nat):Int)))) then (((gl_four)[(0+(k9 .u32 (L0 .u32 r_ (IntKind.u32.wrap (y3))) 15).toNat)]?).bind fun y6=>(bif ((decide ((0:Int)≤(k9 .u32 (L0 .u32 (n6 .u32 (L0 .u32 r_ (IntKind.u32.wrap (y3))) 4) y6) 15)))&&(decide (((k9 .u32 (L0 .u32 (n6 .u32 (L0 .u32 r_ (IntKind.u32.wrap (y3))) 4) y6) 15):Int)<((16:Nat):Int)))) then (((gl_four)[(0+(k9 .u32 (L0 .u32 (n6 .u32 (L0 .u32 r_ (IntKind.u32.wrap (y3))) 4) y6) 15).toNat)]?).bind fun y9=>(some (.inl (.s1 (L0 .u32 (n6 .u32 (L0 .u32 (n6 .u32 (L0 .u32 r_ (IntKind.u32.wrap (y3))) 4) y6) 4) y9) t10 t11 (IntKind.i64.wrap (y0+1)))))) else none)) else none)) else none) else (some (.inr (L0 .u32 4294967295 r_))))
noncomputable def an9:aH2→Option (aH2⊕Int)
 | .s0 sum b=>aT3 sum b
 | .s1 r_ t10 t11 y0=>aI1 r_ t10 t11 y0
theorem ca8 {sum b}:bS0 (.s0 sum b) (aT3 sum b):=by
 intro r x h ha;unfold aT3 at h
 exact zj 20 h ha
theorem cg0 {r_ t10 t11 y0}:bS0 (.s1 r_ t10 t11 y0) (aI1 r_ t10 t11 y0):=by
 intro r x h ha;unfold aI1 at h
 refine zs 7 h (fun h=> ?_) fun h=> ?_
 ·
  refine zn 6 h fun h=> ?_
  refine zr 1 (d7 .u8) h fun y3 h=> ?_
  refine zn 18 h fun h=> ?_
  refine zr 1 (d7 .u32) h fun y6 h=> ?_
  refine zn 10 h fun h=> ?_
  refine zr 1 (d7 .u32) h fun y9 h=> ?_
  exact zj 9 h ha
 exact zt 8 h ha
noncomputable def bL0 (sum:Int) (b:List Int):Option Int:=evf an9 (.s0 sum b)
theorem ct1 {sum:Int}{b:List Int}{r:Int} (h:bL0 sum b=some r):l4 E 85 [.int .u32 sum,.sl false 1 (List.map (d7 .u8) b)] [] (Rs bQ8 r):=sc (fn:=Tryd.f85) (k:=false) (m:=0) (I6:=bS2) h fun s=>by
 cases s with
 | s0=>exact ca8
 | s1=>exact cg0
noncomputable def cB3 (y:Int):D×i4:=(.int .u32 y,[])
noncomputable def aP2 (b:List Int):Option Int:=((bL0 0 b).bind fun y1=>(some y1))
theorem bC9 {b:List Int}{r:Int} (h:aP2 b=some r):l4 E 79 [.sl false 1 (List.map (d7 .u8) b)] [] (Rs cB3 r):=so (fn:=Tryd.f79) (k:=false) (m:=0) h<| by
 intro r h;unfold aP2 at h
 refine zc 8 [] h (fun _=>ct1) fun y1 h=> ?_
 exact zu 3 h
noncomputable def bv9:=r4 (r9 Tryd.f75)
noncomputable def bx4 (y:(List Int)×Int):D×i4:=(.tup [.sl false 1 (List.map (d7 .u8) y.1),.int .i64 y.2],[])
inductive at9 where
 | s0 (ah8:Int) (ag9:List Int)
 | s1 (sum ah5:Int) (b:List Int)
noncomputable def by0:at9→M
 | .s0 ah8 ag9=>J0 Tryd.f75 [.int .u8 ah8,.sl false 1 (List.map (d7 .u8) ag9)] []
 | .s1 sum ah5 b=>⟨[.lpc (bv9 [1,1,1,1,1,0,1,0,0]) 896,.blk 0,.code (bv9 [1,1,1,1,1,1])],[(7,(i9 0 (List.map (d7 .u8) b))),(8,.int .u32 sum),(9,.int .i64 ah5)],[some ⟨1,false,(List.map (d7 .u8) b)⟩]⟩
abbrev bx7:=SOk E (Cx.of Tryd.f75 false 0) bx4 by0
noncomputable def at4 (ah8:Int) (ag9:List Int):Option (at9⊕((List Int)×Int)):=(bif (decide (((((List.map (d7 .u8) ag9).length:Nat):Int):Int)>8192)) then (some (.inr ([],2))) else (bif (decide ((4+(List.map (d7 .u8) ag9).length)*1≤n4)) then (bif (decide ((1:Int)≤(((List.map (d7 .u8) ([247,ah8,(IntKind.u8.wrap ((n6 .i64 (((List.map (d7 .u8) ag9).length:Nat):Int) 8))),(IntKind.u8.wrap ((((List.map (d7 .u8) ag9).length:Nat):Int)))]++ag9)).length:Nat):Int))) then (bif (Nat.ble (1+((List.map (d7 .u8) ([247,ah8,(IntKind.u8.wrap ((n6 .i64 (((List.map (d7 .u8) ag9).length:Nat):Int) 8))),(IntKind.u8.wrap ((((List.map (d7 .u8) ag9).length:Nat):Int)))]++ag9)).length-1)) ((List.map (d7 .u8) ([247,ah8,(IntKind.u8.wrap ((n6 .i64 (((List.map (d7 .u8) ag9).length:Nat):Int) 8))),(IntKind.u8.wrap ((((List.map (d7 .u8) ag9).length:Nat):Int)))]++ag9)).length)) then ((aP2 (List.take ((List.map (d7 .u8) ([247,ah8,(IntKind.u8.wrap ((n6 .i64 (((List.map (d7 .u8) ag9).length:Nat):Int) 8))),(IntKind.u8.wrap ((((List.map (d7 .u8) ag9).length:Nat):Int)))]++ag9)).length-1) (List.drop 1 ([247,ah8,(IntKind.u8.wrap ((n6 .i64 (((List.map (d7 .u8) ag9).length:Nat):Int) 8))),(IntKind.u8.wrap ((((List.map (d7 .u8) ag9).length:Nat):Int)))]++ag9)))).bind fun y5=>(some (.inl (.s1 y5 24 ([247,ah8,(IntKind.u8.wrap ((n6 .i64 (((List.map (d7 .u8) ag9).length:Nat):Int) 8))),(IntKind.u8.wrap ((((List.map (d7 .u8) ag9).length:Nat):Int)))]++ag9))))) else none) else none) else none))
noncomputable def ad6 (sum ah5:Int) (b:List Int):Option (at9⊕((List Int)×Int)):=(bif (decide (ah5≥0)) then (bif (!decide (ah5<0)) then (bif (decide (((List.map (d7 .u8) b).length+1)*1≤n4)) then (some (.inl (.s1 sum (IntKind.i64.wrap (ah5-8)) (b++ [(IntKind.u8.wrap ((n6 .u32 sum ah5)))])))) else none) else none) else (some (.inr (b,0))))
noncomputable def M9:at9→Option (at9⊕((List Int)×Int))
 | .s0 ah8 ag9=>at4 ah8 ag9
 | .s1 sum ah5 b=>ad6 sum ah5 b
theorem bO7 {ah8 ag9}:bx7 (.s0 ah8 ag9) (at4 ah8 ag9):=by
 intro r x h ha;unfold at4 at h
 refine zs 18 h (fun h=> ?_) fun h=> ?_
 ·
  exact zt 6 h ha [.slot 0 [some 1]]
 refine zn 13 h fun h=> ?_
 refine zw 1 (a:=((List.map (d7 .u8) ([247,ah8,(IntKind.u8.wrap ((n6 .i64 (((List.map (d7 .u8) ag9).length:Nat):Int) 8))),(IntKind.u8.wrap ((((List.map (d7 .u8) ag9).length:Nat):Int)))]))++(List.map (d7 .u8) ag9))) (b:=(List.map (d7 .u8) ([247,ah8,(IntKind.u8.wrap ((n6 .i64 (((List.map (d7 .u8) ag9).length:Nat):Int) 8))),(IntKind.u8.wrap ((((List.map (d7 .u8) ag9).length:Nat):Int)))]++ag9))) (by simp only[F9,Q6,List.map_append,List.map_take,List.map_drop]) ?_
 refine zn 6 h fun h=> ?_
 refine zn 1 h fun h=> ?_
 refine zcE 0 [] (args1:= [.sl false 1 (List.take ((List.map (d7 .u8) ([247,ah8,(IntKind.u8.wrap ((n6 .i64 (((List.map (d7 .u8) ag9).length:Nat):Int) 8))),(IntKind.u8.wrap ((((List.map (d7 .u8) ag9).length:Nat):Int)))]++ag9)).length-1) (List.drop 1 (List.map (d7 .u8) ([247,ah8,(IntKind.u8.wrap ((n6 .i64 (((List.map (d7 .u8) ag9).length:Nat):Int) 8))),(IntKind.u8.wrap ((((List.map (d7 .u8) ag9).length:Nat):Int)))]++ag9))))]) h (fun _=>bC9) ⟨by simp[f0.enc,f0.l,l6.enc,l6.l,q9.enc,q9.l,i5.enc,i5.l,Plan.enc,Plan.l,q6.enc,q6.l,i0.enc,i0.l,q7.enc,q7.l,n5.enc,n5.l,o6.enc,o6.l,List.take_of_length_le,List.map_take,List.map_drop],rfl⟩ fun y5 h=> ?_
 exact zj 10 h ha
theorem bN9 {sum ah5 b}:bx7 (.s1 sum ah5 b) (ad6 sum ah5 b):=by
 intro r x h ha;unfold ad6 at h
 refine zs 8 h (fun h=> ?_) fun h=> ?_
 ·
  refine zn 8 h fun h=> ?_
  refine zn 4 h fun h=> ?_
  refine za 0 (d7 .u8) b ([(IntKind.u8.wrap ((n6 .u32 sum ah5)))]) ?_
  exact zj 9 h ha
 refine zm 8 (b:=(Nat.ble (0+(List.map (d7 .u8) b).length) ((List.map (d7 .u8) b).length))) (C8 _) ?_
 obtain rfl:=Option.some.inj h
 have hv:=ha
 simp only[aG6] at hv
 subst hv
 exact aB5 [] (d1:=.tup [.sl false 1 (List.take ((List.map (d7 .u8) b).length) (List.drop 0 (List.map (d7 .u8) b))),.int .i64 0]) (d:=.tup [.sl false 1 (List.map (d7 .u8) b),.int .i64 0]) (s1:= []) (s:= []) (by kernel_rfl) ⟨by simp[f0.enc,f0.l,l6.enc,l6.l,q9.enc,q9.l,i5.enc,i5.l,Plan.enc,Plan.l,q6.enc,q6.l,i0.enc,i0.l,q7.enc,q7.l,n5.enc,n5.l,o6.enc,o6.l,List.take_of_length_le,List.map_take,List.map_drop],rfl⟩ ⟨rfl,rfl⟩ Cx.fin_of
noncomputable def aV6 (ah8:Int) (ag9:List Int):Option ((List Int)×Int):=evf M9 (.s0 ah8 ag9)
theorem cg2 {ah8:Int}{ag9:List Int}{r:(List Int)×Int} (h:aV6 ah8 ag9=some r):l4 E 75 [.int .u8 ah8,.sl false 1 (List.map (d7 .u8) ag9)] [] (Rs bx4 r):=sc (fn:=Tryd.f75) (k:=false) (m:=0) (I6:=by0) h fun s=>by
 cases s with
 | s0=>exact bO7
 | s1=>exact bN9
noncomputable def bM0 (b0 y:List Int):D×i4:=((i9 1 (List.map (d7 .u8) y)),[some ⟨1,false,(List.map (d7 .u8) b0)⟩,some ⟨1,false,(List.map (d7 .u8) y)⟩])
noncomputable def aq3 (bl8 Z3 bA5:Nat) (b0:List Int):Option (List Int):=(bif (Nat.beq ((List.take Z3 (List.drop bl8 (List.map (d7 .u8) b0))).length) Z3) then (bif (decide ((0+(List.take Z3 (List.drop bl8 (List.map (d7 .u8) b0))).length)*1≤n4)) then (some ([]++(List.take Z3 (List.drop bl8 b0)))) else none) else none)
theorem bD3 {bl8 Z3 bA5:Nat}{b0 r:List Int} (h:aq3 bl8 Z3 bA5 b0=some r):l4 E 32 [.msl 0 bl8 Z3 bA5 false] [some ⟨1,false,(List.map (d7 .u8) b0)⟩] (Rs (bM0 b0) r):=so (fn:=Tryd.f32) (k:=true) (m:=1) h<| by
 intro r h;unfold aq3 at h
 refine o7 hm 9 _ ?_
 refine cJ8 (Nat.beq Z3 0) (by kernel_rfl) ?_ (fun h1=> ?_)
 ·--it is not nil
  refine zn 9 h fun h=> ?_
  refine zn 0 h fun h=> ?_
  refine zw 1 (a:=((List.map (d7 .u8) ([]))++(List.take Z3 (List.drop bl8 (List.map (d7 .u8) b0))))) (b:=(List.map (d7 .u8) ([]++(List.take Z3 (List.drop bl8 b0))))) (by simp only[F9,Q6,List.map_append,List.map_take,List.map_drop]) ?_
  exact zu 3 h
 ·--nil
  obtain rfl:Z3=0:=Nat.eq_of_beq_eq_true h1
  simp[n4] at h
  first | subst h | (obtain⟨_,h⟩:=h;subst h)
  refine o7 hm 8 _ ?_
  exact aS7 [.mat 0 1] (d:=.msl 1 0 0 0 false) (s:= [some ⟨1,false,(List.map (d7 .u8) b0)⟩,some ⟨1,false,[]⟩]) (by kernel_rfl) Cx.fin_of ⟨rfl,rfl⟩
noncomputable def bu3 (b0 y:List Int):D×i4:=((i9 1 (List.map (d7 .u8) y)),[some ⟨1,false,(List.map (d7 .u8) b0)⟩,some ⟨1,false,(List.map (d7 .u8) y)⟩])
noncomputable def ab2 (Z3 bA5:Nat) (b0:List Int):Option (List Int):=(bif (Nat.beq ((List.take Z3 (List.drop 0 (List.map (d7 .u8) b0))).length) Z3) then (bif (decide ((0+(List.take Z3 (List.drop 0 (List.map (d7 .u8) b0))).length)*1≤n4)) then (some ([]++(List.take Z3 (List.drop 0 b0)))) else none) else none)
theorem bk7 {Z3 bA5:Nat}{b0 r:List Int} (h:ab2 Z3 bA5 b0=some r):l4 E 32 [.msl 0 0 Z3 bA5 false] [some ⟨1,false,(List.map (d7 .u8) b0)⟩] (Rs (bu3 b0) r):=so (fn:=Tryd.f32) (k:=true) (m:=1) h<| by
 intro r h;unfold ab2 at h
 refine o7 hm 9 _ ?_
 refine cJ8 (Nat.beq Z3 0) (by kernel_rfl) ?_ (fun h1=> ?_)
 ·--it is not nil
  refine zn 9 h fun h=> ?_
  refine zn 0 h fun h=> ?_
  refine zw 1 (a:=((List.map (d7 .u8) ([]))++(List.take Z3 (List.drop 0 (List.map (d7 .u8) b0))))) (b:=(List.map (d7 .u8) ([]++(List.take Z3 (List.drop 0 b0))))) (by simp only[F9,Q6,List.map_append,List.map_take,List.map_drop]) ?_
  exact zu 3 h
 ·--nil
  obtain rfl:Z3=0:=Nat.eq_of_beq_eq_true h1
  simp[n4] at h
  first | subst h | (obtain⟨_,h⟩:=h;subst h)
  refine o7 hm 8 _ ?_
  exact aS7 [.mat 0 1] (d:=.msl 1 0 0 0 false) (s:= [some ⟨1,false,(List.map (d7 .u8) b0)⟩,some ⟨1,false,[]⟩]) (by kernel_rfl) Cx.fin_of ⟨rfl,rfl⟩
noncomputable def ce7 (b0:List Int) (y:Unit):D×i4:=(.fn 65 [] [.ptr 1 0 0],[some ⟨1,false,(List.map (d7 .u8) b0)⟩,some ⟨1,true,[[(i9 0 (List.map (d7 .u8) b0))]]⟩])
noncomputable def aO3 (b0:List Int):Option Unit:=(some ())
theorem bX1 {b0:List Int}{r:Unit} (h:aO3 b0=some r):l4 E 50 [(i9 0 (List.map (d7 .u8) b0))] [some ⟨1,false,(List.map (d7 .u8) b0)⟩] (Rs (ce7 b0) r):=so (fn:=Tryd.f50) (k:=true) (m:=1) h<| by
 intro r h;unfold aO3 at h
 exact zu 11 h
noncomputable def aY6:=r4 (r9 Tryd.f78)
noncomputable def aZ4 (y:Int):D×i4:=(.int .i64 y,[])
inductive ag5 where
 | s0 (b:List Int)
 | s1 (n:Int) (t6:List Int) (t7 t8:Int)
noncomputable def ba0:ag5→M
 | .s0 b=>J0 Tryd.f78 [.sl false 1 (List.map (d7 .u8) b)] []
 | .s1 n t6 t7 t8=>⟨[.lpc (aY6 [1,1,0,1,0,0]) 456,.blk 0,.code (aY6 [1,1,1])],[(3,.int .i64 n),(6,.sl false 1 (List.map (d7 .u8) t6)),(7,.int .i64 t7),(8,.int .i64 t8)],[]⟩
abbrev aZ9:=SOk E (Cx.of Tryd.f78 false 0) aZ4 ba0
noncomputable def ar6 (b:List Int):Option (ag5⊕Int):=(some (.inl (.s1 0 b (((List.map (d7 .u8) b).length:Nat):Int) 0)))
noncomputable def af6 (n:Int) (t6:List Int) (t7 t8:Int):Option (ag5⊕Int):=(bif (decide (t8<t7)) then (bif ((decide ((0:Int)≤t8))&&(decide (t8<(((List.map (d7 .u8) t6).length:Nat):Int)))) then (((t6)[t8.toNat]?).bind fun y3=>(some (.inl (.s1 (IntKind.i64.wrap ((Y7 .i64 n 8)+(IntKind.i64.wrap (y3)))) t6 t7 (IntKind.i64.wrap (t8+1)))))) else none) else (some (.inr n)))
noncomputable def P0:ag5→Option (ag5⊕Int)
 | .s0 b=>ar6 b
 | .s1 n t6 t7 t8=>af6 n t6 t7 t8
theorem bu9 {b}:aZ9 (.s0 b) (ar6 b):=by
 intro r x h ha;unfold ar6 at h
 exact zj 18 h ha
theorem bt3 {n t6 t7 t8}:aZ9 (.s1 n t6 t7 t8) (af6 n t6 t7 t8):=by
 intro r x h ha;unfold af6 at h
 refine zs 7 h (fun h=> ?_) fun h=> ?_
 ·
  refine zn 6 h fun h=> ?_
  refine zr 1 (d7 .u8) h fun y3 h=> ?_
  exact zj 17 h ha
 exact zt 7 h ha
noncomputable def ap1 (b:List Int):Option Int:=evf P0 (.s0 b)
theorem aV4 {b:List Int}{r:Int} (h:ap1 b=some r):l4 E 78 [.sl false 1 (List.map (d7 .u8) b)] [] (Rs aZ4 r):=sc (fn:=Tryd.f78) (k:=false) (m:=0) (I6:=ba0) h fun s=>by
 cases s with
 | s0=>exact bu9
 | s1=>exact bt3
noncomputable def at7:=r4 (r9 Tryd.f66)
noncomputable def bv5 (b0:List Int) (y:Int×(List Int)×Int×Int):D×i4:=(.tup [.int .u8 y.1,.sl false 1 (List.map (d7 .u8) y.2.1),.int .i64 y.2.2.1,.int .i64 y.2.2.2],[some ⟨1,false,(List.map (d7 .u8) b0)⟩])
abbrev aW1 (at_:Int) (b0:List Int):=AOk E (Cx.of Tryd.f66 false 1) (bv5 b0)
noncomputable def cf4 (at_:Int) (b0:List Int) (e n:Int) (E5 N2 K4:Nat):M:=⟨[.code (at7 [1,1,1,1,1])],[(1,.int .i64 at_),(8,.int .i64 e),(9,.int .i64 n),(10,.msl 0 E5 N2 K4 false)],[some ⟨1,false,(List.map (d7 .u8) b0)⟩]⟩
noncomputable def M0 (at_:Int) (b0:List Int) (e n:Int) (E5 N2 K4:Nat):Option (Int×(List Int)×Int×Int):=(bif (e !=0) then (some (0,[],0,e)) else (bif (decide ((1:Int)<((N2:Nat):Int))) then (((b0)[(E5+1)]?).bind fun y3=>(bif ((decide (((0:Nat):Int)≤(IntKind.i64.wrap ((4:Int)+n))))&&(decide (((IntKind.i64.wrap ((4:Int)+n)):Int)≤((K4:Nat):Int)))) then (bif (decide ((4:Int)≤(((IntKind.i64.wrap ((4:Int)+n)).toNat:Nat):Int))) then ((aq3 (E5+4) ((IntKind.i64.wrap ((4:Int)+n)).toNat-4) (K4-4) b0).bind fun y7=>(some (y3,y7,(IntKind.i64.wrap ((IntKind.i64.wrap ((IntKind.i64.wrap (at_+4))+n))+4)),0))) else none) else none)) else none))
theorem X4 {at_ b0 e n E5 N2 K4}:aW1 at_ b0 (cf4 at_ b0 e n E5 N2 K4) (M0 at_ b0 e n E5 N2 K4):=by
 intro r h;unfold M0 at h
 refine zs 7 h (fun h=> ?_) fun h=> ?_
 ·
  exact zu 9 h [.slot 0 [some 1]]
 refine zn 3 h fun h=> ?_
 refine zr 0 (d7 .u8) h fun y3 h=> ?_
 refine zn 0 h fun h=> ?_
 refine zn 0 h fun h=> ?_
 refine zdR 0 [] h (fun _=>bD3) fun y7 h=> ?_
 refine zm 1 (b:=(Nat.ble (0+(List.map (d7 .u8) y7).length) ((List.map (d7 .u8) y7).length))) (C8 _) ?_
 obtain rfl:=Option.some.inj h
 exact aB5 [] (d1:=.tup [.int .u8 y3,.sl false 1 (List.take ((List.map (d7 .u8) y7).length) (List.drop 0 (List.map (d7 .u8) y7))),.int .i64 (IntKind.i64.wrap ((IntKind.i64.wrap ((IntKind.i64.wrap (at_+4))+n))+4)),.int .i64 0]) (d:=.tup [.int .u8 y3,.sl false 1 (List.map (d7 .u8) y7),.int .i64 (IntKind.i64.wrap ((IntKind.i64.wrap ((IntKind.i64.wrap (at_+4))+n))+4)),.int .i64 0]) (s1:= [some ⟨1,false,(List.map (d7 .u8) b0)⟩]) (s:= [some ⟨1,false,(List.map (d7 .u8) b0)⟩]) (by kernel_rfl) ⟨by simp[f0.enc,f0.l,l6.enc,l6.l,q9.enc,q9.l,i5.enc,i5.l,Plan.enc,Plan.l,q6.enc,q6.l,i0.enc,i0.l,q7.enc,q7.l,n5.enc,n5.l,o6.enc,o6.l,List.take_of_length_le,List.map_take,List.map_drop],rfl⟩ ⟨rfl,rfl⟩ Cx.fin_of
noncomputable def ca3 (at_:Int) (b0:List Int) (E5 N2 K4:Nat) (t48:Bool):M:=⟨[.code (at7 [1,1,1,1,0,0,1]),.blk 0,.code (at7 [1,1,1,1,1])],[(1,.int .i64 at_),(8,.int .i64 0),(9,.int .i64 0),(10,.msl 0 E5 N2 K4 false),(48,.bool t48)],[some ⟨1,false,(List.map (d7 .u8) b0)⟩]⟩
noncomputable def W7 (at_:Int) (b0:List Int) (E5 N2 K4:Nat) (t48:Bool):Option (Int×(List Int)×Int×Int):=(bif t48 then (M0 at_ b0 32 0 E5 N2 K4) else (bif (decide ((((N2:Nat):Int):Int)<8)) then (M0 at_ b0 31 0 E5 N2 K4) else (bif (decide ((4:Int)≤((K4:Nat):Int))) then (bif (Nat.ble ((E5+2)+2) ((List.map (d7 .u8) b0).length)) then ((ap1 (List.take 2 (List.drop (E5+2) b0))).bind fun y5=>(bif (decide (y5>8192)) then (M0 at_ b0 2 y5 E5 N2 K4) else (bif (decide (y5>(IntKind.i64.wrap ((IntKind.i64.wrap (((N2:Nat):Int)-4))-4)))) then (M0 at_ b0 31 y5 E5 N2 K4) else (bif ((decide (((0:Nat):Int)≤(IntKind.i64.wrap ((4:Int)+y5))))&&(decide (((IntKind.i64.wrap ((4:Int)+y5)):Int)≤((K4:Nat):Int)))) then (bif (decide ((1:Int)≤(((IntKind.i64.wrap ((4:Int)+y5)).toNat:Nat):Int))) then (bif (Nat.ble ((E5+1)+((IntKind.i64.wrap ((4:Int)+y5)).toNat-1)) ((List.map (d7 .u8) b0).length)) then ((aP2 (List.take ((IntKind.i64.wrap ((4:Int)+y5)).toNat-1) (List.drop (E5+1) b0))).bind fun y11=>(bif ((decide (((0:Nat):Int)≤(IntKind.i64.wrap ((IntKind.i64.wrap ((4:Int)+y5))+4))))&&(decide (((IntKind.i64.wrap ((IntKind.i64.wrap ((4:Int)+y5))+4)):Int)≤((K4:Nat):Int)))) then (bif ((decide (((0:Nat):Int)≤(IntKind.i64.wrap ((4:Int)+y5))))&&(decide (((IntKind.i64.wrap ((4:Int)+y5)):Int)≤(((IntKind.i64.wrap ((IntKind.i64.wrap ((4:Int)+y5))+4)).toNat:Nat):Int)))) then (bif (Nat.ble ((E5+(IntKind.i64.wrap ((4:Int)+y5)).toNat)+((IntKind.i64.wrap ((IntKind.i64.wrap ((4:Int)+y5))+4)).toNat-(IntKind.i64.wrap ((4:Int)+y5)).toNat)) ((List.map (d7 .u8) b0).length)) then ((ap1 (List.take ((IntKind.i64.wrap ((IntKind.i64.wrap ((4:Int)+y5))+4)).toNat-(IntKind.i64.wrap ((4:Int)+y5)).toNat) (List.drop (E5+(IntKind.i64.wrap ((4:Int)+y5)).toNat) b0))).bind fun y15=>(bif (((IntKind.i64.wrap (y11)):Int) !=y15) then (M0 at_ b0 33 y5 E5 N2 K4) else (M0 at_ b0 0 y5 E5 N2 K4))) else none) else none) else none)) else none) else none) else none)))) else none) else none)))
theorem ba4 {at_ b0 E5 N2 K4 t48}:aW1 at_ b0 (ca3 at_ b0 E5 N2 K4 t48) (W7 at_ b0 E5 N2 K4 t48):=by
 intro r h;unfold W7 at h
 refine zs 1 h (fun h=> ?_) fun h=> ?_
 ·
  exact zg 4 (X4 h)
 refine zs 8 h (fun h=> ?_) fun h=> ?_
 ·
  exact zg 4 (X4 h)
 refine zn 4 h fun h=> ?_
 refine zn 2 h fun h=> ?_
 refine zcE 0 [] (args1:= [.sl false 1 (List.take 2 (List.drop (E5+2) (List.map (d7 .u8) b0)))]) h (fun _=>aV4) ⟨by simp[f0.enc,f0.l,l6.enc,l6.l,q9.enc,q9.l,i5.enc,i5.l,Plan.enc,Plan.l,q6.enc,q6.l,i0.enc,i0.l,q7.enc,q7.l,n5.enc,n5.l,o6.enc,o6.l,List.take_of_length_le,List.map_take,List.map_drop],rfl⟩ fun y5 h=> ?_
 refine zs 8 h (fun h=> ?_) fun h=> ?_
 ·
  exact zg 4 (X4 h)
 refine zs 10 h (fun h=> ?_) fun h=> ?_
 ·
  exact zg 4 (X4 h)
 refine zn 2 h fun h=> ?_
 refine zn 0 h fun h=> ?_
 refine zn 0 h fun h=> ?_
 refine zdE 0 [] (args1:= [.sl false 1 (List.take ((IntKind.i64.wrap ((4:Int)+y5)).toNat-1) (List.drop (E5+1) (List.map (d7 .u8) b0)))]) h (fun _=>bC9) (by simp[f0.enc,f0.l,l6.enc,l6.l,q9.enc,q9.l,i5.enc,i5.l,Plan.enc,Plan.l,q6.enc,q6.l,i0.enc,i0.l,q7.enc,q7.l,n5.enc,n5.l,o6.enc,o6.l,List.take_of_length_le,List.map_take,List.map_drop]) fun y11 h=> ?_
 refine zn 0 h fun h=> ?_
 refine zn 0 h fun h=> ?_
 refine zn 0 h fun h=> ?_
 refine zdE 0 [] (args1:= [.sl false 1 (List.take ((IntKind.i64.wrap ((IntKind.i64.wrap ((4:Int)+y5))+4)).toNat-(IntKind.i64.wrap ((4:Int)+y5)).toNat) (List.drop (E5+(IntKind.i64.wrap ((4:Int)+y5)).toNat) (List.map (d7 .u8) b0)))]) h (fun _=>aV4) (by simp[f0.enc,f0.l,l6.enc,l6.l,q9.enc,q9.l,i5.enc,i5.l,Plan.enc,Plan.l,q6.enc,q6.l,i0.enc,i0.l,q7.enc,q7.l,n5.enc,n5.l,o6.enc,o6.l,List.take_of_length_le,List.map_take,List.map_drop]) fun y15 h=> ?_
 refine zs 1 h (fun h=> ?_) fun h=> ?_
 ·
  exact zg 4 (X4 h)
 exact zg 2 (X4 h)
noncomputable def ca7 (at_:Int) (b0:List Int) (t18:Bool):M:=⟨[.code (at7 [1,0,1]),.code (at7 [1,1])],[(0,(i9 0 (List.map (d7 .u8) b0))),(1,.int .i64 at_),(18,.bool t18)],[some ⟨1,false,(List.map (d7 .u8) b0)⟩]⟩
noncomputable def at1 (at_:Int) (b0:List Int) (t18:Bool):Option (Int×(List Int)×Int×Int):=(bif t18 then (some (0,[],0,1)) else (bif ((decide (((0:Nat):Int)≤at_))&&(decide (at_≤(((List.map (d7 .u8) b0).length:Nat):Int)))) then (bif (decide ((((((List.map (d7 .u8) b0).length-at_.toNat):Nat):Int):Int)>0)) then (bif (decide ((0:Int)<((((List.map (d7 .u8) b0).length-at_.toNat):Nat):Int))) then (((b0)[(0+at_.toNat)]?).bind fun y5=>(W7 at_ b0 (0+at_.toNat) ((List.map (d7 .u8) b0).length-at_.toNat) ((List.map (d7 .u8) b0).length-at_.toNat) (y5 !=247))) else none) else (W7 at_ b0 (0+at_.toNat) ((List.map (d7 .u8) b0).length-at_.toNat) ((List.map (d7 .u8) b0).length-at_.toNat) false)) else none))
theorem bb5 {at_ b0 t18}:aW1 at_ b0 (ca7 at_ b0 t18) (at1 at_ b0 t18):=by
 intro r h;unfold at1 at h
 refine zs 1 h (fun h=> ?_) fun h=> ?_
 ·
  exact zu 8 h [.slot 0 [some 1]]
 refine zn 11 h fun h=> ?_
 refine zs 11 h (fun h=> ?_) fun h=> ?_
 ·
  refine zn 2 h fun h=> ?_
  refine zr 2 (d7 .u8) h fun y5 h=> ?_
  exact zg 6 (ba4 h)
 exact zg 10 (ba4 h)
noncomputable def aI4 (at_:Int) (b0:List Int):Option (Int×(List Int)×Int×Int):=(bif (decide (at_<0)) then (at1 at_ b0 true) else (at1 at_ b0 (decide (at_>(((List.map (d7 .u8) b0).length:Nat):Int)))))
theorem ce3 {at_:Int}{b0:List Int}{r:Int×(List Int)×Int×Int} (h:aI4 at_ b0=some r):l4 E 66 [(i9 0 (List.map (d7 .u8) b0)),.int .i64 at_] [some ⟨1,false,(List.map (d7 .u8) b0)⟩] (Rs (bv5 b0) r):=so (fn:=Tryd.f66) (k:=false) (m:=1) h<| by
 intro r h;unfold aI4 at h
 refine zs 14 h (fun h=> ?_) fun h=> ?_
 ·
  exact zg 9 (bb5 h)
 exact zg 9 (bb5 h)
noncomputable def bL4:=r4 (r9 Tryd.f65)
def L6 (y:Int×W5):List D:= [D.int .i64 y.1,D.agg [D.int .u8 y.2.kind,D.sl false 1 (List.map (d7 .u8) y.2.body)]]
inductive H5 where
 | s0 (b1:List Int)
 | s1 (at_:Int) (r3:List Int)
noncomputable def P7 (l:Nat):H5→M
 | .s0 b1=>⟨[.code (r9 Tryd.f65)],[(0,D.yld l),(1,D.ptr 0 0 0)],[some ⟨1,true,[[(i9 1 (List.map (d7 .u8) b1))]]⟩,some ⟨1,false,(List.map (d7 .u8) b1)⟩]⟩
 | .s1 at_ r3=>⟨[.lpc (bL4 [1,0,0]) 11,.blk 0],[(0,D.yld l),(1,D.ptr 0 0 0),(3,D.int .i64 at_)],[some ⟨1,true,[[(i9 1 (List.map (d7 .u8) r3))]]⟩,some ⟨1,false,(List.map (d7 .u8) r3)⟩]⟩
noncomputable def aq7 (b1:List Int):Option (List (Int×W5)×Option H5):=(some ([],some (.s1 0 b1)))
noncomputable def ag4 (at_:Int) (r3:List Int):Option (List (Int×W5)×Option H5):=((aI4 at_ r3).bind fun y1=>(bif ((y1.2.2.2:Int) !=0) then (some ([],none)) else (Option.map (fun p=>((y1.2.2.1,(⟨y1.1,y1.2.1⟩:W5))::p.1,p.2)) (some ([],some (.s1 y1.2.2.1 r3))))))
noncomputable def ab0:H5→i4
 | .s0 b1=> [some ⟨1,true,[[(i9 1 (List.map (d7 .u8) b1))]]⟩,some ⟨1,false,(List.map (d7 .u8) b1)⟩]
 | .s1 at_ r3=> [some ⟨1,true,[[(i9 1 (List.map (d7 .u8) r3))]]⟩,some ⟨1,false,(List.map (d7 .u8) r3)⟩]
noncomputable def O8:H5→Option (List (Int×W5)×Option H5)
 | .s0 b1=>aq7 b1
 | .s1 at_ r3=>ag4 at_ r3
theorem bu1 {l:Nat}{ln:i4}{φ0:o8}{J:Option (List (List D))→World→(Nat→Prop)→(Nat→Prop)→Prop}{b1:List Int}{x:List (Int×W5)×Option H5}{Y:List (List D)} (hl:ab0 (.s0 b1)=ln) (h:aq7 b1=some x) (ha:az6 E ln (Cx.seq Tryd.f65 2 ln l φ0 J) L6 (P7 l) ab0 x Y):i6 E (Cx.seq Tryd.f65 2 ln l φ0 J (some Y)) (fun _ s=>U6 ln s) (.go (P7 l (.s0 b1))):=by
 subst hl
 unfold aq7 at h
 refine o7 hm 7 _ ?_
 obtain rfl:=Option.some.inj h
 exact ch5 (q' :=.go (P7 l (.s1 0 b1))) (by kernel_rfl) (aF5 (by kernel_rfl) ha)
theorem bu4 {l:Nat}{ln:i4}{φ0:o8}{J:Option (List (List D))→World→(Nat→Prop)→(Nat→Prop)→Prop}{at_:Int}{r3:List Int}{x:List (Int×W5)×Option H5}{Y:List (List D)} (hl:ab0 (.s1 at_ r3)=ln) (h:ag4 at_ r3=some x) (ha:az6 E ln (Cx.seq Tryd.f65 2 ln l φ0 J) L6 (P7 l) ab0 x Y):i6 E (Cx.seq Tryd.f65 2 ln l φ0 J (some Y)) (fun _ s=>U6 ln s) (.go (P7 l (.s1 at_ r3))):=by
 subst hl
 unfold ag4 at h
 refine zc 8 [] h (fun _=>ce3) fun y1 h=> ?_
 refine zs 17 h (fun h=> ?_) fun h=> ?_
 ·
  refine o7 hm 18 _ ?_
  obtain rfl:=Option.some.inj h
  exact cC4 (d:=D.tup []) (s:= [some ⟨1,true,[[(i9 1 (List.map (d7 .u8) r3))]]⟩,some ⟨1,false,(List.map (d7 .u8) r3)⟩]) (by kernel_rfl) (by kernel_rfl) ha
 refine o7 hm 10 _ ?_
 refine cs6 (x:=(y1.2.2.1,(⟨y1.1,y1.2.1⟩:W5))) (s:= [some ⟨1,true,[[(i9 1 (List.map (d7 .u8) r3))]]⟩,some ⟨1,false,(List.map (d7 .u8) r3)⟩]) h ha (by kernel_rfl) (by kernel_rfl) ?_ (fun p Y h ha=> ?_)
 · --it is stopped
   refine o7 hm 8 _ ?_
   exact cc7 (d:=D.tup []) (s:= [some ⟨1,true,[[(i9 1 (List.map (d7 .u8) r3))]]⟩,some ⟨1,false,(List.map (d7 .u8) r3)⟩]) (by kernel_rfl) (by kernel_rfl)
 · --it goes on
   refine o7 hm 14 _ ?_
   obtain rfl:=Option.some.inj h
   exact ch5 (q' :=.go (P7 l (.s1 y1.2.2.1 r3))) (by kernel_rfl) (aF5 (by kernel_rfl) ha)
noncomputable def az3 (b1:List Int):Option (List (Int×W5)):=evl O8 (.s0 b1)
theorem bF7 {b1:List Int}{r:List (Int×W5)} (h:az3 b1=some r):av1 E 65 [D.ptr 0 0 0] [some ⟨1,true,[[(i9 1 (List.map (d7 .u8) b1))]]⟩,some ⟨1,false,(List.map (d7 .u8) b1)⟩] [some ⟨1,true,[[(i9 1 (List.map (d7 .u8) b1))]]⟩,some ⟨1,false,(List.map (d7 .u8) b1)⟩] (List.map L6 r):=
 cw5 (m:=fun l=>P7 l (.s0 b1)) (fn:=Tryd.f65) (by kernel_rfl) (fun l=>by kernel_rfl) (show List.take _ _=_ by kernel_rfl) (show C6 _ _=_ by kernel_rfl) (fun l φ0 J=>cm3 (step:=O8) (lnS:=ab0) (fun s x Y hl hs ha=>by
  cases s with
  | s0=>exact bu1 hl hs ha
  | s1=>exact bu4 hl hs ha) (by kernel_rfl) (cy3 h))
end Go.RX.L
